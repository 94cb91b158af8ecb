/- Lemmas for the statements of this seat. -/
import Derived.Test.YtfjfekodeplcoaaGreatT0
noncomputable section
namespace Go.Proofs.YtfjfekodeplcoaaGreat.Sym.Path
open Go Tryz
set_option maxRecDepth 20000
set_option linter.unusedVariables false
namespace lv
theorem e0(c:Nat)(h1:97≤c)(h2:c≤122):Cp 136 [(.int .u8 (c:Int))] (vB true) :=
 eD func136 72 [1,1,1,1,1,1,1,1] [.q,.aR [.o,.o,.o,.o,.o,(.dec true),.o,.skip,.skip,.skip,.skip,.skip,.skip,(.dec true)]] (y8 (bB h1) (bB h1) (bB h1) (bB h2) (bB h2) (bB h2) (bB h2) (bB h2))
theorem e1(c:Nat)(h1:97≤c)(h2:122<c)(h3:65≤c):Cp 136 [(.int .u8 (c:Int))] (vB (decide ((c:Int)≤90))) :=
 eD func136 72 [1,1,1,1,1,1,1,1,1,1,1] [.q,.aR [.o,.o,.o,.o,.o,(.dec true),.o,.o,.o,.o,.o,.o,(.dec true),(.dec false)]] (Fb (bB h1) (bB h1) (bB h1) (aZ h2) (aZ h2) (aZ h2) (bB h3) (bB h3) (aZ h2) (bB h3) (aZ h2))
theorem e3(c:Nat)(h1:c<97)(h2:65≤c):Cp 136 [(.int .u8 (c:Int))] (vB (decide ((c:Int)≤90))) :=
 eD func136 72 [1,1,1,1,1,1,1,1,1,1] [.q,.aR [.o,.o,.o,.skip,.skip,(.dec false),.o,.o,.o,.o,.o,.o,(.dec true)]] (CM (aZ h1) (aZ h1) (aZ h1) (Eq.refl false) (Eq.refl false) (Eq.refl false) (bB h2) (bB h2) (Eq.refl false) (bB h2))
theorem e4(c:Nat)(h1:c<97)(h2:c<65):Cp 136 [(.int .u8 (c:Int))] (vB false) :=
 eD func136 72 [1,1,1,1,1,1,1,1,1,1] [.q,.aR [.o,.o,.o,.skip,.skip,(.dec false),.o,.o,.o,.o,.skip,.skip,(.dec false)]] (CM (aZ h1) (aZ h1) (aZ h1) (Eq.refl false) (Eq.refl false) (Eq.refl false) (aZ h2) (aZ h2) (Eq.refl false) (aZ h2))
end lv
namespace r9
theorem e0(c:Nat)(h1:48≤c):Cp 155 [(.int .u8 (c:Int))] (vB (decide ((c:Int)≤57))) :=
 eD func155 72 [1,1,1] [.q,.h 5 (.dec true)] (y3 (bB h1) (bB h1) (bB h1))
theorem e1(c:Nat)(h1:c<48):Cp 155 [(.int .u8 (c:Int))] (vB false) :=
 eD func155 72 [1,1,1] [.q,.aR [.o,.o,.o,.skip,.skip,(.dec false)]] (y3 (aZ h1) (aZ h1) (aZ h1))
end r9
namespace qL
theorem e0(c:Nat)(a:Bool)(h1:Cp 136 [(.int .u8 (c:Int))] (vB a))(h2:a=true):Cp 137 [(.int .u8 (c:Int))] (vB true) :=
 eD func137 72 [1,1,1,1,1,1] [.q,.aR [.o,(.pv (vB a)),.o,.skip,.skip,(.dec true),.o,.skip,.skip]] (y6 h1 h2 h2 h2 (Eq.refl true) (Eq.refl true))
theorem e1(c:Nat)(a b:Bool)(h1:Cp 136 [(.int .u8 (c:Int))] (vB a))(h2:a=false)(h3:Cp 155 [(.int .u8 (c:Int))] (vB b))(h4:b=true):Cp 137 [(.int .u8 (c:Int))] (vB true) :=
 eD func137 72 [1,1,1,1,1,1,1,1] [.q,.aR [.o,(.pv (vB a)),.o,.o,(.pv (vB b)),(.dec false),.o,.skip,.skip,(.dec true)]] (y8 h1 h2 h2 h3 h2 h4 h4 h4)
theorem e2(c:Nat)(a b:Bool)(h1:Cp 136 [(.int .u8 (c:Int))] (vB a))(h2:a=false)(h3:Cp 155 [(.int .u8 (c:Int))] (vB b))(h4:b=false):Cp 137 [(.int .u8 (c:Int))] (vB ((c:Int)==95)) :=
 eD func137 72 [1,1,1,1,1,1,1,1] [.q,.aR [.o,(.pv (vB a)),.o,.o,(.pv (vB b)),(.dec false),.o,.o,.o,(.dec false)]] (y8 h1 h2 h2 h3 h2 h4 h4 h4)
end qL
namespace jw
@[reducible] def fn:Func:=Tryz.f96
def bM:List eh:=focus [0,2,0,0,2,1,2,0,2,0,0,0] [.code (az fn)]
def inv1(s:ByteArray)(IT:Nat):St:=⟨[(0,(.pv (.str s))),(3,(eI (IT:Int)))],[]⟩
@[reducible] def au(s:ByteArray)(IT:Nat)(r:PV):Prop:=L bp fn bM (inv1 s IT) r
theorem e0(s:ByteArray)(h1:s=(ByteArray.mk #[])):Cp 96 [(.str s)] (vI 0) :=
 eD func96 84 [1,1,1,1,1] [.q,.aR [.o,.o,.o,.skip,.skip,.skip,.skip,(.dec true)],.a,.q] (y5 (bj h1) (bj h1) (bj h1) (bj h1) (bj h1))
theorem e1(s:ByteArray)(b:Nat)(a:Bool)(h1:s≠(ByteArray.mk #[]))(h2:(s.data.toList[0]?).map (fun b=>(b.toNat:Int))=some (b:Int))(h3:Cp 136 [(.int .u8 (b:Int))] (vB a))(h4:a=false):Cp 96 [(.str s)] (vI 0) :=
 eD func96 84 [1,1,2,1,1,1,1,1] [.q,.aR [.o,.o,.o,.o,(.row 0 [.int .u8 (b:Int)]),(.pv (vB a)),.o,(.dec false)],.t,.q] (y8 (cG h1) (cG h1) (cj (Eq.refl (0:Int)) h2) (cG h1) h3 (cG h1) (cG h1) (aF h4))
theorem e2(s:ByteArray)(b:Nat)(a:Bool){r:PV}(h1:s≠(ByteArray.mk #[]))(h2:(s.data.toList[0]?).map (fun b=>(b.toNat:Int))=some (b:Int))(h3:Cp 136 [(.int .u8 (b:Int))] (vB a))(h4:a=true)(hL:au s 1 r):Cp 96 [(.str s)] r :=
 eG func96 96 [1,1,2,1,1,1,1,1] [.q,.aR [.o,.o,.o,.o,(.row 0 [.int .u8 (b:Int)]),(.pv (vB a)),.o,(.dec false)],.f,.q,.aN [0,3]] (y8 (cG h1) (cG h1) (cj (Eq.refl (0:Int)) h2) (cG h1) h3 (cG h1) (cG h1) (ae h4)) hL
theorem eo(s:ByteArray)(c b:Nat)(d:Bool){r:PV}(h1:c<s.size)(h2:(s.data.toList[c]?).map (fun b=>(b.toNat:Int))=some (b:Int))(h3:Cp 137 [(.int .u8 (b:Int))] (vB d))(h4:d=true)(h5:(c+1)<9223372036854775808)(hL:au s (c+1) r):au s c r :=
 lG 123 [1,1,1,1,2,1,1,1,1,1] [.a,.aR [.o,.o,(iI (s.size:Int)),.o,.o,.o,.o,(.row c [.int .u8 (b:Int)]),(.pv (vB d)),(.dec true)],.t,.h 1 (iI (((c+1):Nat):Int)),.aN [0,3]] (CM (Eq.refl ((s.size:Nat):Int)) (ax h1) (ax h1) (ax h1) (cj (Eq.refl (((c:Nat):Int):Int)) h2) (ax h1) h3 (ax h1) h4 (aH h5)) hL
theorem ew(s:ByteArray)(c b:Nat)(d:Bool)(h1:c<s.size)(h2:(s.data.toList[c]?).map (fun b=>(b.toNat:Int))=some (b:Int))(h3:Cp 137 [(.int .u8 (b:Int))] (vB d))(h4:d=false):au s c (vI (c:Int)) :=
 lD 129 [1,1,1,1,2,1,1,1,1] [.a,.aR [.o,.o,(iI (s.size:Int)),.o,.o,.o,.o,(.row c [.int .u8 (b:Int)]),(.pv (vB d)),(.dec true)],.f,.q] (y9 (Eq.refl ((s.size:Nat):Int)) (ax h1) (ax h1) (ax h1) (cj (Eq.refl (((c:Nat):Int):Int)) h2) (ax h1) h3 (ax h1) h4)
theorem nr(s:ByteArray)(b:Nat)(h1:s.size≤b):au s b (vI (b:Int)) :=
 lD 129 [1,1,1,1,1,1] [.a,.aR [.o,.o,(iI (s.size:Int)),.o,.o,.skip,.skip,.skip,.skip,(.dec false)],.a,.q] (y6 (Eq.refl ((s.size:Nat):Int)) (ay h1) (ay h1) (ay h1) (ay h1) (ay h1))
end jw
namespace qM
theorem e0(s:ByteArray)(a:Int)(h1:Cp 96 [(.str s)] (vI a))(h2:0<a)(h3:a=(s.size:Int)):Cp 53 [(.str s)] (vB (decide (a≤24))) :=
 eD func53 78 [1,1,1,1,1,1,1,1,1,1] [.q,.h 1 (.pv (vI a)),.aR [.o,.o,.o,.o,.o,(iI (s.size:Int)),.o,(.dec true),.o,.o,.o,(.dec true)]] (CM h1 (bd h2) (bd h2) (bd h2) (Eq.refl ((s.size:Nat):Int)) (bd h2) (bd h2) (aP h3) (aP h3) (aP h3))
theorem e1(s:ByteArray)(a:Int)(h1:Cp 96 [(.str s)] (vI a))(h2:0<a)(h3:a≠(s.size:Int)):Cp 53 [(.str s)] (vB false) :=
 eD func53 78 [1,1,1,1,1,1,1,1,1,1] [.q,.h 1 (.pv (vI a)),.aR [.o,.o,.o,.o,.o,(iI (s.size:Int)),.o,(.dec true),.o,.skip,.skip,(.dec false)]] (CM h1 (bd h2) (bd h2) (bd h2) (Eq.refl ((s.size:Nat):Int)) (bd h2) (bd h2) (bP h3) (bP h3) (bP h3))
theorem e2(s:ByteArray)(a:Int)(h1:Cp 96 [(.str s)] (vI a))(h2:a≤0):Cp 53 [(.str s)] (vB false) :=
 eD func53 78 [1,1,1,1,1,1,1,1] [.q,.h 1 (.pv (vI a)),.aR [.o,.o,.o,.skip,.skip,.skip,.skip,(.dec false),.o,.skip,.skip]] (y8 h1 (ba h2) (ba h2) (ba h2) (ba h2) (ba h2) (Eq.refl false) (Eq.refl false))
end qM
namespace bU
@[reducible] def fn:Func:=Tryz.f54
def bM:List eh:=focus [0,2,0,0,2,0,0] [.code (az fn)]
def inv1(l:List ah)(qF:Nat):St:=⟨[(0,(.pv (bG ah.cells l))),(11,(.pv (bG ah.cells l))),(12,(eI (l.length:Int))),(13,(eI (qF:Int)))],[]⟩
@[reducible] def au(l:List ah)(qF:Nat)(r:PV):Prop:=L bp fn bM (inv1 l qF) r
def fw:List eh:=focus [0,2,0,0,2,0,0,0,0,2,0,0,2,0,0,0,2,0,0,2,1,2,0,0,2,0,0] [.code (az fn)]
def inv2(l:List ah)(qF:Nat)(zL:List ah)(Fg NA:Nat)(v:ah):St:=⟨[(0,(.pv (bG ah.cells l))),(4,(.ptr 4 0)),(11,(.pv (bG ah.cells l))),(12,(eI (l.length:Int))),(13,(eI (qF:Int))),(25,(.pv (bG ah.cells zL))),(26,(eI (Fg:Int))),(27,(eI (NA:Int)))],[(4,(.lit [(.pv (.str v.name)),(.pv (bG ai.cells v.points))]))]⟩
@[reducible] def aM(l:List ah)(qF:Nat)(zL:List ah)(Fg NA:Nat)(v:ah)(r:PV):Prop:=L bp fn fw (inv2 l qF zL Fg NA v) r
def B9:List eh:=focus [0,2,0,0,2,0,0,0,0,2,0,0,2,0,0,0,2,0,0,2,1,2,0,0,2,0,0,0,0,2,0,1,2,2,2,2,0,0,2,1,2,0,2,0,0] [.code (az fn)]
def Ca(l:List ah)(qF:Nat)(v:ah)(zM:Nat):St:=⟨[(0,(.pv (bG ah.cells l))),(4,(.ptr 4 0)),(11,(.pv (bG ah.cells l))),(12,(eI (l.length:Int))),(13,(eI (qF:Int))),(44,(.pv (bG ai.cells v.points))),(45,(eI (v.points.length:Int))),(46,(eI (zM:Int)))],[(4,(.lit [(.pv (.str v.name)),(.pv (bG ai.cells v.points))]))]⟩
@[reducible] def fp(l:List ah)(qF:Nat)(v:ah)(zM:Nat)(r:PV):Prop:=L bp fn B9 (Ca l qF v zM) r
def IU:List eh:=focus [0,2,0,0,2,0,0,0,0,2,0,0,2,0,0,0,2,0,0,2,1,2,0,0,2,0,0,0,0,2,0,1,2,2,2,2,0,0,2,1,2,0,2,0,0,0,0,2,0,0,2,0,0,0,2,0,0,2,1,2,0,0,2,0,0] [.code (az fn)]
def IV(l:List ah)(qF:Nat)(v:ah)(zM:Nat)(Fk:List ai)(Fl NB:Nat)(v1:ai):St:=⟨[(0,(.pv (bG ah.cells l))),(4,(.ptr 4 0)),(8,(.ptr 8 0)),(11,(.pv (bG ah.cells l))),(12,(eI (l.length:Int))),(13,(eI (qF:Int))),(44,(.pv (bG ai.cells v.points))),(45,(eI (v.points.length:Int))),(46,(eI (zM:Int))),(59,(.pv (bG ai.cells Fk))),(60,(eI (Fl:Int))),(61,(eI (NB:Int)))],[(4,(.lit [(.pv (.str v.name)),(.pv (bG ai.cells v.points))])),(8,(.lit [(.pv (.str v1.name)),(eB v1.x.neg),(.pv (aa v1.x.num)),(.pv (aa v1.x.den)),(eB v1.y.neg),(.pv (aa v1.y.num)),(.pv (aa v1.y.den))]))]⟩
@[reducible] def kF(l:List ah)(qF:Nat)(v:ah)(zM:Nat)(Fk:List ai)(Fl NB:Nat)(v1:ai)(r:PV):Prop:=L bp fn IU (IV l qF v zM Fk Fl NB v1) r
theorem e0 (l : List ah) {r : PV}  (hL : au l 0 r) : Cp 54 [bG ah.cells l] r :=
 eG func54 81 [1] [.q,.h 1 (iI (l.length:Int)),.aN [0,11,12,13]] (y1 (ar ah.cells l)) hL
theorem eo(l:List ah)(b:Nat)(v:ah)(c:Bool)(h1:b<l.length)(h2:l[b]? = some v)(h3:Cp 53 [(.str v.name)] (vB c))(h4:c=false):au l b (.iface 74 (vI 5)) :=
 lD 129 [1,3,1,1] [.a,.q,.t,.h 1 (.row b (ah.cells v)),.h 2 (.pv (vB c)),.t,.q] (y4 (ax h1) (aY ah.cells (Eq.refl (((b:Nat):Int):Int)) h2) h3 (aF h4))
theorem ew(l:List ah)(b:Nat)(v:ah)(c:Bool){r:PV}(h1:b<l.length)(h2:l[b]? = some v)(h3:Cp 53 [(.str v.name)] (vB c))(h4:c=true)(h5:b≤l.length)(hL:aM l b (l.take b) ((l.take b).length) 0 v r):au l b r :=
 lG 141 [1,3,1,1,6,1] [.a,.q,.t,.h 1 (.row b (ah.cells v)),.h 2 (.pv (vB c)),.f,.aR [.o,.o,(.rq 0 b (((l.take b):List ah).map ah.cells)),(iI (((l.take b).length:Nat):Int))],.aN [0,4,11,12,13,25,26,27]] (y6 (ax h1) (aY ah.cells (Eq.refl (((b:Nat):Int):Int)) h2) h3 (ae h4) (w8 nU (l:List ah) (Eq.refl (((b:Nat):Int):Int)) h5) (ar ah.cells (l.take b))) hL
theorem nr(l:List ah)(b:Nat)(h1:l.length≤b):au l b .cd :=
 lD 114 [1] [.a,.q,.f,.q] (y1 (ay h1))
theorem mX(l:List ah)(b:Nat)(c:List ah)(d g:Nat)(v v1:ah)(h1:g<d)(h2:c[g]? = some v1)(h3:v1.name=v.name):aM l b c d g v (.iface 74 (vI 6)) :=
 lD 186 [1,3,1] [.a,.q,.t,.h 0 (.row g (ah.cells v1)),.q,.t,.q] (y3 (ax h1) (aY ah.cells (Eq.refl (((g:Nat):Int):Int)) h2) (bj h3))
theorem mY(l:List ah)(b:Nat)(c:List ah)(d g:Nat)(v v1:ah){r:PV}(h1:g<d)(h2:c[g]? = some v1)(h3:v1.name≠v.name)(h4:(g+1)<9223372036854775808)(hL:aM l b c d (g+1) v r):aM l b c d g v r :=
 lG 189 [1,3,1,1] [.a,.q,.t,.h 0 (.row g (ah.cells v1)),.q,.f,.h 0 (iI (((g+1):Nat):Int)),.aN [0,4,11,12,13,25,26,27],.drop [6]] (y4 (ax h1) (aY ah.cells (Eq.refl (((g:Nat):Int):Int)) h2) (cG h3) (aH h4)) hL
theorem xR(l:List ah)(b:Nat)(c:List ah)(d g:Nat)(v:ah)(h1:d≤g)(h2:8<v.points.length):aM l b c d g v (.iface 74 (vI 4)) :=
 lD 186 [1,1,1] [.a,.q,.f,.h 2 (iI (v.points.length:Int)),.t,.q] (y3 (ay h1) (ar ai.cells v.points) (ax h2))
theorem IS(l:List ah)(b:Nat)(c:List ah)(d g:Nat)(v:ah){r:PV}(h1:d≤g)(h2:v.points.length≤8)(hL:fp l b v 0 r):aM l b c d g v r :=
 lG 195 [1,1,1,1] [.a,.q,.f,.h 2 (iI (v.points.length:Int)),.f,.h 2 (iI (v.points.length:Int)),.aN [0,4,11,12,13,44,45,46]] (y4 (ay h1) (ar ai.cells v.points) (ay h2) (ar ai.cells v.points)) hL
theorem KV(l:List ah)(b:Nat)(v:ah)(c:Nat)(v1:ai)(d:Bool)(h1:c<v.points.length)(h2:v.points[c]? = some v1)(h3:Cp 53 [(.str v1.name)] (vB d))(h4:d=false):fp l b v c (.iface 74 (vI 5)) :=
 lD 243 [1,3,1,1] [.a,.q,.t,.h 1 (.row c (ai.cells v1)),.h 2 (.pv (vB d)),.t,.q] (y4 (ax h1) (aY ai.cells (Eq.refl (((c:Nat):Int):Int)) h2) h3 (aF h4))
theorem KW(l:List ah)(b:Nat)(v:ah)(c:Nat)(v1:ai)(d:Bool){r:PV}(h1:c<v.points.length)(h2:v.points[c]? = some v1)(h3:Cp 53 [(.str v1.name)] (vB d))(h4:d=true)(h5:c≤v.points.length)(hL:kF l b v c (v.points.take c) ((v.points.take c).length) 0 v1 r):fp l b v c r :=
 lG 255 [1,3,1,1,6,1] [.a,.q,.t,.h 1 (.row c (ai.cells v1)),.h 2 (.pv (vB d)),.f,.aR [.o,.o,.o,(.rq 0 c (((v.points.take c):List ai).map ai.cells)),(iI (((v.points.take c).length:Nat):Int))],.aN [0,4,8,11,12,13,44,45,46,59,60,61],.ord [4,8]] (y6 (ax h1) (aY ai.cells (Eq.refl (((c:Nat):Int):Int)) h2) h3 (ae h4) (w8 fm (v.points:List ai) (Eq.refl (((c:Nat):Int):Int)) h5) (ar ai.cells (v.points.take c))) hL
theorem PR(l:List ah)(b:Nat)(v:ah)(c:Nat){r:PV}(h1:v.points.length≤c)(h2:(b+1)<9223372036854775808)(hL:au l (b+1) r):fp l b v c r :=
 lG 228 [1,1] [.a,.q,.f,.h 0 (iI (((b+1):Nat):Int)),.aN [0,11,12,13],.drop [4]] (y2 (ay h1) (aH h2)) hL
theorem PL(l:List ah)(b:Nat)(v:ah)(c:Nat)(d:List ai)(g i:Nat)(v1 v2:ai)(h1:i<g)(h2:d[i]? = some v2)(h3:v2.name=v1.name):kF l b v c d g i v1 (.iface 74 (vI 6)) :=
 lD 300 [1,3,1] [.a,.q,.t,.h 0 (.row i (ai.cells v2)),.q,.t,.q] (y3 (ax h1) (aY ai.cells (Eq.refl (((i:Nat):Int):Int)) h2) (bj h3))
theorem PM(l:List ah)(b:Nat)(v:ah)(c:Nat)(d:List ai)(g i:Nat)(v1 v2:ai){r:PV}(h1:i<g)(h2:d[i]? = some v2)(h3:v2.name≠v1.name)(h4:(i+1)<9223372036854775808)(hL:kF l b v c d g (i+1) v1 r):kF l b v c d g i v1 r :=
 lG 303 [1,3,1,1] [.a,.q,.t,.h 0 (.row i (ai.cells v2)),.q,.f,.h 0 (iI (((i+1):Nat):Int)),.aN [0,4,8,11,12,13,44,45,46,59,60,61],.drop [10]] (y4 (ax h1) (aY ai.cells (Eq.refl (((i:Nat):Int):Int)) h2) (cG h3) (aH h4)) hL
theorem VU(l:List ah)(b:Nat)(v:ah)(c:Nat)(d:List ai)(g i:Nat)(v1:ai)(j:Bool)(h1:g≤i)(h2:Cp 34 [v1.x.pv] (vB j))(h3:j=false):kF l b v c d g i v1 (.iface 74 (vI 3)) :=
 lD 297 [1,1,1,1,1,1,1] [.a,.q,.f,.aR [.o,.o,(.pv (vB j)),.o,.o,.skip,.skip,.skip,.skip,(.dec true)],.a,.q] (y7 (ay h1) h2 (aF h3) (aF h3) (aF h3) (aF h3) (aF h3))
theorem VV(l:List ah)(b:Nat)(v:ah)(c:Nat)(d:List ai)(g i:Nat)(v1:ai)(j k:Bool)(h1:g≤i)(h2:Cp 34 [v1.x.pv] (vB j))(h3:j=true)(h4:Cp 34 [v1.y.pv] (vB k))(h5:k=false):kF l b v c d g i v1 (.iface 74 (vI 3)) :=
 lD 297 [1,1,1,1,1,1,1,1,1] [.a,.q,.f,.aR [.o,.o,(.pv (vB j)),.o,.o,.o,.o,(.pv (vB k)),.o,(.dec false)],.t,.q] (y9 (ay h1) h2 (ae h3) (ae h3) (ae h3) h4 (ae h3) (ae h3) (aF h5))
theorem VW(l:List ah)(b:Nat)(v:ah)(c:Nat)(d:List ai)(g i:Nat)(v1:ai)(j k:Bool){r:PV}(h1:g≤i)(h2:Cp 34 [v1.x.pv] (vB j))(h3:j=true)(h4:Cp 34 [v1.y.pv] (vB k))(h5:k=true)(h6:(c+1)<9223372036854775808)(hL:fp l b v (c+1) r):kF l b v c d g i v1 r :=
 lG 300 [1,1,1,1,1,1,1,1,1,1] [.a,.q,.f,.aR [.o,.o,(.pv (vB j)),.o,.o,.o,.o,(.pv (vB k)),.o,(.dec false)],.f,.h 0 (iI (((c+1):Nat):Int)),.aN [0,4,11,12,13,44,45,46],.drop [8]] (CM (ay h1) h2 (ae h3) (ae h3) (ae h3) h4 (ae h3) (ae h3) (ae h5) (aH h6)) hL
end bU
namespace zN
theorem e0(i n:Int)(h1:0≤i):Cp 98 [vI i,vI n] (vB (decide (i<n))) :=
 eD func98 72 [1,1,1,1] [.q,.h 6 (.dec true)] (y4 (dz h1) (dz h1) (dz h1) (dz h1))
theorem e1(i n:Int)(h1:i<0):Cp 98 [vI i,vI n] (vB false) :=
 eD func98 72 [1,1,1,1] [.q,.aR [.o,.o,.o,.skip,.skip,.skip,(.dec false)]] (y4 (eL h1) (eL h1) (eL h1) (eL h1))
end zN
namespace cC
theorem e0(l:aj)(j:ak)(h1:j.kind≠0)(h2:j.kind≠1):Cp 97 [l.pv,j.pv] (.iface 74 (vI 7)) :=
 eD func97 84 [1,1,1,1,1] [.q,.h 7 (.dec true),.t,.q] (y5 (bq h1) (bq h1) (bq h1) (bq h1) (bq h2))
theorem e1(l:aj)(j:ak)(b:Bool)(h1:j.kind≠0)(h2:j.kind=1)(h3:Cp 98 [vI j.a,(vI (l.ab.length:Int))] (vB b))(h4:b=false):Cp 97 [l.pv,j.pv] (.iface 74 (vI 9)) :=
 eD func97 99 [1,1,1,1,1,1,1,1,1,1,1,1,1,1,1] [.q,.h 7 (.dec true),.f,.aR [.o,.o,.o,.o,(iI (l.ab.length:Int)),(.pv (vB b)),.o,.o,.skip,.skip,.skip,.skip,.skip,.skip,.skip,(.dec true)],.a,.q] (LZ (bq h1) (bq h1) (bq h1) (bq h1) (aA h2) (ar ah.cells l.ab) h3 (aF h4) (aF h4) (aF h4) (aF h4) (aF h4) (aF h4) (aF h4) (aF h4))
theorem e2(l:aj)(j:ak)(c d:Bool)(h1:j.kind≠0)(h2:j.kind=1)(h3:Cp 98 [vI j.a,(vI (l.ab.length:Int))] (vB c))(h4:c=true)(h5:Cp 98 [vI j.b,(vI (l.ab.length:Int))] (vB d))(h6:d=false):Cp 97 [l.pv,j.pv] (.iface 74 (vI 9)) :=
 eD func97 99 [1,1,1,1,1,1,1,1,1,1,1,1,1,1,1,1,1,1] [.q,.h 7 (.dec true),.f,.aR [.o,.o,.o,.o,(iI (l.ab.length:Int)),(.pv (vB c)),.o,.o,.o,.o,.o,.o,(iI (l.ab.length:Int)),(.pv (vB d)),.o,(.dec false)],.t,.q] (PJ (bq h1) (bq h1) (bq h1) (bq h1) (aA h2) (ar ah.cells l.ab) h3 (ae h4) (ae h4) (ae h4) (ae h4) (ae h4) (ar ah.cells l.ab) (ae h4) h5 (ae h4) (ae h4) (aF h6))
theorem e3(l:aj)(j:ak)(c d:Bool)(h1:j.kind≠0)(h2:j.kind=1)(h3:Cp 98 [vI j.a,(vI (l.ab.length:Int))] (vB c))(h4:c=true)(h5:Cp 98 [vI j.b,(vI (l.ab.length:Int))] (vB d))(h6:d=true)(h7:j.a=j.b):Cp 97 [l.pv,j.pv] (.iface 74 (vI 13)) :=
 eD func97 114 [1,1,1,1,1,1,1,1,1,1,1,1,1,1,1,1,1,1,1] [.q,.h 7 (.dec true),.f,.aR [.o,.o,.o,.o,(iI (l.ab.length:Int)),(.pv (vB c)),.o,.o,.o,.o,.o,.o,(iI (l.ab.length:Int)),(.pv (vB d)),.o,(.dec false)],.f,.q,.t,.q] (OK (bq h1) (bq h1) (bq h1) (bq h1) (aA h2) (ar ah.cells l.ab) h3 (ae h4) (ae h4) (ae h4) (ae h4) (ae h4) (ar ah.cells l.ab) (ae h4) h5 (ae h4) (ae h4) (ae h6) (aP h7))
theorem e4(l:aj)(j:ak)(c d:Bool)(k:Nat)(v:ah)(k1:Nat)(v1:ah)(g:Bool)(h1:j.kind≠0)(h2:j.kind=1)(h3:Cp 98 [vI j.a,(vI (l.ab.length:Int))] (vB c))(h4:c=true)(h5:Cp 98 [vI j.b,(vI (l.ab.length:Int))] (vB d))(h6:d=true)(h7:j.a≠j.b)(h8:j.b=(k:Int))(h9:l.ab[k]? = some v)(bg:j.a=(k1:Int))(cR:l.ab[k1]? = some v1)(cw:Cp 98 [vI j.dx,(vI (v1.points.length:Int))] (vB g))(cu:g=false):Cp 97 [l.pv,j.pv] (.iface 74 (vI 9)) :=
 eD func97 135 [1,1,1,1,1,1,1,1,1,1,1,1,1,1,1,1,1,1,1,3,3,1,1,1,1,1,1,1,1,1] [.q,.h 7 (.dec true),.f,.aR [.o,.o,.o,.o,(iI (l.ab.length:Int)),(.pv (vB c)),.o,.o,.o,.o,.o,.o,(iI (l.ab.length:Int)),(.pv (vB d)),.o,(.dec false)],.f,.q,.f,.h 4 (.row k (ah.cells v)),dr 20 0 [.none,.none,.none,.none,.none,.none,(.row k1 (ah.cells v1)),.none,.none,(iI (v1.points.length:Int)),(.pv (vB g)),.none,.none,.skip,.skip,.skip,.skip,.skip,.skip,(.dec true)],.a,.q] (Ua (bq h1) (bq h1) (bq h1) (bq h1) (aA h2) (ar ah.cells l.ab) h3 (ae h4) (ae h4) (ae h4) (ae h4) (ae h4) (ar ah.cells l.ab) (ae h4) h5 (ae h4) (ae h4) (ae h6) (bP h7) (aY ah.cells h8 h9) (aY ah.cells bg cR) (ar ai.cells v1.points) cw (aF cu) (aF cu) (aF cu) (aF cu) (aF cu) (aF cu) (aF cu))
theorem e5(l:aj)(j:ak)(c d:Bool)(k:Nat)(v:ah)(k1:Nat)(v1:ah)(g i:Bool)(h1:j.kind≠0)(h2:j.kind=1)(h3:Cp 98 [vI j.a,(vI (l.ab.length:Int))] (vB c))(h4:c=true)(h5:Cp 98 [vI j.b,(vI (l.ab.length:Int))] (vB d))(h6:d=true)(h7:j.a≠j.b)(h8:j.b=(k:Int))(h9:l.ab[k]? = some v)(bg:j.a=(k1:Int))(cR:l.ab[k1]? = some v1)(cw:Cp 98 [vI j.dx,(vI (v1.points.length:Int))] (vB g))(cu:g=true)(dZ:Cp 98 [vI j.ou,(vI (v.points.length:Int))] (vB i))(ej:i=false):Cp 97 [l.pv,j.pv] (.iface 74 (vI 9)) :=
 eD func97 135 [1,1,1,1,1,1,1,1,1,1,1,1,1,1,1,1,1,1,1,3,3,1,1,1,1,1,1,1,1,1,1,1,1] [.q,.h 7 (.dec true),.f,.aR [.o,.o,.o,.o,(iI (l.ab.length:Int)),(.pv (vB c)),.o,.o,.o,.o,.o,.o,(iI (l.ab.length:Int)),(.pv (vB d)),.o,(.dec false)],.f,.q,.f,.h 4 (.row k (ah.cells v)),dr 20 0 [.none,.none,.none,.none,.none,.none,(.row k1 (ah.cells v1)),.none,.none,(iI (v1.points.length:Int)),(.pv (vB g)),.none,.none,.none,.none,.none,(iI (v.points.length:Int)),(.pv (vB i)),.none,(.dec false)],.t,.q] (Ub (bq h1) (bq h1) (bq h1) (bq h1) (aA h2) (ar ah.cells l.ab) h3 (ae h4) (ae h4) (ae h4) (ae h4) (ae h4) (ar ah.cells l.ab) (ae h4) h5 (ae h4) (ae h4) (ae h6) (bP h7) (aY ah.cells h8 h9) (aY ah.cells bg cR) (ar ai.cells v1.points) cw (ae cu) (ae cu) (ae cu) (ae cu) (ar ai.cells v.points) (ae cu) dZ (ae cu) (ae cu) (aF ej))
theorem e8(l:aj)(j:ak)(c d:Bool)(k:Nat)(v:ah)(k1:Nat)(v1:ah)(g i m:Bool)(h1:j.kind≠0)(h2:j.kind=1)(h3:Cp 98 [vI j.a,(vI (l.ab.length:Int))] (vB c))(h4:c=true)(h5:Cp 98 [vI j.b,(vI (l.ab.length:Int))] (vB d))(h6:d=true)(h7:j.a≠j.b)(h8:j.b=(k:Int))(h9:l.ab[k]? = some v)(bg:j.a=(k1:Int))(cR:l.ab[k1]? = some v1)(cw:Cp 98 [vI j.dx,(vI (v1.points.length:Int))] (vB g))(cu:g=true)(dZ:Cp 98 [vI j.ou,(vI (v.points.length:Int))] (vB i))(ej:i=true)(fP:Cp 98 [vI j.mR,(vI (v.points.length:Int))] (vB m))(jB:m=false):Cp 97 [l.pv,j.pv] (.iface 74 (vI 9)) :=
 eD func97 165 [1,1,1,1,1,1,1,1,1,1,1,1,1,1,1,1,1,1,1,3,3,1,1,1,1,1,1,1,1,1,1,1,1,1,1,1,1] [.q,.h 7 (.dec true),.f,.aR [.o,.o,.o,.o,(iI (l.ab.length:Int)),(.pv (vB c)),.o,.o,.o,.o,.o,.o,(iI (l.ab.length:Int)),(.pv (vB d)),.o,(.dec false)],.f,.q,.f,.h 4 (.row k (ah.cells v)),dr 20 0 [.none,.none,.none,.none,.none,.none,(.row k1 (ah.cells v1)),.none,.none,(iI (v1.points.length:Int)),(.pv (vB g)),.none,.none,.none,.none,.none,(iI (v.points.length:Int)),(.pv (vB i)),.none,(.dec false)],.f,.q,.f,.aR [.o,.o,.o,(iI (v.points.length:Int)),(.pv (vB m))],.t,.q] (Uc (bq h1) (bq h1) (bq h1) (bq h1) (aA h2) (ar ah.cells l.ab) h3 (ae h4) (ae h4) (ae h4) (ae h4) (ae h4) (ar ah.cells l.ab) (ae h4) h5 (ae h4) (ae h4) (ae h6) (bP h7) (aY ah.cells h8 h9) (aY ah.cells bg cR) (ar ai.cells v1.points) cw (ae cu) (ae cu) (ae cu) (ae cu) (ar ai.cells v.points) (ae cu) dZ (ae cu) (ae cu) (ae ej) (bP h1) (ar ai.cells v.points) fP (aF jB))
theorem e9(l:aj)(j:ak)(c d:Bool)(k:Nat)(v:ah)(k1:Nat)(v1:ah)(g i m:Bool)(k2:Nat)(v2:ai)(k3:Nat)(v3:ai)(n p:Int)(h1:j.kind≠0)(h2:j.kind=1)(h3:Cp 98 [vI j.a,(vI (l.ab.length:Int))] (vB c))(h4:c=true)(h5:Cp 98 [vI j.b,(vI (l.ab.length:Int))] (vB d))(h6:d=true)(h7:j.a≠j.b)(h8:j.b=(k:Int))(h9:l.ab[k]? = some v)(bg:j.a=(k1:Int))(cR:l.ab[k1]? = some v1)(cw:Cp 98 [vI j.dx,(vI (v1.points.length:Int))] (vB g))(cu:g=true)(dZ:Cp 98 [vI j.ou,(vI (v.points.length:Int))] (vB i))(ej:i=true)(fP:Cp 98 [vI j.mR,(vI (v.points.length:Int))] (vB m))(jB:m=true)(gw:j.ou=(k2:Int))(gH:v.points[k2]? = some v2)(gz:j.mR=(k3:Int))(gu:v.points[k3]? = some v3)(me:Cp 113 [v2.x.pv,v3.x.pv] (vI n))(je:n=0)(pY:Cp 113 [v2.y.pv,v3.y.pv] (vI p))(Dr:p=0):Cp 97 [l.pv,j.pv] (.iface 74 (vI 8)) :=
 eD func97 186 [1,1,1,1,1,1,1,1,1,1,1,1,1,1,1,1,1,1,1,3,3,1,1,1,1,1,1,1,1,1,1,1,1,1,1,1,1,3,3,1,1,1,1,1,1,1,1,1,1] [.q,.h 7 (.dec true),.f,.aR [.o,.o,.o,.o,(iI (l.ab.length:Int)),(.pv (vB c)),.o,.o,.o,.o,.o,.o,(iI (l.ab.length:Int)),(.pv (vB d)),.o,(.dec false)],.f,.q,.f,.h 4 (.row k (ah.cells v)),dr 20 0 [.none,.none,.none,.none,.none,.none,(.row k1 (ah.cells v1)),.none,.none,(iI (v1.points.length:Int)),(.pv (vB g)),.none,.none,.none,.none,.none,(iI (v.points.length:Int)),(.pv (vB i)),.none,(.dec false)],.f,.q,.f,.aR [.o,.o,.o,(iI (v.points.length:Int)),(.pv (vB m))],.f,dr 13 1 [.none,.none,.none,(.row k2 (ai.cells v2)),.none,.none,.none,.none,(.row k3 (ai.cells v3))],.aR [.o,.o,.o,.o,(.pv (vI n)),.o,.o,.o,.o,.o,.o,(.pv (vI p)),.o,(.dec true)],.t,.q] (cj (bq h1) (cj (bq h1) (cj (bq h1) (cj (bq h1) (cj (aA h2) (cj (ar ah.cells l.ab) (cj h3 (cj (ae h4) (cj (ae h4) (zI (ae h4) (ae h4) (ae h4) (ar ah.cells l.ab) (ae h4) h5 (ae h4) (ae h4) (ae h6) (bP h7) (aY ah.cells h8 h9) (aY ah.cells bg cR) (ar ai.cells v1.points) cw (ae cu) (ae cu) (ae cu) (ae cu) (ar ai.cells v.points) (ae cu) dZ (ae cu) (ae cu) (ae ej) (bP h1) (ar ai.cells v.points) fP (ae jB) (aY ai.cells gw gH) (aY ai.cells gz gu) me (aP je) (aP je) (aP je) (aP je) (aP je) pY (aP je) (aP je) (aP Dr)))))))))))
theorem Sq(l:aj)(j:ak)(c d:Bool)(k:Nat)(v:ah)(k1:Nat)(v1:ah)(g i m:Bool)(k2:Nat)(v2:ai)(k3:Nat)(v3:ai)(n p:Int)(h1:j.kind≠0)(h2:j.kind=1)(h3:Cp 98 [vI j.a,(vI (l.ab.length:Int))] (vB c))(h4:c=true)(h5:Cp 98 [vI j.b,(vI (l.ab.length:Int))] (vB d))(h6:d=true)(h7:j.a≠j.b)(h8:j.b=(k:Int))(h9:l.ab[k]? = some v)(bg:j.a=(k1:Int))(cR:l.ab[k1]? = some v1)(cw:Cp 98 [vI j.dx,(vI (v1.points.length:Int))] (vB g))(cu:g=true)(dZ:Cp 98 [vI j.ou,(vI (v.points.length:Int))] (vB i))(ej:i=true)(fP:Cp 98 [vI j.mR,(vI (v.points.length:Int))] (vB m))(jB:m=true)(gw:j.ou=(k2:Int))(gH:v.points[k2]? = some v2)(gz:j.mR=(k3:Int))(gu:v.points[k3]? = some v3)(me:Cp 113 [v2.x.pv,v3.x.pv] (vI n))(je:n=0)(pY:Cp 113 [v2.y.pv,v3.y.pv] (vI p))(Dr:p≠0):Cp 97 [l.pv,j.pv] .cd :=
 eD func97 189 [1,1,1,1,1,1,1,1,1,1,1,1,1,1,1,1,1,1,1,3,3,1,1,1,1,1,1,1,1,1,1,1,1,1,1,1,1,3,3,1,1,1,1,1,1,1,1,1,1] [.q,.h 7 (.dec true),.f,.aR [.o,.o,.o,.o,(iI (l.ab.length:Int)),(.pv (vB c)),.o,.o,.o,.o,.o,.o,(iI (l.ab.length:Int)),(.pv (vB d)),.o,(.dec false)],.f,.q,.f,.h 4 (.row k (ah.cells v)),dr 20 0 [.none,.none,.none,.none,.none,.none,(.row k1 (ah.cells v1)),.none,.none,(iI (v1.points.length:Int)),(.pv (vB g)),.none,.none,.none,.none,.none,(iI (v.points.length:Int)),(.pv (vB i)),.none,(.dec false)],.f,.q,.f,.aR [.o,.o,.o,(iI (v.points.length:Int)),(.pv (vB m))],.f,dr 13 1 [.none,.none,.none,(.row k2 (ai.cells v2)),.none,.none,.none,.none,(.row k3 (ai.cells v3))],.aR [.o,.o,.o,.o,(.pv (vI n)),.o,.o,.o,.o,.o,.o,(.pv (vI p)),.o,(.dec true)],.f,.q] (cj (bq h1) (cj (bq h1) (cj (bq h1) (cj (bq h1) (cj (aA h2) (cj (ar ah.cells l.ab) (cj h3 (cj (ae h4) (cj (ae h4) (zI (ae h4) (ae h4) (ae h4) (ar ah.cells l.ab) (ae h4) h5 (ae h4) (ae h4) (ae h6) (bP h7) (aY ah.cells h8 h9) (aY ah.cells bg cR) (ar ai.cells v1.points) cw (ae cu) (ae cu) (ae cu) (ae cu) (ar ai.cells v.points) (ae cu) dZ (ae cu) (ae cu) (ae ej) (bP h1) (ar ai.cells v.points) fP (ae jB) (aY ai.cells gw gH) (aY ai.cells gz gu) me (aP je) (aP je) (aP je) (aP je) (aP je) pY (aP je) (aP je) (bP Dr)))))))))))
theorem VX(l:aj)(j:ak)(c d:Bool)(k:Nat)(v:ah)(k1:Nat)(v1:ah)(g i m:Bool)(k2:Nat)(v2:ai)(k3:Nat)(v3:ai)(n:Int)(h1:j.kind≠0)(h2:j.kind=1)(h3:Cp 98 [vI j.a,(vI (l.ab.length:Int))] (vB c))(h4:c=true)(h5:Cp 98 [vI j.b,(vI (l.ab.length:Int))] (vB d))(h6:d=true)(h7:j.a≠j.b)(h8:j.b=(k:Int))(h9:l.ab[k]? = some v)(bg:j.a=(k1:Int))(cR:l.ab[k1]? = some v1)(cw:Cp 98 [vI j.dx,(vI (v1.points.length:Int))] (vB g))(cu:g=true)(dZ:Cp 98 [vI j.ou,(vI (v.points.length:Int))] (vB i))(ej:i=true)(fP:Cp 98 [vI j.mR,(vI (v.points.length:Int))] (vB m))(jB:m=true)(gw:j.ou=(k2:Int))(gH:v.points[k2]? = some v2)(gz:j.mR=(k3:Int))(gu:v.points[k3]? = some v3)(me:Cp 113 [v2.x.pv,v3.x.pv] (vI n))(je:n≠0):Cp 97 [l.pv,j.pv] .cd :=
 eD func97 189 [1,1,1,1,1,1,1,1,1,1,1,1,1,1,1,1,1,1,1,3,3,1,1,1,1,1,1,1,1,1,1,1,1,1,1,1,1,3,3,1,1,1,1,1,1,1,1] [.q,.h 7 (.dec true),.f,.aR [.o,.o,.o,.o,(iI (l.ab.length:Int)),(.pv (vB c)),.o,.o,.o,.o,.o,.o,(iI (l.ab.length:Int)),(.pv (vB d)),.o,(.dec false)],.f,.q,.f,.h 4 (.row k (ah.cells v)),dr 20 0 [.none,.none,.none,.none,.none,.none,(.row k1 (ah.cells v1)),.none,.none,(iI (v1.points.length:Int)),(.pv (vB g)),.none,.none,.none,.none,.none,(iI (v.points.length:Int)),(.pv (vB i)),.none,(.dec false)],.f,.q,.f,.aR [.o,.o,.o,(iI (v.points.length:Int)),(.pv (vB m))],.f,dr 13 1 [.none,.none,.none,(.row k2 (ai.cells v2)),.none,.none,.none,.none,(.row k3 (ai.cells v3))],.aR [.o,.o,.o,.o,(.pv (vI n)),.o,.o,.skip,.skip,.skip,.skip,.skip,.skip,(.dec false)],.a,.q] (cj (bq h1) (cj (bq h1) (cj (bq h1) (cj (bq h1) (cj (aA h2) (cj (ar ah.cells l.ab) (cj h3 (zI (ae h4) (ae h4) (ae h4) (ae h4) (ae h4) (ar ah.cells l.ab) (ae h4) h5 (ae h4) (ae h4) (ae h6) (bP h7) (aY ah.cells h8 h9) (aY ah.cells bg cR) (ar ai.cells v1.points) cw (ae cu) (ae cu) (ae cu) (ae cu) (ar ai.cells v.points) (ae cu) dZ (ae cu) (ae cu) (ae ej) (bP h1) (ar ai.cells v.points) fP (ae jB) (aY ai.cells gw gH) (aY ai.cells gz gu) me (bP je) (bP je) (bP je) (bP je) (bP je) (bP je) (bP je)))))))))
theorem Sr(l:aj)(j:ak)(b:Bool)(h1:j.kind=0)(h2:Cp 98 [vI j.a,(vI (l.ab.length:Int))] (vB b))(h3:b=false):Cp 97 [l.pv,j.pv] (.iface 74 (vI 9)) :=
 eD func97 99 [1,1,1,1,1,1,1,1,1,1,1,1,1,1] [.q,.aR [.o,.o,.o,.o,.skip,.skip,.skip,(.dec false)],.a,.aR [.o,.o,.o,.o,(iI (l.ab.length:Int)),(.pv (vB b)),.o,.o,.skip,.skip,.skip,.skip,.skip,.skip,.skip,(.dec true)],.a,.q] (G9 (aA h1) (aA h1) (aA h1) (aA h1) (ar ah.cells l.ab) h2 (aF h3) (aF h3) (aF h3) (aF h3) (aF h3) (aF h3) (aF h3) (aF h3))
theorem VY(l:aj)(j:ak)(c d:Bool)(h1:j.kind=0)(h2:Cp 98 [vI j.a,(vI (l.ab.length:Int))] (vB c))(h3:c=true)(h4:Cp 98 [vI j.b,(vI (l.ab.length:Int))] (vB d))(h5:d=false):Cp 97 [l.pv,j.pv] (.iface 74 (vI 9)) :=
 eD func97 99 [1,1,1,1,1,1,1,1,1,1,1,1,1,1,1,1,1] [.q,.aR [.o,.o,.o,.o,.skip,.skip,.skip,(.dec false)],.a,.aR [.o,.o,.o,.o,(iI (l.ab.length:Int)),(.pv (vB c)),.o,.o,.o,.o,.o,.o,(iI (l.ab.length:Int)),(.pv (vB d)),.o,(.dec false)],.t,.q] (PI (aA h1) (aA h1) (aA h1) (aA h1) (ar ah.cells l.ab) h2 (ae h3) (ae h3) (ae h3) (ae h3) (ae h3) (ar ah.cells l.ab) (ae h3) h4 (ae h3) (ae h3) (aF h5))
theorem Ss(l:aj)(j:ak)(c d:Bool)(h1:j.kind=0)(h2:Cp 98 [vI j.a,(vI (l.ab.length:Int))] (vB c))(h3:c=true)(h4:Cp 98 [vI j.b,(vI (l.ab.length:Int))] (vB d))(h5:d=true)(h6:j.a=j.b):Cp 97 [l.pv,j.pv] (.iface 74 (vI 13)) :=
 eD func97 114 [1,1,1,1,1,1,1,1,1,1,1,1,1,1,1,1,1,1] [.q,.aR [.o,.o,.o,.o,.skip,.skip,.skip,(.dec false)],.a,.aR [.o,.o,.o,.o,(iI (l.ab.length:Int)),(.pv (vB c)),.o,.o,.o,.o,.o,.o,(iI (l.ab.length:Int)),(.pv (vB d)),.o,(.dec false)],.f,.q,.t,.q] (PJ (aA h1) (aA h1) (aA h1) (aA h1) (ar ah.cells l.ab) h2 (ae h3) (ae h3) (ae h3) (ae h3) (ae h3) (ar ah.cells l.ab) (ae h3) h4 (ae h3) (ae h3) (ae h5) (aP h6))
theorem VZ(l:aj)(j:ak)(c d:Bool)(k:Nat)(v:ah)(k1:Nat)(v1:ah)(g:Bool)(h1:j.kind=0)(h2:Cp 98 [vI j.a,(vI (l.ab.length:Int))] (vB c))(h3:c=true)(h4:Cp 98 [vI j.b,(vI (l.ab.length:Int))] (vB d))(h5:d=true)(h6:j.a≠j.b)(h7:j.b=(k:Int))(h8:l.ab[k]? = some v)(h9:j.a=(k1:Int))(bg:l.ab[k1]? = some v1)(cR:Cp 98 [vI j.dx,(vI (v1.points.length:Int))] (vB g))(cw:g=false):Cp 97 [l.pv,j.pv] (.iface 74 (vI 9)) :=
 eD func97 135 [1,1,1,1,1,1,1,1,1,1,1,1,1,1,1,1,1,1,3,3,1,1,1,1,1,1,1,1,1] [.q,.aR [.o,.o,.o,.o,.skip,.skip,.skip,(.dec false)],.a,.aR [.o,.o,.o,.o,(iI (l.ab.length:Int)),(.pv (vB c)),.o,.o,.o,.o,.o,.o,(iI (l.ab.length:Int)),(.pv (vB d)),.o,(.dec false)],.f,.q,.f,.h 4 (.row k (ah.cells v)),dr 20 0 [.none,.none,.none,.none,.none,.none,(.row k1 (ah.cells v1)),.none,.none,(iI (v1.points.length:Int)),(.pv (vB g)),.none,.none,.skip,.skip,.skip,.skip,.skip,.skip,(.dec true)],.a,.q] (VQ (aA h1) (aA h1) (aA h1) (aA h1) (ar ah.cells l.ab) h2 (ae h3) (ae h3) (ae h3) (ae h3) (ae h3) (ar ah.cells l.ab) (ae h3) h4 (ae h3) (ae h3) (ae h5) (bP h6) (aY ah.cells h7 h8) (aY ah.cells h9 bg) (ar ai.cells v1.points) cR (aF cw) (aF cw) (aF cw) (aF cw) (aF cw) (aF cw) (aF cw))
theorem OM(l:aj)(j:ak)(c d:Bool)(k:Nat)(v:ah)(k1:Nat)(v1:ah)(g i:Bool)(h1:j.kind=0)(h2:Cp 98 [vI j.a,(vI (l.ab.length:Int))] (vB c))(h3:c=true)(h4:Cp 98 [vI j.b,(vI (l.ab.length:Int))] (vB d))(h5:d=true)(h6:j.a≠j.b)(h7:j.b=(k:Int))(h8:l.ab[k]? = some v)(h9:j.a=(k1:Int))(bg:l.ab[k1]? = some v1)(cR:Cp 98 [vI j.dx,(vI (v1.points.length:Int))] (vB g))(cw:g=true)(cu:Cp 98 [vI j.ou,(vI (v.points.length:Int))] (vB i))(dZ:i=false):Cp 97 [l.pv,j.pv] (.iface 74 (vI 9)) :=
 eD func97 135 [1,1,1,1,1,1,1,1,1,1,1,1,1,1,1,1,1,1,3,3,1,1,1,1,1,1,1,1,1,1,1,1] [.q,.aR [.o,.o,.o,.o,.skip,.skip,.skip,(.dec false)],.a,.aR [.o,.o,.o,.o,(iI (l.ab.length:Int)),(.pv (vB c)),.o,.o,.o,.o,.o,.o,(iI (l.ab.length:Int)),(.pv (vB d)),.o,(.dec false)],.f,.q,.f,.h 4 (.row k (ah.cells v)),dr 20 0 [.none,.none,.none,.none,.none,.none,(.row k1 (ah.cells v1)),.none,.none,(iI (v1.points.length:Int)),(.pv (vB g)),.none,.none,.none,.none,.none,(iI (v.points.length:Int)),(.pv (vB i)),.none,(.dec false)],.t,.q] (Sf (aA h1) (aA h1) (aA h1) (aA h1) (ar ah.cells l.ab) h2 (ae h3) (ae h3) (ae h3) (ae h3) (ae h3) (ar ah.cells l.ab) (ae h3) h4 (ae h3) (ae h3) (ae h5) (bP h6) (aY ah.cells h7 h8) (aY ah.cells h9 bg) (ar ai.cells v1.points) cR (ae cw) (ae cw) (ae cw) (ae cw) (ar ai.cells v.points) (ae cw) cu (ae cw) (ae cw) (aF dZ))
theorem Su(l:aj)(j:ak)(c d:Bool)(k:Nat)(v:ah)(k1:Nat)(v1:ah)(g i:Bool)(h1:j.kind=0)(h2:Cp 98 [vI j.a,(vI (l.ab.length:Int))] (vB c))(h3:c=true)(h4:Cp 98 [vI j.b,(vI (l.ab.length:Int))] (vB d))(h5:d=true)(h6:j.a≠j.b)(h7:j.b=(k:Int))(h8:l.ab[k]? = some v)(h9:j.a=(k1:Int))(bg:l.ab[k1]? = some v1)(cR:Cp 98 [vI j.dx,(vI (v1.points.length:Int))] (vB g))(cw:g=true)(cu:Cp 98 [vI j.ou,(vI (v.points.length:Int))] (vB i))(dZ:i=true)(ej:j.mR≠0):Cp 97 [l.pv,j.pv] (.iface 74 (vI 2)) :=
 eD func97 162 [1,1,1,1,1,1,1,1,1,1,1,1,1,1,1,1,1,1,3,3,1,1,1,1,1,1,1,1,1,1,1,1,1,1] [.q,.aR [.o,.o,.o,.o,.skip,.skip,.skip,(.dec false)],.a,.aR [.o,.o,.o,.o,(iI (l.ab.length:Int)),(.pv (vB c)),.o,.o,.o,.o,.o,.o,(iI (l.ab.length:Int)),(.pv (vB d)),.o,(.dec false)],.f,.q,.f,.h 4 (.row k (ah.cells v)),dr 20 0 [.none,.none,.none,.none,.none,.none,(.row k1 (ah.cells v1)),.none,.none,(iI (v1.points.length:Int)),(.pv (vB g)),.none,.none,.none,.none,.none,(iI (v.points.length:Int)),(.pv (vB i)),.none,(.dec false)],.f,.q,.t,.q,.t,.q] (Sg (aA h1) (aA h1) (aA h1) (aA h1) (ar ah.cells l.ab) h2 (ae h3) (ae h3) (ae h3) (ae h3) (ae h3) (ar ah.cells l.ab) (ae h3) h4 (ae h3) (ae h3) (ae h5) (bP h6) (aY ah.cells h7 h8) (aY ah.cells h9 bg) (ar ai.cells v1.points) cR (ae cw) (ae cw) (ae cw) (ae cw) (ar ai.cells v.points) (ae cw) cu (ae cw) (ae cw) (ae dZ) (aP h1) (bq ej))
theorem V0(l:aj)(j:ak)(c d:Bool)(k:Nat)(v:ah)(k1:Nat)(v1:ah)(g i:Bool)(h1:j.kind=0)(h2:Cp 98 [vI j.a,(vI (l.ab.length:Int))] (vB c))(h3:c=true)(h4:Cp 98 [vI j.b,(vI (l.ab.length:Int))] (vB d))(h5:d=true)(h6:j.a≠j.b)(h7:j.b=(k:Int))(h8:l.ab[k]? = some v)(h9:j.a=(k1:Int))(bg:l.ab[k1]? = some v1)(cR:Cp 98 [vI j.dx,(vI (v1.points.length:Int))] (vB g))(cw:g=true)(cu:Cp 98 [vI j.ou,(vI (v.points.length:Int))] (vB i))(dZ:i=true)(ej:j.mR=0):Cp 97 [l.pv,j.pv] .cd :=
 eD func97 165 [1,1,1,1,1,1,1,1,1,1,1,1,1,1,1,1,1,1,3,3,1,1,1,1,1,1,1,1,1,1,1,1,1,1] [.q,.aR [.o,.o,.o,.o,.skip,.skip,.skip,(.dec false)],.a,.aR [.o,.o,.o,.o,(iI (l.ab.length:Int)),(.pv (vB c)),.o,.o,.o,.o,.o,.o,(iI (l.ab.length:Int)),(.pv (vB d)),.o,(.dec false)],.f,.q,.f,.h 4 (.row k (ah.cells v)),dr 20 0 [.none,.none,.none,.none,.none,.none,(.row k1 (ah.cells v1)),.none,.none,(iI (v1.points.length:Int)),(.pv (vB g)),.none,.none,.none,.none,.none,(iI (v.points.length:Int)),(.pv (vB i)),.none,(.dec false)],.f,.q,.t,.q,.f,.q] (Sg (aA h1) (aA h1) (aA h1) (aA h1) (ar ah.cells l.ab) h2 (ae h3) (ae h3) (ae h3) (ae h3) (ae h3) (ar ah.cells l.ab) (ae h3) h4 (ae h3) (ae h3) (ae h5) (bP h6) (aY ah.cells h7 h8) (aY ah.cells h9 bg) (ar ai.cells v1.points) cR (ae cw) (ae cw) (ae cw) (ae cw) (ar ai.cells v.points) (ae cw) cu (ae cw) (ae cw) (ae dZ) (aP h1) (aA ej))
end cC
namespace dH
@[reducible] def fn:Func:=Tryz.f55
def bM:List eh:=focus [0,2,0,0,2,1,2,0,0,2,0,0] [.code (az fn)]
def inv1(l:aj)(Fm:Nat):St:=⟨[(1,(.ptr 1 0)),(14,(.pv (bG ak.cells l.aq))),(15,(eI (l.aq.length:Int))),(16,(eI (Fm:Int)))],[(1,(.lit [(.pv (.str l.name)),(.pv (bG ah.cells l.ab)),(.pv (bG ak.cells l.aq)),(.pv (bG ag.cells l.an))]))]⟩
@[reducible] def au(l:aj)(Fm:Nat)(r:PV):Prop:=L bp fn bM (inv1 l Fm) r
def fw:List eh:=focus [0,2,0,0,2,1,2,0,0,2,0,0,0,0,2,0,0,2,0,0,0,2,0,0,2,1,2,0,0,2,0,0] [.code (az fn)]
def inv2(l:aj)(Fm:Nat)(NC:List ak)(Fo ua:Nat)(v:ak):St:=⟨[(1,(.ptr 1 0)),(4,(.ptr 4 0)),(14,(.pv (bG ak.cells l.aq))),(15,(eI (l.aq.length:Int))),(16,(eI (Fm:Int))),(29,(.pv (bG ak.cells NC))),(30,(eI (Fo:Int))),(31,(eI (ua:Int)))],[(1,(.lit [(.pv (.str l.name)),(.pv (bG ah.cells l.ab)),(.pv (bG ak.cells l.aq)),(.pv (bG ag.cells l.an))])),(4,(.lit [(.pv (.str v.name)),(eI v.kind),(eI v.a),(eI v.dx),(eI v.b),(eI v.ou),(eI v.mR)]))]⟩
@[reducible] def aM(l:aj)(Fm:Nat)(NC:List ak)(Fo ua:Nat)(v:ak)(r:PV):Prop:=L bp fn fw (inv2 l Fm NC Fo ua v) r
theorem e0(l:aj)(h1:16<l.aq.length):Cp 55 [l.pv] (.iface 74 (vI 4)) :=
 eD func55 84 [1,1] [.q,.h 2 (iI (l.aq.length:Int)),.t,.q] (y2 (ar ak.cells l.aq) (ax h1))
theorem e1(l:aj){r:PV}(h1:l.aq.length≤16)(hL:au l 0 r):Cp 55 [l.pv] r :=
 eG func55 96 [1,1,1] [.q,.h 2 (iI (l.aq.length:Int)),.f,.h 2 (iI (l.aq.length:Int)),.aN [1,14,15,16]] (y3 (ar ak.cells l.aq) (ay h1) (ar ak.cells l.aq)) hL
theorem eo(l:aj)(b:Nat)(v:ak)(c:Bool)(h1:b<l.aq.length)(h2:l.aq[b]? = some v)(h3:Cp 53 [(.str v.name)] (vB c))(h4:c=false):au l b (.iface 74 (vI 5)) :=
 lD 144 [1,3,1,1] [.a,.q,.t,.h 1 (.row b (ak.cells v)),.h 2 (.pv (vB c)),.t,.q] (y4 (ax h1) (aY ak.cells (Eq.refl (((b:Nat):Int):Int)) h2) h3 (aF h4))
theorem ew(l:aj)(b:Nat)(v:ak)(c:Bool){r:PV}(h1:b<l.aq.length)(h2:l.aq[b]? = some v)(h3:Cp 53 [(.str v.name)] (vB c))(h4:c=true)(h5:b≤l.aq.length)(hL:aM l b (l.aq.take b) ((l.aq.take b).length) 0 v r):au l b r :=
 lG 156 [1,3,1,1,6,1] [.a,.q,.t,.h 1 (.row b (ak.cells v)),.h 2 (.pv (vB c)),.f,.aR [.o,.o,.o,(.rq 0 b (((l.aq.take b):List ak).map ak.cells)),(iI (((l.aq.take b).length:Nat):Int))],.aN [1,4,14,15,16,29,30,31],.ord [1,4]] (y6 (ax h1) (aY ak.cells (Eq.refl (((b:Nat):Int):Int)) h2) h3 (ae h4) (w8 fX (l.aq:List ak) (Eq.refl (((b:Nat):Int):Int)) h5) (ar ak.cells (l.aq.take b))) hL
theorem nr(l:aj)(b:Nat)(h1:l.aq.length≤b):au l b .cd :=
 lD 129 [1] [.a,.q,.f,.q] (y1 (ay h1))
theorem mX(l:aj)(b:Nat)(c:List ak)(d g:Nat)(v v1:ak)(h1:g<d)(h2:c[g]? = some v1)(h3:v1.name=v.name):aM l b c d g v (.iface 74 (vI 6)) :=
 lD 201 [1,3,1] [.a,.q,.t,.h 0 (.row g (ak.cells v1)),.q,.t,.q] (y3 (ax h1) (aY ak.cells (Eq.refl (((g:Nat):Int):Int)) h2) (bj h3))
theorem mY(l:aj)(b:Nat)(c:List ak)(d g:Nat)(v v1:ak){r:PV}(h1:g<d)(h2:c[g]? = some v1)(h3:v1.name≠v.name)(h4:(g+1)<9223372036854775808)(hL:aM l b c d (g+1) v r):aM l b c d g v r :=
 lG 204 [1,3,1,1] [.a,.q,.t,.h 0 (.row g (ak.cells v1)),.q,.f,.h 0 (iI (((g+1):Nat):Int)),.aN [1,4,14,15,16,29,30,31],.drop [6]] (y4 (ax h1) (aY ak.cells (Eq.refl (((g:Nat):Int):Int)) h2) (cG h3) (aH h4)) hL
theorem xR(l:aj)(b:Nat)(c:List ak)(d g:Nat)(v:ak){r:PV}(h1:d≤g)(h2:Cp 97 [l.pv,v.pv] .cd)(h3:(b+1)<9223372036854775808)(hL:au l (b+1) r):aM l b c d g v r :=
 lG 207 [1,1,1] [.a,.q,.f,.h 2 (.pv .cd),.q,.a,.h 0 (iI (((b+1):Nat):Int)),.aN [1,14,15,16],.drop [4]] (y3 (ay h1) h2 (aH h3)) hL
theorem IS(l:aj)(b:Nat)(c:List ak)(d g:Nat)(v:ak)(i:Int)(h1:d≤g)(h2:Cp 97 [l.pv,v.pv] (.iface 74 (vI i))):aM l b c d g v (.iface 74 (vI i)) :=
 lD 204 [1,1] [.a,.q,.f,.h 2 (.pv (.iface 74 (vI i))),.q,.a,.q] (y2 (ay h1) h2)
end dH
namespace bH
@[reducible] def fn:Func:=Tryz.f56
def bM:List eh:=focus [0,2,0,0,2,1,2,0,0,2,0,0] [.code (az fn)]
def inv1(l:aj)(tX:Nat):St:=⟨[(1,(.ptr 1 0)),(15,(.pv (bG ag.cells l.an))),(16,(eI (l.an.length:Int))),(17,(eI (tX:Int)))],[(1,(.lit [(.pv (.str l.name)),(.pv (bG ah.cells l.ab)),(.pv (bG ak.cells l.aq)),(.pv (bG ag.cells l.an))]))]⟩
@[reducible] def au(l:aj)(tX:Nat)(r:PV):Prop:=L bp fn bM (inv1 l tX) r
def fw:List eh:=focus [0,2,0,0,2,1,2,0,0,2,0,0,0,0,2,0,0,2,0,0,0,2,0,0,2,1,2,0,0,2,0,0] [.code (az fn)]
def inv2(wy:Nat)(l:aj)(tX:Nat)(Fo:List ag)(ua ND:Nat)(v:ag):St:=⟨[(1,(.ptr 1 0)),(3,(eI (wy:Int))),(4,(.ptr 4 0)),(15,(.pv (bG ag.cells l.an))),(16,(eI (l.an.length:Int))),(17,(eI (tX:Int))),(30,(.pv (bG ag.cells Fo))),(31,(eI (ua:Int))),(32,(eI (ND:Int)))],[(1,(.lit [(.pv (.str l.name)),(.pv (bG ah.cells l.ab)),(.pv (bG ak.cells l.aq)),(.pv (bG ag.cells l.an))])),(4,(.lit [(.pv (.str v.name)),(eI v.body)]))]⟩
@[reducible] def aM(wy:Nat)(l:aj)(tX:Nat)(Fo:List ag)(ua ND:Nat)(v:ag)(r:PV):Prop:=L bp fn fw (inv2 wy l tX Fo ua ND v) r
def B9:List eh:=focus [0,2,0,0,2,1,2,0,0,2,0,0,0,0,2,0,0,2,0,0,0,2,0,0,2,1,2,0,0,2,0,0,0,0,2,0,1,2,2,2,2,0,0,2,1,2,0,0,2,1,2,0,2,0,0] [.code (az fn)]
def Ca(l:aj)(tX:Nat)(NG:List ag)(Fk Fl:Nat)(v:ag):St:=⟨[(1,(.ptr 1 0)),(4,(.ptr 4 0)),(15,(.pv (bG ag.cells l.an))),(16,(eI (l.an.length:Int))),(17,(eI (tX:Int))),(58,(.pv (bG ag.cells NG))),(59,(eI (Fk:Int))),(60,(eI (Fl:Int)))],[(1,(.lit [(.pv (.str l.name)),(.pv (bG ah.cells l.ab)),(.pv (bG ak.cells l.aq)),(.pv (bG ag.cells l.an))])),(4,(.lit [(.pv (.str v.name)),(eI v.body)]))]⟩
@[reducible] def fp(l:aj)(tX:Nat)(NG:List ag)(Fk Fl:Nat)(v:ag)(r:PV):Prop:=L bp fn B9 (Ca l tX NG Fk Fl v) r
theorem e0(l:aj)(h1:2<l.an.length):Cp 56 [l.pv] (.iface 74 (vI 4)) :=
 eD func56 84 [1,1] [.q,.h 2 (iI (l.an.length:Int)),.t,.q] (y2 (ar ag.cells l.an) (ax h1))
theorem e1(l:aj){r:PV}(h1:l.an.length≤2)(hL:au l 0 r):Cp 56 [l.pv] r :=
 eG func56 96 [1,1,1] [.q,.h 2 (iI (l.an.length:Int)),.f,.h 2 (iI (l.an.length:Int)),.aN [1,15,16,17]] (y3 (ar ag.cells l.an) (ay h1) (ar ag.cells l.an)) hL
theorem eo(l:aj)(b:Nat)(v:ag)(c:Bool)(h1:b<l.an.length)(h2:l.an[b]? = some v)(h3:Cp 53 [(.str v.name)] (vB c))(h4:c=false):au l b (.iface 74 (vI 5)) :=
 lD 144 [1,3,1,1] [.a,.q,.t,.h 1 (.row b (ag.cells v)),.h 2 (.pv (vB c)),.t,.q] (y4 (ax h1) (aY ag.cells (Eq.refl (((b:Nat):Int):Int)) h2) h3 (aF h4))
theorem ew(l:aj)(b:Nat)(v:ag)(c:Bool){r:PV}(h1:b<l.an.length)(h2:l.an[b]? = some v)(h3:Cp 53 [(.str v.name)] (vB c))(h4:c=true)(h5:b≤l.an.length)(hL:aM b l b (l.an.take b) ((l.an.take b).length) 0 v r):au l b r :=
 lG 156 [1,3,1,1,6,1] [.a,.q,.t,.h 1 (.row b (ag.cells v)),.h 2 (.pv (vB c)),.f,.aR [.o,.o,.o,(.rq 0 b (((l.an.take b):List ag).map ag.cells)),(iI (((l.an.take b).length:Nat):Int))],.aN [1,3,4,15,16,17,30,31,32],.ord [1,4]] (y6 (ax h1) (aY ag.cells (Eq.refl (((b:Nat):Int):Int)) h2) h3 (ae h4) (w8 dw (l.an:List ag) (Eq.refl (((b:Nat):Int):Int)) h5) (ar ag.cells (l.an.take b))) hL
theorem nr(l:aj)(b:Nat)(h1:l.an.length≤b):au l b .cd :=
 lD 129 [1] [.a,.q,.f,.q] (y1 (ay h1))
theorem mX(b:Nat)(l:aj)(c:Nat)(d:List ag)(g i:Nat)(v v1:ag)(h1:i<g)(h2:d[i]? = some v1)(h3:v1.name=v.name):aM b l c d g i v (.iface 74 (vI 6)) :=
 lD 201 [1,3,1] [.a,.q,.t,.h 0 (.row i (ag.cells v1)),.q,.t,.q] (y3 (ax h1) (aY ag.cells (Eq.refl (((i:Nat):Int):Int)) h2) (bj h3))
theorem mY(b:Nat)(l:aj)(c:Nat)(d:List ag)(g i:Nat)(v v1:ag){r:PV}(h1:i<g)(h2:d[i]? = some v1)(h3:v1.name≠v.name)(h4:(i+1)<9223372036854775808)(hL:aM b l c d g (i+1) v r):aM b l c d g i v r :=
 lG 204 [1,3,1,1] [.a,.q,.t,.h 0 (.row i (ag.cells v1)),.q,.f,.h 0 (iI (((i+1):Nat):Int)),.aN [1,3,4,15,16,17,30,31,32],.drop [6]] (y4 (ax h1) (aY ag.cells (Eq.refl (((i:Nat):Int):Int)) h2) (cG h3) (aH h4)) hL
theorem xR(b:Nat)(l:aj)(c:Nat)(d:List ag)(g i:Nat)(v:ag)(j:Bool)(h1:g≤i)(h2:Cp 98 [vI v.body,(vI (l.ab.length:Int))] (vB j))(h3:j=false):aM b l c d g i v (.iface 74 (vI 9)) :=
 lD 201 [1,1,1,1] [.a,.q,.f,.aR [.o,.o,.o,.o,(iI (l.ab.length:Int)),(.pv (vB j))],.t,.q] (y4 (ay h1) (ar ah.cells l.ab) h2 (aF h3))
theorem IS(b:Nat)(l:aj)(c:Nat)(d:List ag)(g i:Nat)(v:ag)(j:Bool)(h1:g≤i)(h2:Cp 98 [vI v.body,(vI (l.ab.length:Int))] (vB j))(h3:j=true)(h4:v.body=0):aM b l c d g i v (.iface 74 (vI 7)) :=
 lD 216 [1,1,1,1,1] [.a,.q,.f,.aR [.o,.o,.o,.o,(iI (l.ab.length:Int)),(.pv (vB j))],.f,.q,.t,.q] (y5 (ay h1) (ar ah.cells l.ab) h2 (ae h3) (aP h4))
theorem OL(b:Nat)(l:aj)(c:Nat)(d:List ag)(g i:Nat)(v:ag)(j:Bool){r:PV}(h1:g≤i)(h2:Cp 98 [vI v.body,(vI (l.ab.length:Int))] (vB j))(h3:j=true)(h4:v.body≠0)(h5:b≤l.an.length)(hL:fp l c (l.an.take b) ((l.an.take b).length) 0 v r):aM b l c d g i v r :=
 lG 225 [1,1,1,1,1,6,1] [.a,.q,.f,.aR [.o,.o,.o,.o,(iI (l.ab.length:Int)),(.pv (vB j))],.f,.q,.f,.aR [.o,.o,.o,(.rq 0 b (((l.an.take b):List ag).map ag.cells)),(iI (((l.an.take b).length:Nat):Int))],.aN [1,4,15,16,17,58,59,60]] (y7 (ay h1) (ar ah.cells l.ab) h2 (ae h3) (bP h4) (w8 dw (l.an:List ag) (Eq.refl (((b:Nat):Int):Int)) h5) (ar ag.cells (l.an.take b))) hL
theorem KV(l:aj)(b:Nat)(c:List ag)(d g:Nat)(v v1:ag)(h1:g<d)(h2:c[g]? = some v1)(h3:v1.body=v.body):fp l b c d g v (.iface 74 (vI 6)) :=
 lD 270 [1,3,1] [.a,.q,.t,.h 0 (.row g (ag.cells v1)),.q,.t,.q] (y3 (ax h1) (aY ag.cells (Eq.refl (((g:Nat):Int):Int)) h2) (aP h3))
theorem KW(l:aj)(b:Nat)(c:List ag)(d g:Nat)(v v1:ag){r:PV}(h1:g<d)(h2:c[g]? = some v1)(h3:v1.body≠v.body)(h4:(g+1)<9223372036854775808)(hL:fp l b c d (g+1) v r):fp l b c d g v r :=
 lG 273 [1,3,1,1] [.a,.q,.t,.h 0 (.row g (ag.cells v1)),.q,.f,.h 0 (iI (((g+1):Nat):Int)),.aN [1,4,15,16,17,58,59,60],.drop [8]] (y4 (ax h1) (aY ag.cells (Eq.refl (((g:Nat):Int):Int)) h2) (bP h3) (aH h4)) hL
theorem PR(l:aj)(b:Nat)(c:List ag)(d g:Nat)(v:ag){r:PV}(h1:d≤g)(h2:(b+1)<9223372036854775808)(hL:au l (b+1) r):fp l b c d g v r :=
 lG 258 [1,1] [.a,.q,.f,.h 0 (iI (((b+1):Nat):Int)),.aN [1,15,16,17],.drop [4]] (y2 (ay h1) (aH h2)) hL
end bH
namespace jx
theorem e0(l:aj)(a:Bool)(h1:Cp 53 [(.str l.name)] (vB a))(h2:a=false):Cp 23 [l.pv] (.iface 74 (vI 5)) :=
 eD func23 84 [1,1] [.q,.h 2 (.pv (vB a)),.t,.q] (y2 h1 (aF h2))
theorem e1(l:aj)(a:Bool)(h1:Cp 53 [(.str l.name)] (vB a))(h2:a=true)(h3:l.ab.length=0):Cp 23 [l.pv] (.iface 74 (vI 10)) :=
 eD func23 99 [1,1,1,1] [.q,.h 2 (.pv (vB a)),.f,.h 2 (iI (l.ab.length:Int)),.t,.q] (y4 h1 (ae h2) (ar ah.cells l.ab) (br h3))
theorem e2(l:aj)(a:Bool)(h1:Cp 53 [(.str l.name)] (vB a))(h2:a=true)(h3:l.ab.length≠0)(h4:8<l.ab.length):Cp 23 [l.pv] (.iface 74 (vI 4)) :=
 eD func23 114 [1,1,1,1,1,1] [.q,.h 2 (.pv (vB a)),.f,.h 2 (iI (l.ab.length:Int)),.f,.h 2 (iI (l.ab.length:Int)),.t,.q] (y6 h1 (ae h2) (ar ah.cells l.ab) (aT h3) (ar ah.cells l.ab) (ax h4))
theorem e3(l:aj)(b:Bool)(c:Option Int)(h1:Cp 53 [(.str l.name)] (vB b))(h2:b=true)(h3:l.ab.length≠0)(h4:l.ab.length≤8)(h5:Cp 54 [bG ah.cells l.ab] .cd)(h6:Cp 55 [l.pv] .cd)(h7:Cp 56 [l.pv] (bL c)):Cp 23 [l.pv] (bL c) :=
 eD func23 159 [1,1,1,1,1,1,1,1,1] [.q,.h 2 (.pv (vB b)),.f,.h 2 (iI (l.ab.length:Int)),.f,.h 2 (iI (l.ab.length:Int)),.f,.h 2 (.pv .cd),.q,.a,.h 1 (.pv .cd),.q,.a,.h 1 (.pv (bL c))] (y9 h1 (ae h2) (ar ah.cells l.ab) (aT h3) (ar ah.cells l.ab) (ay h4) h5 h6 h7)
theorem e4(l:aj)(b:Bool)(c:Int)(h1:Cp 53 [(.str l.name)] (vB b))(h2:b=true)(h3:l.ab.length≠0)(h4:l.ab.length≤8)(h5:Cp 54 [bG ah.cells l.ab] .cd)(h6:Cp 55 [l.pv] (.iface 74 (vI c))):Cp 23 [l.pv] (.iface 74 (vI c)) :=
 eD func23 156 [1,1,1,1,1,1,1,1] [.q,.h 2 (.pv (vB b)),.f,.h 2 (iI (l.ab.length:Int)),.f,.h 2 (iI (l.ab.length:Int)),.f,.h 2 (.pv .cd),.q,.a,.h 1 (.pv (.iface 74 (vI c))),.q,.a,.q] (y8 h1 (ae h2) (ar ah.cells l.ab) (aT h3) (ar ah.cells l.ab) (ay h4) h5 h6)
theorem e5(l:aj)(b:Bool)(c:Int)(h1:Cp 53 [(.str l.name)] (vB b))(h2:b=true)(h3:l.ab.length≠0)(h4:l.ab.length≤8)(h5:Cp 54 [bG ah.cells l.ab] (.iface 74 (vI c))):Cp 23 [l.pv] (.iface 74 (vI c)) :=
 eD func23 135 [1,1,1,1,1,1,1] [.q,.h 2 (.pv (vB b)),.f,.h 2 (iI (l.ab.length:Int)),.f,.h 2 (iI (l.ab.length:Int)),.f,.h 2 (.pv (.iface 74 (vI c))),.q,.a,.q] (y7 h1 (ae h2) (ar ah.cells l.ab) (aT h3) (ar ah.cells l.ab) (ay h4) h5)
end jx
end Go.Proofs.YtfjfekodeplcoaaGreat.Sym.Path
end
