/- Lemmas for the statements of this seat. -/
import Derived.Test.YtfjfekodeplcoaaGreatT0
noncomputable section
namespace Go.Proofs.YtfjfekodeplcoaaGreat.Sym.Path
open Go Tryz
set_option maxRecDepth 20000
set_option linter.unusedVariables false
namespace ly
theorem e0(c:Nat)(h1:97≤c)(h2:c≤122):Cp 136 [(.int .u8 (c:Int))] (vB true) :=
 eD func136 72 [1,1,1,1,1,1,1,1] [.q,.aQ [.o,.o,.o,.o,.o,(.dec true),.o,.skip,.skip,.skip,.skip,.skip,.skip,(.dec true)]] (y8 (bw h1) (bw h1) (bw h1) (bw h2) (bw h2) (bw h2) (bw h2) (bw h2))
theorem e1(c:Nat)(h1:97≤c)(h2:122<c)(h3:65≤c):Cp 136 [(.int .u8 (c:Int))] (vB (decide ((c:Int)≤90))) :=
 eD func136 72 [1,1,1,1,1,1,1,1,1,1,1] [.q,.aQ [.o,.o,.o,.o,.o,(.dec true),.o,.o,.o,.o,.o,.o,(.dec true),(.dec false)]] (A8 (bw h1) (bw h1) (bw h1) (aX h2) (aX h2) (aX h2) (bw h3) (bw h3) (aX h2) (bw h3) (aX h2))
theorem e3(c:Nat)(h1:c<97)(h2:65≤c):Cp 136 [(.int .u8 (c:Int))] (vB (decide ((c:Int)≤90))) :=
 eD func136 72 [1,1,1,1,1,1,1,1,1,1] [.q,.aQ [.o,.o,.o,.skip,.skip,(.dec false),.o,.o,.o,.o,.o,.o,(.dec true)]] (wh (aX h1) (aX h1) (aX h1) (Eq.refl false) (Eq.refl false) (Eq.refl false) (bw h2) (bw h2) (Eq.refl false) (bw h2))
theorem e4(c:Nat)(h1:c<97)(h2:c<65):Cp 136 [(.int .u8 (c:Int))] (vB false) :=
 eD func136 72 [1,1,1,1,1,1,1,1,1,1] [.q,.aQ [.o,.o,.o,.skip,.skip,(.dec false),.o,.o,.o,.o,.skip,.skip,(.dec false)]] (wh (aX h1) (aX h1) (aX h1) (Eq.refl false) (Eq.refl false) (Eq.refl false) (aX h2) (aX h2) (Eq.refl false) (aX h2))
end ly
namespace rM
theorem e0(c:Nat)(h1:48≤c):Cp 155 [(.int .u8 (c:Int))] (vB (decide ((c:Int)≤57))) :=
 eD func155 72 [1,1,1] [.q,.h 5 (.dec true)] (y3 (bw h1) (bw h1) (bw h1))
theorem e1(c:Nat)(h1:c<48):Cp 155 [(.int .u8 (c:Int))] (vB false) :=
 eD func155 72 [1,1,1] [.q,.aQ [.o,.o,.o,.skip,.skip,(.dec false)]] (y3 (aX h1) (aX h1) (aX h1))
end rM
namespace qI
theorem e0(c:Nat)(a:Bool)(h1:Cp 136 [(.int .u8 (c:Int))] (vB a))(h2:a=true):Cp 137 [(.int .u8 (c:Int))] (vB true) :=
 eD func137 72 [1,1,1,1,1,1] [.q,.aQ [.o,(.pv (vB a)),.o,.skip,.skip,(.dec true),.o,.skip,.skip]] (y6 h1 h2 h2 h2 (Eq.refl true) (Eq.refl true))
theorem e1(c:Nat)(a b:Bool)(h1:Cp 136 [(.int .u8 (c:Int))] (vB a))(h2:a=false)(h3:Cp 155 [(.int .u8 (c:Int))] (vB b))(h4:b=true):Cp 137 [(.int .u8 (c:Int))] (vB true) :=
 eD func137 72 [1,1,1,1,1,1,1,1] [.q,.aQ [.o,(.pv (vB a)),.o,.o,(.pv (vB b)),(.dec false),.o,.skip,.skip,(.dec true)]] (y8 h1 h2 h2 h3 h2 h4 h4 h4)
theorem e2(c:Nat)(a b:Bool)(h1:Cp 136 [(.int .u8 (c:Int))] (vB a))(h2:a=false)(h3:Cp 155 [(.int .u8 (c:Int))] (vB b))(h4:b=false):Cp 137 [(.int .u8 (c:Int))] (vB ((c:Int)==95)) :=
 eD func137 72 [1,1,1,1,1,1,1,1] [.q,.aQ [.o,(.pv (vB a)),.o,.o,(.pv (vB b)),(.dec false),.o,.o,.o,(.dec false)]] (y8 h1 h2 h2 h3 h2 h4 h4 h4)
end qI
namespace jc
@[reducible] def fn:Func:=Tryz.f96
def br:List dI:=focus [0,2,0,0,2,1,2,0,2,0,0,0] [.code (aA fn)]
def inv1(s:ByteArray)(HZ:Nat):St:=⟨[(0,(.pv (.str s))),(3,(eI (HZ:Int)))],[]⟩
@[reducible] def ar(s:ByteArray)(HZ:Nat)(r:PV):Prop:=L a7 fn br (inv1 s HZ) r
theorem e0(s:ByteArray)(h1:s=(ByteArray.mk #[])):Cp 96 [(.str s)] (vI 0) :=
 eD func96 84 [1,1,1,1,1] [.q,.aQ [.o,.o,.o,.skip,.skip,.skip,.skip,(.dec true)],.a,.q] (y5 (aM h1) (aM h1) (aM h1) (aM h1) (aM h1))
theorem e1(s:ByteArray)(b:Nat)(a:Bool)(h1:s≠(ByteArray.mk #[]))(h2:(s.data.toList[0]?).map (fun b=>(b.toNat:Int))=some (b:Int))(h3:Cp 136 [(.int .u8 (b:Int))] (vB a))(h4:a=false):Cp 96 [(.str s)] (vI 0) :=
 eD func96 84 [1,1,2,1,1,1,1,1] [.q,.aQ [.o,.o,.o,.o,(.row 0 [.int .u8 (b:Int)]),(.pv (vB a)),.o,(.dec false)],.t,.q] (y8 (bG h1) (bG h1) (cj (Eq.refl (0:Int)) h2) (bG h1) h3 (bG h1) (bG h1) (aD h4))
theorem e2(s:ByteArray)(b:Nat)(a:Bool){r:PV}(h1:s≠(ByteArray.mk #[]))(h2:(s.data.toList[0]?).map (fun b=>(b.toNat:Int))=some (b:Int))(h3:Cp 136 [(.int .u8 (b:Int))] (vB a))(h4:a=true)(hL:ar s 1 r):Cp 96 [(.str s)] r :=
 eG func96 96 [1,1,2,1,1,1,1,1] [.q,.aQ [.o,.o,.o,.o,(.row 0 [.int .u8 (b:Int)]),(.pv (vB a)),.o,(.dec false)],.f,.q,.aH [0,3]] (y8 (bG h1) (bG h1) (cj (Eq.refl (0:Int)) h2) (bG h1) h3 (bG h1) (bG h1) (ah h4)) hL
theorem dC(s:ByteArray)(c b:Nat)(d:Bool){r:PV}(h1:c<s.size)(h2:(s.data.toList[c]?).map (fun b=>(b.toNat:Int))=some (b:Int))(h3:Cp 137 [(.int .u8 (b:Int))] (vB d))(h4:d=true)(h5:(c+1)<9223372036854775808)(hL:ar s (c+1) r):ar s c r :=
 lG 123 [1,1,1,1,2,1,1,1,1,1] [.a,.aQ [.o,.o,(iI (s.size:Int)),.o,.o,.o,.o,(.row c [.int .u8 (b:Int)]),(.pv (vB d)),(.dec true)],.t,.h 1 (iI (((c+1):Nat):Int)),.aH [0,3]] (wh (Eq.refl ((s.size:Nat):Int)) (ay h1) (ay h1) (ay h1) (cj (Eq.refl (((c:Nat):Int):Int)) h2) (ay h1) h3 (ay h1) h4 (aI h5)) hL
theorem dD(s:ByteArray)(c b:Nat)(d:Bool)(h1:c<s.size)(h2:(s.data.toList[c]?).map (fun b=>(b.toNat:Int))=some (b:Int))(h3:Cp 137 [(.int .u8 (b:Int))] (vB d))(h4:d=false):ar s c (vI (c:Int)) :=
 lD 129 [1,1,1,1,2,1,1,1,1] [.a,.aQ [.o,.o,(iI (s.size:Int)),.o,.o,.o,.o,(.row c [.int .u8 (b:Int)]),(.pv (vB d)),(.dec true)],.f,.q] (y9 (Eq.refl ((s.size:Nat):Int)) (ay h1) (ay h1) (ay h1) (cj (Eq.refl (((c:Nat):Int):Int)) h2) (ay h1) h3 (ay h1) h4)
theorem kM(s:ByteArray)(b:Nat)(h1:s.size≤b):ar s b (vI (b:Int)) :=
 lD 129 [1,1,1,1,1,1] [.a,.aQ [.o,.o,(iI (s.size:Int)),.o,.o,.skip,.skip,.skip,.skip,(.dec false)],.a,.q] (y6 (Eq.refl ((s.size:Nat):Int)) (az h1) (az h1) (az h1) (az h1) (az h1))
end jc
namespace qJ
theorem e0(s:ByteArray)(a:Int)(h1:Cp 96 [(.str s)] (vI a))(h2:0<a)(h3:a=(s.size:Int)):Cp 53 [(.str s)] (vB (decide (a≤24))) :=
 eD func53 78 [1,1,1,1,1,1,1,1,1,1] [.q,.h 1 (.pv (vI a)),.aQ [.o,.o,.o,.o,.o,(iI (s.size:Int)),.o,(.dec true),.o,.o,.o,(.dec true)]] (wh h1 (bf h2) (bf h2) (bf h2) (Eq.refl ((s.size:Nat):Int)) (bf h2) (bf h2) (bA h3) (bA h3) (bA h3))
theorem e1(s:ByteArray)(a:Int)(h1:Cp 96 [(.str s)] (vI a))(h2:0<a)(h3:a≠(s.size:Int)):Cp 53 [(.str s)] (vB false) :=
 eD func53 78 [1,1,1,1,1,1,1,1,1,1] [.q,.h 1 (.pv (vI a)),.aQ [.o,.o,.o,.o,.o,(iI (s.size:Int)),.o,(.dec true),.o,.skip,.skip,(.dec false)]] (wh h1 (bf h2) (bf h2) (bf h2) (Eq.refl ((s.size:Nat):Int)) (bf h2) (bf h2) (bm h3) (bm h3) (bm h3))
theorem e2(s:ByteArray)(a:Int)(h1:Cp 96 [(.str s)] (vI a))(h2:a≤0):Cp 53 [(.str s)] (vB false) :=
 eD func53 78 [1,1,1,1,1,1,1,1] [.q,.h 1 (.pv (vI a)),.aQ [.o,.o,.o,.skip,.skip,.skip,.skip,(.dec false),.o,.skip,.skip]] (y8 h1 (bp h2) (bp h2) (bp h2) (bp h2) (bp h2) (Eq.refl false) (Eq.refl false))
end qJ
namespace bN
@[reducible] def fn:Func:=Tryz.f54
def br:List dI:=focus [0,2,0,0,2,0,0] [.code (aA fn)]
def inv1(l:List ab)(l9:Nat):St:=⟨[(0,(.pv (aZ ab.cells l))),(11,(.pv (aZ ab.cells l))),(12,(eI (l.length:Int))),(13,(eI (l9:Int)))],[]⟩
@[reducible] def ar(l:List ab)(l9:Nat)(r:PV):Prop:=L a7 fn br (inv1 l l9) r
def fP:List dI:=focus [0,2,0,0,2,0,0,0,0,2,0,0,2,0,0,0,2,0,0,2,1,2,0,0,2,0,0] [.code (aA fn)]
def inv2(l:List ab)(l9:Nat)(yx:List ab)(Ej Mt:Nat)(v:ab):St:=⟨[(0,(.pv (aZ ab.cells l))),(4,(.ptr 4 0)),(11,(.pv (aZ ab.cells l))),(12,(eI (l.length:Int))),(13,(eI (l9:Int))),(25,(.pv (aZ ab.cells yx))),(26,(eI (Ej:Int))),(27,(eI (Mt:Int)))],[(4,(.lit [(.pv (.str v.name)),(.pv (aZ au.cells v.points))]))]⟩
@[reducible] def aJ(l:List ab)(l9:Nat)(yx:List ab)(Ej Mt:Nat)(v:ab)(r:PV):Prop:=L a7 fn fP (inv2 l l9 yx Ej Mt v) r
def vw:List dI:=focus [0,2,0,0,2,0,0,0,0,2,0,0,2,0,0,0,2,0,0,2,1,2,0,0,2,0,0,0,0,2,0,1,2,2,2,2,0,0,2,1,2,0,2,0,0] [.code (aA fn)]
def vx(l:List ab)(l9:Nat)(v:ab)(yy:Nat):St:=⟨[(0,(.pv (aZ ab.cells l))),(4,(.ptr 4 0)),(11,(.pv (aZ ab.cells l))),(12,(eI (l.length:Int))),(13,(eI (l9:Int))),(44,(.pv (aZ au.cells v.points))),(45,(eI (v.points.length:Int))),(46,(eI (yy:Int)))],[(4,(.lit [(.pv (.str v.name)),(.pv (aZ au.cells v.points))]))]⟩
@[reducible] def cL(l:List ab)(l9:Nat)(v:ab)(yy:Nat)(r:PV):Prop:=L a7 fn vw (vx l l9 v yy) r
def Bf:List dI:=focus [0,2,0,0,2,0,0,0,0,2,0,0,2,0,0,0,2,0,0,2,1,2,0,0,2,0,0,0,0,2,0,1,2,2,2,2,0,0,2,1,2,0,2,0,0,0,0,2,0,0,2,0,0,0,2,0,0,2,1,2,0,0,2,0,0] [.code (aA fn)]
def Bg(l:List ab)(l9:Nat)(v:ab)(yy:Nat)(En:List au)(Eo Mu:Nat)(v1:au):St:=⟨[(0,(.pv (aZ ab.cells l))),(4,(.ptr 4 0)),(8,(.ptr 8 0)),(11,(.pv (aZ ab.cells l))),(12,(eI (l.length:Int))),(13,(eI (l9:Int))),(44,(.pv (aZ au.cells v.points))),(45,(eI (v.points.length:Int))),(46,(eI (yy:Int))),(59,(.pv (aZ au.cells En))),(60,(eI (Eo:Int))),(61,(eI (Mu:Int)))],[(4,(.lit [(.pv (.str v.name)),(.pv (aZ au.cells v.points))])),(8,(.lit [(.pv (.str v1.name)),(eB v1.x.neg),(.pv (ae v1.x.num)),(.pv (ae v1.x.den)),(eB v1.y.neg),(.pv (ae v1.y.num)),(.pv (ae v1.y.den))]))]⟩
@[reducible] def fE(l:List ab)(l9:Nat)(v:ab)(yy:Nat)(En:List au)(Eo Mu:Nat)(v1:au)(r:PV):Prop:=L a7 fn Bf (Bg l l9 v yy En Eo Mu v1) r
theorem e0 (l : List ab) {r : PV}  (hL : ar l 0 r) : Cp 54 [aZ ab.cells l] r :=
 eG func54 81 [1] [.q,.h 1 (iI (l.length:Int)),.aH [0,11,12,13]] (y1 (av ab.cells l)) hL
theorem dC(l:List ab)(b:Nat)(v:ab)(c:Bool)(h1:b<l.length)(h2:l[b]? = some v)(h3:Cp 53 [(.str v.name)] (vB c))(h4:c=false):ar l b (.iface 74 (vI 5)) :=
 lD 129 [1,3,1,1] [.a,.q,.t,.h 1 (.row b (ab.cells v)),.h 2 (.pv (vB c)),.t,.q] (y4 (ay h1) (aL ab.cells (Eq.refl (((b:Nat):Int):Int)) h2) h3 (aD h4))
theorem dD(l:List ab)(b:Nat)(v:ab)(c:Bool){r:PV}(h1:b<l.length)(h2:l[b]? = some v)(h3:Cp 53 [(.str v.name)] (vB c))(h4:c=true)(h5:b≤l.length)(hL:aJ l b (l.take b) ((l.take b).length) 0 v r):ar l b r :=
 lG 141 [1,3,1,1,6,1] [.a,.q,.t,.h 1 (.row b (ab.cells v)),.h 2 (.pv (vB c)),.f,.aQ [.o,.o,(.q8 0 b (((l.take b):List ab).map ab.cells)),(iI (((l.take b).length:Nat):Int))],.aH [0,4,11,12,13,25,26,27]] (y6 (ay h1) (aL ab.cells (Eq.refl (((b:Nat):Int):Int)) h2) h3 (ah h4) (we dj (l:List ab) (Eq.refl (((b:Nat):Int):Int)) h5) (av ab.cells (l.take b))) hL
theorem kM(l:List ab)(b:Nat)(h1:l.length≤b):ar l b .bK :=
 lD 114 [1] [.a,.q,.f,.q] (y1 (az h1))
theorem nK(l:List ab)(b:Nat)(c:List ab)(d g:Nat)(v v1:ab)(h1:g<d)(h2:c[g]? = some v1)(h3:v1.name=v.name):aJ l b c d g v (.iface 74 (vI 6)) :=
 lD 186 [1,3,1] [.a,.q,.t,.h 0 (.row g (ab.cells v1)),.q,.t,.q] (y3 (ay h1) (aL ab.cells (Eq.refl (((g:Nat):Int):Int)) h2) (aM h3))
theorem nL(l:List ab)(b:Nat)(c:List ab)(d g:Nat)(v v1:ab){r:PV}(h1:g<d)(h2:c[g]? = some v1)(h3:v1.name≠v.name)(h4:(g+1)<9223372036854775808)(hL:aJ l b c d (g+1) v r):aJ l b c d g v r :=
 lG 189 [1,3,1,1] [.a,.q,.t,.h 0 (.row g (ab.cells v1)),.q,.f,.h 0 (iI (((g+1):Nat):Int)),.aH [0,4,11,12,13,25,26,27],.drop [6]] (y4 (ay h1) (aL ab.cells (Eq.refl (((g:Nat):Int):Int)) h2) (bG h3) (aI h4)) hL
theorem vv(l:List ab)(b:Nat)(c:List ab)(d g:Nat)(v:ab)(h1:d≤g)(h2:8<v.points.length):aJ l b c d g v (.iface 74 (vI 4)) :=
 lD 186 [1,1,1] [.a,.q,.f,.h 2 (iI (v.points.length:Int)),.t,.q] (y3 (az h1) (av au.cells v.points) (ay h2))
theorem HY(l:List ab)(b:Nat)(c:List ab)(d g:Nat)(v:ab){r:PV}(h1:d≤g)(h2:v.points.length≤8)(hL:cL l b v 0 r):aJ l b c d g v r :=
 lG 195 [1,1,1,1] [.a,.q,.f,.h 2 (iI (v.points.length:Int)),.f,.h 2 (iI (v.points.length:Int)),.aH [0,4,11,12,13,44,45,46]] (y4 (az h1) (av au.cells v.points) (az h2) (av au.cells v.points)) hL
theorem H3(l:List ab)(b:Nat)(v:ab)(c:Nat)(v1:au)(d:Bool)(h1:c<v.points.length)(h2:v.points[c]? = some v1)(h3:Cp 53 [(.str v1.name)] (vB d))(h4:d=false):cL l b v c (.iface 74 (vI 5)) :=
 lD 243 [1,3,1,1] [.a,.q,.t,.h 1 (.row c (au.cells v1)),.h 2 (.pv (vB d)),.t,.q] (y4 (ay h1) (aL au.cells (Eq.refl (((c:Nat):Int):Int)) h2) h3 (aD h4))
theorem Gb(l:List ab)(b:Nat)(v:ab)(c:Nat)(v1:au)(d:Bool){r:PV}(h1:c<v.points.length)(h2:v.points[c]? = some v1)(h3:Cp 53 [(.str v1.name)] (vB d))(h4:d=true)(h5:c≤v.points.length)(hL:fE l b v c (v.points.take c) ((v.points.take c).length) 0 v1 r):cL l b v c r :=
 lG 255 [1,3,1,1,6,1] [.a,.q,.t,.h 1 (.row c (au.cells v1)),.h 2 (.pv (vB d)),.f,.aQ [.o,.o,.o,(.q8 0 c (((v.points.take c):List au).map au.cells)),(iI (((v.points.take c).length:Nat):Int))],.aH [0,4,8,11,12,13,44,45,46,59,60,61],.ord [4,8]] (y6 (ay h1) (aL au.cells (Eq.refl (((c:Nat):Int):Int)) h2) h3 (ah h4) (we iT (v.points:List au) (Eq.refl (((c:Nat):Int):Int)) h5) (av au.cells (v.points.take c))) hL
theorem Oy(l:List ab)(b:Nat)(v:ab)(c:Nat){r:PV}(h1:v.points.length≤c)(h2:(b+1)<9223372036854775808)(hL:ar l (b+1) r):cL l b v c r :=
 lG 228 [1,1] [.a,.q,.f,.h 0 (iI (((b+1):Nat):Int)),.aH [0,11,12,13],.drop [4]] (y2 (az h1) (aI h2)) hL
theorem Kd(l:List ab)(b:Nat)(v:ab)(c:Nat)(d:List au)(g i:Nat)(v1 v2:au)(h1:i<g)(h2:d[i]? = some v2)(h3:v2.name=v1.name):fE l b v c d g i v1 (.iface 74 (vI 6)) :=
 lD 300 [1,3,1] [.a,.q,.t,.h 0 (.row i (au.cells v2)),.q,.t,.q] (y3 (ay h1) (aL au.cells (Eq.refl (((i:Nat):Int):Int)) h2) (aM h3))
theorem Ke(l:List ab)(b:Nat)(v:ab)(c:Nat)(d:List au)(g i:Nat)(v1 v2:au){r:PV}(h1:i<g)(h2:d[i]? = some v2)(h3:v2.name≠v1.name)(h4:(i+1)<9223372036854775808)(hL:fE l b v c d g (i+1) v1 r):fE l b v c d g i v1 r :=
 lG 303 [1,3,1,1] [.a,.q,.t,.h 0 (.row i (au.cells v2)),.q,.f,.h 0 (iI (((i+1):Nat):Int)),.aH [0,4,8,11,12,13,44,45,46,59,60,61],.drop [10]] (y4 (ay h1) (aL au.cells (Eq.refl (((i:Nat):Int):Int)) h2) (bG h3) (aI h4)) hL
theorem Ub(l:List ab)(b:Nat)(v:ab)(c:Nat)(d:List au)(g i:Nat)(v1:au)(j:Bool)(h1:g≤i)(h2:Cp 34 [v1.x.pv] (vB j))(h3:j=false):fE l b v c d g i v1 (.iface 74 (vI 3)) :=
 lD 297 [1,1,1,1,1,1,1] [.a,.q,.f,.aQ [.o,.o,(.pv (vB j)),.o,.o,.skip,.skip,.skip,.skip,(.dec true)],.a,.q] (y7 (az h1) h2 (aD h3) (aD h3) (aD h3) (aD h3) (aD h3))
theorem Uc(l:List ab)(b:Nat)(v:ab)(c:Nat)(d:List au)(g i:Nat)(v1:au)(j k:Bool)(h1:g≤i)(h2:Cp 34 [v1.x.pv] (vB j))(h3:j=true)(h4:Cp 34 [v1.y.pv] (vB k))(h5:k=false):fE l b v c d g i v1 (.iface 74 (vI 3)) :=
 lD 297 [1,1,1,1,1,1,1,1,1] [.a,.q,.f,.aQ [.o,.o,(.pv (vB j)),.o,.o,.o,.o,(.pv (vB k)),.o,(.dec false)],.t,.q] (y9 (az h1) h2 (ah h3) (ah h3) (ah h3) h4 (ah h3) (ah h3) (aD h5))
theorem Ud(l:List ab)(b:Nat)(v:ab)(c:Nat)(d:List au)(g i:Nat)(v1:au)(j k:Bool){r:PV}(h1:g≤i)(h2:Cp 34 [v1.x.pv] (vB j))(h3:j=true)(h4:Cp 34 [v1.y.pv] (vB k))(h5:k=true)(h6:(c+1)<9223372036854775808)(hL:cL l b v (c+1) r):fE l b v c d g i v1 r :=
 lG 300 [1,1,1,1,1,1,1,1,1,1] [.a,.q,.f,.aQ [.o,.o,(.pv (vB j)),.o,.o,.o,.o,(.pv (vB k)),.o,(.dec false)],.f,.h 0 (iI (((c+1):Nat):Int)),.aH [0,4,11,12,13,44,45,46],.drop [8]] (wh (az h1) h2 (ah h3) (ah h3) (ah h3) h4 (ah h3) (ah h3) (ah h5) (aI h6)) hL
end bN
namespace yz
theorem e0(i n:Int)(h1:0≤i):Cp 98 [vI i,vI n] (vB (decide (i<n))) :=
 eD func98 72 [1,1,1,1] [.q,.h 6 (.dec true)] (y4 (eM h1) (eM h1) (eM h1) (eM h1))
theorem e1(i n:Int)(h1:i<0):Cp 98 [vI i,vI n] (vB false) :=
 eD func98 72 [1,1,1,1] [.q,.aQ [.o,.o,.o,.skip,.skip,.skip,(.dec false)]] (y4 (jI h1) (jI h1) (jI h1) (jI h1))
end yz
namespace cr
theorem e0(l:aj)(j:ag)(h1:j.kind≠0)(h2:j.kind≠1):Cp 97 [l.pv,j.pv] (.iface 74 (vI 7)) :=
 eD func97 84 [1,1,1,1,1] [.q,.h 7 (.dec true),.t,.q] (y5 (ba h1) (ba h1) (ba h1) (ba h1) (ba h2))
theorem e1(l:aj)(j:ag)(b:Bool)(h1:j.kind≠0)(h2:j.kind=1)(h3:Cp 98 [vI j.a,(vI (l.aa.length:Int))] (vB b))(h4:b=false):Cp 97 [l.pv,j.pv] (.iface 74 (vI 9)) :=
 eD func97 99 [1,1,1,1,1,1,1,1,1,1,1,1,1,1,1] [.q,.h 7 (.dec true),.f,.aQ [.o,.o,.o,.o,(iI (l.aa.length:Int)),(.pv (vB b)),.o,.o,.skip,.skip,.skip,.skip,.skip,.skip,.skip,(.dec true)],.a,.q] (J9 (ba h1) (ba h1) (ba h1) (ba h1) (aS h2) (av ab.cells l.aa) h3 (aD h4) (aD h4) (aD h4) (aD h4) (aD h4) (aD h4) (aD h4) (aD h4))
theorem e2(l:aj)(j:ag)(c d:Bool)(h1:j.kind≠0)(h2:j.kind=1)(h3:Cp 98 [vI j.a,(vI (l.aa.length:Int))] (vB c))(h4:c=true)(h5:Cp 98 [vI j.b,(vI (l.aa.length:Int))] (vB d))(h6:d=false):Cp 97 [l.pv,j.pv] (.iface 74 (vI 9)) :=
 eD func97 99 [1,1,1,1,1,1,1,1,1,1,1,1,1,1,1,1,1,1] [.q,.h 7 (.dec true),.f,.aQ [.o,.o,.o,.o,(iI (l.aa.length:Int)),(.pv (vB c)),.o,.o,.o,.o,.o,.o,(iI (l.aa.length:Int)),(.pv (vB d)),.o,(.dec false)],.t,.q] (Jm (ba h1) (ba h1) (ba h1) (ba h1) (aS h2) (av ab.cells l.aa) h3 (ah h4) (ah h4) (ah h4) (ah h4) (ah h4) (av ab.cells l.aa) (ah h4) h5 (ah h4) (ah h4) (aD h6))
theorem e3(l:aj)(j:ag)(c d:Bool)(h1:j.kind≠0)(h2:j.kind=1)(h3:Cp 98 [vI j.a,(vI (l.aa.length:Int))] (vB c))(h4:c=true)(h5:Cp 98 [vI j.b,(vI (l.aa.length:Int))] (vB d))(h6:d=true)(h7:j.a=j.b):Cp 97 [l.pv,j.pv] (.iface 74 (vI 13)) :=
 eD func97 114 [1,1,1,1,1,1,1,1,1,1,1,1,1,1,1,1,1,1,1] [.q,.h 7 (.dec true),.f,.aQ [.o,.o,.o,.o,(iI (l.aa.length:Int)),(.pv (vB c)),.o,.o,.o,.o,.o,.o,(iI (l.aa.length:Int)),(.pv (vB d)),.o,(.dec false)],.f,.q,.t,.q] (Ot (ba h1) (ba h1) (ba h1) (ba h1) (aS h2) (av ab.cells l.aa) h3 (ah h4) (ah h4) (ah h4) (ah h4) (ah h4) (av ab.cells l.aa) (ah h4) h5 (ah h4) (ah h4) (ah h6) (bA h7))
theorem e4(l:aj)(j:ag)(c d:Bool)(k:Nat)(v:ab)(k1:Nat)(v1:ab)(g:Bool)(h1:j.kind≠0)(h2:j.kind=1)(h3:Cp 98 [vI j.a,(vI (l.aa.length:Int))] (vB c))(h4:c=true)(h5:Cp 98 [vI j.b,(vI (l.aa.length:Int))] (vB d))(h6:d=true)(h7:j.a≠j.b)(h8:j.b=(k:Int))(h9:l.aa[k]? = some v)(bQ:j.a=(k1:Int))(cW:l.aa[k1]? = some v1)(cP:Cp 98 [vI j.bq,(vI (v1.points.length:Int))] (vB g))(cD:g=false):Cp 97 [l.pv,j.pv] (.iface 74 (vI 9)) :=
 eD func97 135 [1,1,1,1,1,1,1,1,1,1,1,1,1,1,1,1,1,1,1,3,3,1,1,1,1,1,1,1,1,1] [.q,.h 7 (.dec true),.f,.aQ [.o,.o,.o,.o,(iI (l.aa.length:Int)),(.pv (vB c)),.o,.o,.o,.o,.o,.o,(iI (l.aa.length:Int)),(.pv (vB d)),.o,(.dec false)],.f,.q,.f,.h 4 (.row k (ab.cells v)),dr 20 0 [.none,.none,.none,.none,.none,.none,(.row k1 (ab.cells v1)),.none,.none,(iI (v1.points.length:Int)),(.pv (vB g)),.none,.none,.skip,.skip,.skip,.skip,.skip,.skip,(.dec true)],.a,.q] (SA (ba h1) (ba h1) (ba h1) (ba h1) (aS h2) (av ab.cells l.aa) h3 (ah h4) (ah h4) (ah h4) (ah h4) (ah h4) (av ab.cells l.aa) (ah h4) h5 (ah h4) (ah h4) (ah h6) (bm h7) (aL ab.cells h8 h9) (aL ab.cells bQ cW) (av au.cells v1.points) cP (aD cD) (aD cD) (aD cD) (aD cD) (aD cD) (aD cD) (aD cD))
theorem e5(l:aj)(j:ag)(c d:Bool)(k:Nat)(v:ab)(k1:Nat)(v1:ab)(g i:Bool)(h1:j.kind≠0)(h2:j.kind=1)(h3:Cp 98 [vI j.a,(vI (l.aa.length:Int))] (vB c))(h4:c=true)(h5:Cp 98 [vI j.b,(vI (l.aa.length:Int))] (vB d))(h6:d=true)(h7:j.a≠j.b)(h8:j.b=(k:Int))(h9:l.aa[k]? = some v)(bQ:j.a=(k1:Int))(cW:l.aa[k1]? = some v1)(cP:Cp 98 [vI j.bq,(vI (v1.points.length:Int))] (vB g))(cD:g=true)(en:Cp 98 [vI j.fD,(vI (v.points.length:Int))] (vB i))(jw:i=false):Cp 97 [l.pv,j.pv] (.iface 74 (vI 9)) :=
 eD func97 135 [1,1,1,1,1,1,1,1,1,1,1,1,1,1,1,1,1,1,1,3,3,1,1,1,1,1,1,1,1,1,1,1,1] [.q,.h 7 (.dec true),.f,.aQ [.o,.o,.o,.o,(iI (l.aa.length:Int)),(.pv (vB c)),.o,.o,.o,.o,.o,.o,(iI (l.aa.length:Int)),(.pv (vB d)),.o,(.dec false)],.f,.q,.f,.h 4 (.row k (ab.cells v)),dr 20 0 [.none,.none,.none,.none,.none,.none,(.row k1 (ab.cells v1)),.none,.none,(iI (v1.points.length:Int)),(.pv (vB g)),.none,.none,.none,.none,.none,(iI (v.points.length:Int)),(.pv (vB i)),.none,(.dec false)],.t,.q] (SB (ba h1) (ba h1) (ba h1) (ba h1) (aS h2) (av ab.cells l.aa) h3 (ah h4) (ah h4) (ah h4) (ah h4) (ah h4) (av ab.cells l.aa) (ah h4) h5 (ah h4) (ah h4) (ah h6) (bm h7) (aL ab.cells h8 h9) (aL ab.cells bQ cW) (av au.cells v1.points) cP (ah cD) (ah cD) (ah cD) (ah cD) (av au.cells v.points) (ah cD) en (ah cD) (ah cD) (aD jw))
theorem e8(l:aj)(j:ag)(c d:Bool)(k:Nat)(v:ab)(k1:Nat)(v1:ab)(g i m:Bool)(h1:j.kind≠0)(h2:j.kind=1)(h3:Cp 98 [vI j.a,(vI (l.aa.length:Int))] (vB c))(h4:c=true)(h5:Cp 98 [vI j.b,(vI (l.aa.length:Int))] (vB d))(h6:d=true)(h7:j.a≠j.b)(h8:j.b=(k:Int))(h9:l.aa[k]? = some v)(bQ:j.a=(k1:Int))(cW:l.aa[k1]? = some v1)(cP:Cp 98 [vI j.bq,(vI (v1.points.length:Int))] (vB g))(cD:g=true)(en:Cp 98 [vI j.fD,(vI (v.points.length:Int))] (vB i))(jw:i=true)(gu:Cp 98 [vI j.fj,(vI (v.points.length:Int))] (vB m))(pC:m=false):Cp 97 [l.pv,j.pv] (.iface 74 (vI 9)) :=
 eD func97 165 [1,1,1,1,1,1,1,1,1,1,1,1,1,1,1,1,1,1,1,3,3,1,1,1,1,1,1,1,1,1,1,1,1,1,1,1,1] [.q,.h 7 (.dec true),.f,.aQ [.o,.o,.o,.o,(iI (l.aa.length:Int)),(.pv (vB c)),.o,.o,.o,.o,.o,.o,(iI (l.aa.length:Int)),(.pv (vB d)),.o,(.dec false)],.f,.q,.f,.h 4 (.row k (ab.cells v)),dr 20 0 [.none,.none,.none,.none,.none,.none,(.row k1 (ab.cells v1)),.none,.none,(iI (v1.points.length:Int)),(.pv (vB g)),.none,.none,.none,.none,.none,(iI (v.points.length:Int)),(.pv (vB i)),.none,(.dec false)],.f,.q,.f,.aQ [.o,.o,.o,(iI (v.points.length:Int)),(.pv (vB m))],.t,.q] (SD (ba h1) (ba h1) (ba h1) (ba h1) (aS h2) (av ab.cells l.aa) h3 (ah h4) (ah h4) (ah h4) (ah h4) (ah h4) (av ab.cells l.aa) (ah h4) h5 (ah h4) (ah h4) (ah h6) (bm h7) (aL ab.cells h8 h9) (aL ab.cells bQ cW) (av au.cells v1.points) cP (ah cD) (ah cD) (ah cD) (ah cD) (av au.cells v.points) (ah cD) en (ah cD) (ah cD) (ah jw) (bm h1) (av au.cells v.points) gu (aD pC))
theorem e9(l:aj)(j:ag)(c d:Bool)(k:Nat)(v:ab)(k1:Nat)(v1:ab)(g i m:Bool)(k2:Nat)(v2:au)(k3:Nat)(v3:au)(n p:Int)(h1:j.kind≠0)(h2:j.kind=1)(h3:Cp 98 [vI j.a,(vI (l.aa.length:Int))] (vB c))(h4:c=true)(h5:Cp 98 [vI j.b,(vI (l.aa.length:Int))] (vB d))(h6:d=true)(h7:j.a≠j.b)(h8:j.b=(k:Int))(h9:l.aa[k]? = some v)(bQ:j.a=(k1:Int))(cW:l.aa[k1]? = some v1)(cP:Cp 98 [vI j.bq,(vI (v1.points.length:Int))] (vB g))(cD:g=true)(en:Cp 98 [vI j.fD,(vI (v.points.length:Int))] (vB i))(jw:i=true)(gu:Cp 98 [vI j.fj,(vI (v.points.length:Int))] (vB m))(pC:m=true)(rL:j.fD=(k2:Int))(pw:v.points[k2]? = some v2)(sX:j.fj=(k3:Int))(Bi:v.points[k3]? = some v3)(Bj:Cp 113 [v2.x.pv,v3.x.pv] (vI n))(uy:n=0)(Fi:Cp 113 [v2.y.pv,v3.y.pv] (vI p))(Oz:p=0):Cp 97 [l.pv,j.pv] (.iface 74 (vI 8)) :=
 eD func97 186 [1,1,1,1,1,1,1,1,1,1,1,1,1,1,1,1,1,1,1,3,3,1,1,1,1,1,1,1,1,1,1,1,1,1,1,1,1,3,3,1,1,1,1,1,1,1,1,1,1] [.q,.h 7 (.dec true),.f,.aQ [.o,.o,.o,.o,(iI (l.aa.length:Int)),(.pv (vB c)),.o,.o,.o,.o,.o,.o,(iI (l.aa.length:Int)),(.pv (vB d)),.o,(.dec false)],.f,.q,.f,.h 4 (.row k (ab.cells v)),dr 20 0 [.none,.none,.none,.none,.none,.none,(.row k1 (ab.cells v1)),.none,.none,(iI (v1.points.length:Int)),(.pv (vB g)),.none,.none,.none,.none,.none,(iI (v.points.length:Int)),(.pv (vB i)),.none,(.dec false)],.f,.q,.f,.aQ [.o,.o,.o,(iI (v.points.length:Int)),(.pv (vB m))],.f,dr 13 1 [.none,.none,.none,(.row k2 (au.cells v2)),.none,.none,.none,.none,(.row k3 (au.cells v3))],.aQ [.o,.o,.o,.o,(.pv (vI n)),.o,.o,.o,.o,.o,.o,(.pv (vI p)),.o,(.dec true)],.t,.q] (cj (ba h1) (cj (ba h1) (cj (ba h1) (cj (ba h1) (cj (aS h2) (cj (av ab.cells l.aa) (cj h3 (cj (ah h4) (cj (ah h4) (Kc (ah h4) (ah h4) (ah h4) (av ab.cells l.aa) (ah h4) h5 (ah h4) (ah h4) (ah h6) (bm h7) (aL ab.cells h8 h9) (aL ab.cells bQ cW) (av au.cells v1.points) cP (ah cD) (ah cD) (ah cD) (ah cD) (av au.cells v.points) (ah cD) en (ah cD) (ah cD) (ah jw) (bm h1) (av au.cells v.points) gu (ah pC) (aL au.cells rL pw) (aL au.cells sX Bi) Bj (bA uy) (bA uy) (bA uy) (bA uy) (bA uy) Fi (bA uy) (bA uy) (bA Oz)))))))))))
theorem Ue(l:aj)(j:ag)(c d:Bool)(k:Nat)(v:ab)(k1:Nat)(v1:ab)(g i m:Bool)(k2:Nat)(v2:au)(k3:Nat)(v3:au)(n p:Int)(h1:j.kind≠0)(h2:j.kind=1)(h3:Cp 98 [vI j.a,(vI (l.aa.length:Int))] (vB c))(h4:c=true)(h5:Cp 98 [vI j.b,(vI (l.aa.length:Int))] (vB d))(h6:d=true)(h7:j.a≠j.b)(h8:j.b=(k:Int))(h9:l.aa[k]? = some v)(bQ:j.a=(k1:Int))(cW:l.aa[k1]? = some v1)(cP:Cp 98 [vI j.bq,(vI (v1.points.length:Int))] (vB g))(cD:g=true)(en:Cp 98 [vI j.fD,(vI (v.points.length:Int))] (vB i))(jw:i=true)(gu:Cp 98 [vI j.fj,(vI (v.points.length:Int))] (vB m))(pC:m=true)(rL:j.fD=(k2:Int))(pw:v.points[k2]? = some v2)(sX:j.fj=(k3:Int))(Bi:v.points[k3]? = some v3)(Bj:Cp 113 [v2.x.pv,v3.x.pv] (vI n))(uy:n=0)(Fi:Cp 113 [v2.y.pv,v3.y.pv] (vI p))(Oz:p≠0):Cp 97 [l.pv,j.pv] .bK :=
 eD func97 189 [1,1,1,1,1,1,1,1,1,1,1,1,1,1,1,1,1,1,1,3,3,1,1,1,1,1,1,1,1,1,1,1,1,1,1,1,1,3,3,1,1,1,1,1,1,1,1,1,1] [.q,.h 7 (.dec true),.f,.aQ [.o,.o,.o,.o,(iI (l.aa.length:Int)),(.pv (vB c)),.o,.o,.o,.o,.o,.o,(iI (l.aa.length:Int)),(.pv (vB d)),.o,(.dec false)],.f,.q,.f,.h 4 (.row k (ab.cells v)),dr 20 0 [.none,.none,.none,.none,.none,.none,(.row k1 (ab.cells v1)),.none,.none,(iI (v1.points.length:Int)),(.pv (vB g)),.none,.none,.none,.none,.none,(iI (v.points.length:Int)),(.pv (vB i)),.none,(.dec false)],.f,.q,.f,.aQ [.o,.o,.o,(iI (v.points.length:Int)),(.pv (vB m))],.f,dr 13 1 [.none,.none,.none,(.row k2 (au.cells v2)),.none,.none,.none,.none,(.row k3 (au.cells v3))],.aQ [.o,.o,.o,.o,(.pv (vI n)),.o,.o,.o,.o,.o,.o,(.pv (vI p)),.o,(.dec true)],.f,.q] (cj (ba h1) (cj (ba h1) (cj (ba h1) (cj (ba h1) (cj (aS h2) (cj (av ab.cells l.aa) (cj h3 (cj (ah h4) (cj (ah h4) (Kc (ah h4) (ah h4) (ah h4) (av ab.cells l.aa) (ah h4) h5 (ah h4) (ah h4) (ah h6) (bm h7) (aL ab.cells h8 h9) (aL ab.cells bQ cW) (av au.cells v1.points) cP (ah cD) (ah cD) (ah cD) (ah cD) (av au.cells v.points) (ah cD) en (ah cD) (ah cD) (ah jw) (bm h1) (av au.cells v.points) gu (ah pC) (aL au.cells rL pw) (aL au.cells sX Bi) Bj (bA uy) (bA uy) (bA uy) (bA uy) (bA uy) Fi (bA uy) (bA uy) (bm Oz)))))))))))
theorem Uf(l:aj)(j:ag)(c d:Bool)(k:Nat)(v:ab)(k1:Nat)(v1:ab)(g i m:Bool)(k2:Nat)(v2:au)(k3:Nat)(v3:au)(n:Int)(h1:j.kind≠0)(h2:j.kind=1)(h3:Cp 98 [vI j.a,(vI (l.aa.length:Int))] (vB c))(h4:c=true)(h5:Cp 98 [vI j.b,(vI (l.aa.length:Int))] (vB d))(h6:d=true)(h7:j.a≠j.b)(h8:j.b=(k:Int))(h9:l.aa[k]? = some v)(bQ:j.a=(k1:Int))(cW:l.aa[k1]? = some v1)(cP:Cp 98 [vI j.bq,(vI (v1.points.length:Int))] (vB g))(cD:g=true)(en:Cp 98 [vI j.fD,(vI (v.points.length:Int))] (vB i))(jw:i=true)(gu:Cp 98 [vI j.fj,(vI (v.points.length:Int))] (vB m))(pC:m=true)(rL:j.fD=(k2:Int))(pw:v.points[k2]? = some v2)(sX:j.fj=(k3:Int))(Bi:v.points[k3]? = some v3)(Bj:Cp 113 [v2.x.pv,v3.x.pv] (vI n))(uy:n≠0):Cp 97 [l.pv,j.pv] .bK :=
 eD func97 189 [1,1,1,1,1,1,1,1,1,1,1,1,1,1,1,1,1,1,1,3,3,1,1,1,1,1,1,1,1,1,1,1,1,1,1,1,1,3,3,1,1,1,1,1,1,1,1] [.q,.h 7 (.dec true),.f,.aQ [.o,.o,.o,.o,(iI (l.aa.length:Int)),(.pv (vB c)),.o,.o,.o,.o,.o,.o,(iI (l.aa.length:Int)),(.pv (vB d)),.o,(.dec false)],.f,.q,.f,.h 4 (.row k (ab.cells v)),dr 20 0 [.none,.none,.none,.none,.none,.none,(.row k1 (ab.cells v1)),.none,.none,(iI (v1.points.length:Int)),(.pv (vB g)),.none,.none,.none,.none,.none,(iI (v.points.length:Int)),(.pv (vB i)),.none,(.dec false)],.f,.q,.f,.aQ [.o,.o,.o,(iI (v.points.length:Int)),(.pv (vB m))],.f,dr 13 1 [.none,.none,.none,(.row k2 (au.cells v2)),.none,.none,.none,.none,(.row k3 (au.cells v3))],.aQ [.o,.o,.o,.o,(.pv (vI n)),.o,.o,.skip,.skip,.skip,.skip,.skip,.skip,(.dec false)],.a,.q] (cj (ba h1) (cj (ba h1) (cj (ba h1) (cj (ba h1) (cj (aS h2) (cj (av ab.cells l.aa) (cj h3 (Kc (ah h4) (ah h4) (ah h4) (ah h4) (ah h4) (av ab.cells l.aa) (ah h4) h5 (ah h4) (ah h4) (ah h6) (bm h7) (aL ab.cells h8 h9) (aL ab.cells bQ cW) (av au.cells v1.points) cP (ah cD) (ah cD) (ah cD) (ah cD) (av au.cells v.points) (ah cD) en (ah cD) (ah cD) (ah jw) (bm h1) (av au.cells v.points) gu (ah pC) (aL au.cells rL pw) (aL au.cells sX Bi) Bj (bm uy) (bm uy) (bm uy) (bm uy) (bm uy) (bm uy) (bm uy)))))))))
theorem Ug(l:aj)(j:ag)(b:Bool)(h1:j.kind=0)(h2:Cp 98 [vI j.a,(vI (l.aa.length:Int))] (vB b))(h3:b=false):Cp 97 [l.pv,j.pv] (.iface 74 (vI 9)) :=
 eD func97 99 [1,1,1,1,1,1,1,1,1,1,1,1,1,1] [.q,.aQ [.o,.o,.o,.o,.skip,.skip,.skip,(.dec false)],.a,.aQ [.o,.o,.o,.o,(iI (l.aa.length:Int)),(.pv (vB b)),.o,.o,.skip,.skip,.skip,.skip,.skip,.skip,.skip,(.dec true)],.a,.q] (Ga (aS h1) (aS h1) (aS h1) (aS h1) (av ab.cells l.aa) h2 (aD h3) (aD h3) (aD h3) (aD h3) (aD h3) (aD h3) (aD h3) (aD h3))
theorem Uh(l:aj)(j:ag)(c d:Bool)(h1:j.kind=0)(h2:Cp 98 [vI j.a,(vI (l.aa.length:Int))] (vB c))(h3:c=true)(h4:Cp 98 [vI j.b,(vI (l.aa.length:Int))] (vB d))(h5:d=false):Cp 97 [l.pv,j.pv] (.iface 74 (vI 9)) :=
 eD func97 99 [1,1,1,1,1,1,1,1,1,1,1,1,1,1,1,1,1] [.q,.aQ [.o,.o,.o,.o,.skip,.skip,.skip,(.dec false)],.a,.aQ [.o,.o,.o,.o,(iI (l.aa.length:Int)),(.pv (vB c)),.o,.o,.o,.o,.o,.o,(iI (l.aa.length:Int)),(.pv (vB d)),.o,(.dec false)],.t,.q] (NA (aS h1) (aS h1) (aS h1) (aS h1) (av ab.cells l.aa) h2 (ah h3) (ah h3) (ah h3) (ah h3) (ah h3) (av ab.cells l.aa) (ah h3) h4 (ah h3) (ah h3) (aD h5))
theorem Ui(l:aj)(j:ag)(c d:Bool)(h1:j.kind=0)(h2:Cp 98 [vI j.a,(vI (l.aa.length:Int))] (vB c))(h3:c=true)(h4:Cp 98 [vI j.b,(vI (l.aa.length:Int))] (vB d))(h5:d=true)(h6:j.a=j.b):Cp 97 [l.pv,j.pv] (.iface 74 (vI 13)) :=
 eD func97 114 [1,1,1,1,1,1,1,1,1,1,1,1,1,1,1,1,1,1] [.q,.aQ [.o,.o,.o,.o,.skip,.skip,.skip,(.dec false)],.a,.aQ [.o,.o,.o,.o,(iI (l.aa.length:Int)),(.pv (vB c)),.o,.o,.o,.o,.o,.o,(iI (l.aa.length:Int)),(.pv (vB d)),.o,(.dec false)],.f,.q,.t,.q] (Jm (aS h1) (aS h1) (aS h1) (aS h1) (av ab.cells l.aa) h2 (ah h3) (ah h3) (ah h3) (ah h3) (ah h3) (av ab.cells l.aa) (ah h3) h4 (ah h3) (ah h3) (ah h5) (bA h6))
theorem Uj(l:aj)(j:ag)(c d:Bool)(k:Nat)(v:ab)(k1:Nat)(v1:ab)(g:Bool)(h1:j.kind=0)(h2:Cp 98 [vI j.a,(vI (l.aa.length:Int))] (vB c))(h3:c=true)(h4:Cp 98 [vI j.b,(vI (l.aa.length:Int))] (vB d))(h5:d=true)(h6:j.a≠j.b)(h7:j.b=(k:Int))(h8:l.aa[k]? = some v)(h9:j.a=(k1:Int))(bQ:l.aa[k1]? = some v1)(cW:Cp 98 [vI j.bq,(vI (v1.points.length:Int))] (vB g))(cP:g=false):Cp 97 [l.pv,j.pv] (.iface 74 (vI 9)) :=
 eD func97 135 [1,1,1,1,1,1,1,1,1,1,1,1,1,1,1,1,1,1,3,3,1,1,1,1,1,1,1,1,1] [.q,.aQ [.o,.o,.o,.o,.skip,.skip,.skip,(.dec false)],.a,.aQ [.o,.o,.o,.o,(iI (l.aa.length:Int)),(.pv (vB c)),.o,.o,.o,.o,.o,.o,(iI (l.aa.length:Int)),(.pv (vB d)),.o,(.dec false)],.f,.q,.f,.h 4 (.row k (ab.cells v)),dr 20 0 [.none,.none,.none,.none,.none,.none,(.row k1 (ab.cells v1)),.none,.none,(iI (v1.points.length:Int)),(.pv (vB g)),.none,.none,.skip,.skip,.skip,.skip,.skip,.skip,(.dec true)],.a,.q] (T9 (aS h1) (aS h1) (aS h1) (aS h1) (av ab.cells l.aa) h2 (ah h3) (ah h3) (ah h3) (ah h3) (ah h3) (av ab.cells l.aa) (ah h3) h4 (ah h3) (ah h3) (ah h5) (bm h6) (aL ab.cells h7 h8) (aL ab.cells h9 bQ) (av au.cells v1.points) cW (aD cP) (aD cP) (aD cP) (aD cP) (aD cP) (aD cP) (aD cP))
theorem PB(l:aj)(j:ag)(c d:Bool)(k:Nat)(v:ab)(k1:Nat)(v1:ab)(g i:Bool)(h1:j.kind=0)(h2:Cp 98 [vI j.a,(vI (l.aa.length:Int))] (vB c))(h3:c=true)(h4:Cp 98 [vI j.b,(vI (l.aa.length:Int))] (vB d))(h5:d=true)(h6:j.a≠j.b)(h7:j.b=(k:Int))(h8:l.aa[k]? = some v)(h9:j.a=(k1:Int))(bQ:l.aa[k1]? = some v1)(cW:Cp 98 [vI j.bq,(vI (v1.points.length:Int))] (vB g))(cP:g=true)(cD:Cp 98 [vI j.fD,(vI (v.points.length:Int))] (vB i))(en:i=false):Cp 97 [l.pv,j.pv] (.iface 74 (vI 9)) :=
 eD func97 135 [1,1,1,1,1,1,1,1,1,1,1,1,1,1,1,1,1,1,3,3,1,1,1,1,1,1,1,1,1,1,1,1] [.q,.aQ [.o,.o,.o,.o,.skip,.skip,.skip,(.dec false)],.a,.aQ [.o,.o,.o,.o,(iI (l.aa.length:Int)),(.pv (vB c)),.o,.o,.o,.o,.o,.o,(iI (l.aa.length:Int)),(.pv (vB d)),.o,(.dec false)],.f,.q,.f,.h 4 (.row k (ab.cells v)),dr 20 0 [.none,.none,.none,.none,.none,.none,(.row k1 (ab.cells v1)),.none,.none,(iI (v1.points.length:Int)),(.pv (vB g)),.none,.none,.none,.none,.none,(iI (v.points.length:Int)),(.pv (vB i)),.none,(.dec false)],.t,.q] (QS (aS h1) (aS h1) (aS h1) (aS h1) (av ab.cells l.aa) h2 (ah h3) (ah h3) (ah h3) (ah h3) (ah h3) (av ab.cells l.aa) (ah h3) h4 (ah h3) (ah h3) (ah h5) (bm h6) (aL ab.cells h7 h8) (aL ab.cells h9 bQ) (av au.cells v1.points) cW (ah cP) (ah cP) (ah cP) (ah cP) (av au.cells v.points) (ah cP) cD (ah cP) (ah cP) (aD en))
theorem Uk(l:aj)(j:ag)(c d:Bool)(k:Nat)(v:ab)(k1:Nat)(v1:ab)(g i:Bool)(h1:j.kind=0)(h2:Cp 98 [vI j.a,(vI (l.aa.length:Int))] (vB c))(h3:c=true)(h4:Cp 98 [vI j.b,(vI (l.aa.length:Int))] (vB d))(h5:d=true)(h6:j.a≠j.b)(h7:j.b=(k:Int))(h8:l.aa[k]? = some v)(h9:j.a=(k1:Int))(bQ:l.aa[k1]? = some v1)(cW:Cp 98 [vI j.bq,(vI (v1.points.length:Int))] (vB g))(cP:g=true)(cD:Cp 98 [vI j.fD,(vI (v.points.length:Int))] (vB i))(en:i=true)(jw:j.fj≠0):Cp 97 [l.pv,j.pv] (.iface 74 (vI 2)) :=
 eD func97 162 [1,1,1,1,1,1,1,1,1,1,1,1,1,1,1,1,1,1,3,3,1,1,1,1,1,1,1,1,1,1,1,1,1,1] [.q,.aQ [.o,.o,.o,.o,.skip,.skip,.skip,(.dec false)],.a,.aQ [.o,.o,.o,.o,(iI (l.aa.length:Int)),(.pv (vB c)),.o,.o,.o,.o,.o,.o,(iI (l.aa.length:Int)),(.pv (vB d)),.o,(.dec false)],.f,.q,.f,.h 4 (.row k (ab.cells v)),dr 20 0 [.none,.none,.none,.none,.none,.none,(.row k1 (ab.cells v1)),.none,.none,(iI (v1.points.length:Int)),(.pv (vB g)),.none,.none,.none,.none,.none,(iI (v.points.length:Int)),(.pv (vB i)),.none,(.dec false)],.f,.q,.t,.q,.t,.q] (PA (aS h1) (aS h1) (aS h1) (aS h1) (av ab.cells l.aa) h2 (ah h3) (ah h3) (ah h3) (ah h3) (ah h3) (av ab.cells l.aa) (ah h3) h4 (ah h3) (ah h3) (ah h5) (bm h6) (aL ab.cells h7 h8) (aL ab.cells h9 bQ) (av au.cells v1.points) cW (ah cP) (ah cP) (ah cP) (ah cP) (av au.cells v.points) (ah cP) cD (ah cP) (ah cP) (ah en) (bA h1) (ba jw))
theorem Ul(l:aj)(j:ag)(c d:Bool)(k:Nat)(v:ab)(k1:Nat)(v1:ab)(g i:Bool)(h1:j.kind=0)(h2:Cp 98 [vI j.a,(vI (l.aa.length:Int))] (vB c))(h3:c=true)(h4:Cp 98 [vI j.b,(vI (l.aa.length:Int))] (vB d))(h5:d=true)(h6:j.a≠j.b)(h7:j.b=(k:Int))(h8:l.aa[k]? = some v)(h9:j.a=(k1:Int))(bQ:l.aa[k1]? = some v1)(cW:Cp 98 [vI j.bq,(vI (v1.points.length:Int))] (vB g))(cP:g=true)(cD:Cp 98 [vI j.fD,(vI (v.points.length:Int))] (vB i))(en:i=true)(jw:j.fj=0):Cp 97 [l.pv,j.pv] .bK :=
 eD func97 165 [1,1,1,1,1,1,1,1,1,1,1,1,1,1,1,1,1,1,3,3,1,1,1,1,1,1,1,1,1,1,1,1,1,1] [.q,.aQ [.o,.o,.o,.o,.skip,.skip,.skip,(.dec false)],.a,.aQ [.o,.o,.o,.o,(iI (l.aa.length:Int)),(.pv (vB c)),.o,.o,.o,.o,.o,.o,(iI (l.aa.length:Int)),(.pv (vB d)),.o,(.dec false)],.f,.q,.f,.h 4 (.row k (ab.cells v)),dr 20 0 [.none,.none,.none,.none,.none,.none,(.row k1 (ab.cells v1)),.none,.none,(iI (v1.points.length:Int)),(.pv (vB g)),.none,.none,.none,.none,.none,(iI (v.points.length:Int)),(.pv (vB i)),.none,(.dec false)],.f,.q,.t,.q,.f,.q] (PA (aS h1) (aS h1) (aS h1) (aS h1) (av ab.cells l.aa) h2 (ah h3) (ah h3) (ah h3) (ah h3) (ah h3) (av ab.cells l.aa) (ah h3) h4 (ah h3) (ah h3) (ah h5) (bm h6) (aL ab.cells h7 h8) (aL ab.cells h9 bQ) (av au.cells v1.points) cW (ah cP) (ah cP) (ah cP) (ah cP) (av au.cells v.points) (ah cP) cD (ah cP) (ah cP) (ah en) (bA h1) (aS jw))
end cr
namespace dK
@[reducible] def fn:Func:=Tryz.f55
def br:List dI:=focus [0,2,0,0,2,1,2,0,0,2,0,0] [.code (aA fn)]
def inv1(l:aj)(Ep:Nat):St:=⟨[(1,(.ptr 1 0)),(14,(.pv (aZ ag.cells l.an))),(15,(eI (l.an.length:Int))),(16,(eI (Ep:Int)))],[(1,(.lit [(.pv (.str l.name)),(.pv (aZ ab.cells l.aa)),(.pv (aZ ag.cells l.an)),(.pv (aZ af.cells l.ak))]))]⟩
@[reducible] def ar(l:aj)(Ep:Nat)(r:PV):Prop:=L a7 fn br (inv1 l Ep) r
def fP:List dI:=focus [0,2,0,0,2,1,2,0,0,2,0,0,0,0,2,0,0,2,0,0,0,2,0,0,2,1,2,0,0,2,0,0] [.code (aA fn)]
def inv2(l:aj)(Ep:Nat)(Mv:List ag)(Er yA:Nat)(v:ag):St:=⟨[(1,(.ptr 1 0)),(4,(.ptr 4 0)),(14,(.pv (aZ ag.cells l.an))),(15,(eI (l.an.length:Int))),(16,(eI (Ep:Int))),(29,(.pv (aZ ag.cells Mv))),(30,(eI (Er:Int))),(31,(eI (yA:Int)))],[(1,(.lit [(.pv (.str l.name)),(.pv (aZ ab.cells l.aa)),(.pv (aZ ag.cells l.an)),(.pv (aZ af.cells l.ak))])),(4,(.lit [(.pv (.str v.name)),(eI v.kind),(eI v.a),(eI v.bq),(eI v.b),(eI v.fD),(eI v.fj)]))]⟩
@[reducible] def aJ(l:aj)(Ep:Nat)(Mv:List ag)(Er yA:Nat)(v:ag)(r:PV):Prop:=L a7 fn fP (inv2 l Ep Mv Er yA v) r
theorem e0(l:aj)(h1:16<l.an.length):Cp 55 [l.pv] (.iface 74 (vI 4)) :=
 eD func55 84 [1,1] [.q,.h 2 (iI (l.an.length:Int)),.t,.q] (y2 (av ag.cells l.an) (ay h1))
theorem e1(l:aj){r:PV}(h1:l.an.length≤16)(hL:ar l 0 r):Cp 55 [l.pv] r :=
 eG func55 96 [1,1,1] [.q,.h 2 (iI (l.an.length:Int)),.f,.h 2 (iI (l.an.length:Int)),.aH [1,14,15,16]] (y3 (av ag.cells l.an) (az h1) (av ag.cells l.an)) hL
theorem dC(l:aj)(b:Nat)(v:ag)(c:Bool)(h1:b<l.an.length)(h2:l.an[b]? = some v)(h3:Cp 53 [(.str v.name)] (vB c))(h4:c=false):ar l b (.iface 74 (vI 5)) :=
 lD 144 [1,3,1,1] [.a,.q,.t,.h 1 (.row b (ag.cells v)),.h 2 (.pv (vB c)),.t,.q] (y4 (ay h1) (aL ag.cells (Eq.refl (((b:Nat):Int):Int)) h2) h3 (aD h4))
theorem dD(l:aj)(b:Nat)(v:ag)(c:Bool){r:PV}(h1:b<l.an.length)(h2:l.an[b]? = some v)(h3:Cp 53 [(.str v.name)] (vB c))(h4:c=true)(h5:b≤l.an.length)(hL:aJ l b (l.an.take b) ((l.an.take b).length) 0 v r):ar l b r :=
 lG 156 [1,3,1,1,6,1] [.a,.q,.t,.h 1 (.row b (ag.cells v)),.h 2 (.pv (vB c)),.f,.aQ [.o,.o,.o,(.q8 0 b (((l.an.take b):List ag).map ag.cells)),(iI (((l.an.take b).length:Nat):Int))],.aH [1,4,14,15,16,29,30,31],.ord [1,4]] (y6 (ay h1) (aL ag.cells (Eq.refl (((b:Nat):Int):Int)) h2) h3 (ah h4) (we cQ (l.an:List ag) (Eq.refl (((b:Nat):Int):Int)) h5) (av ag.cells (l.an.take b))) hL
theorem kM(l:aj)(b:Nat)(h1:l.an.length≤b):ar l b .bK :=
 lD 129 [1] [.a,.q,.f,.q] (y1 (az h1))
theorem nK(l:aj)(b:Nat)(c:List ag)(d g:Nat)(v v1:ag)(h1:g<d)(h2:c[g]? = some v1)(h3:v1.name=v.name):aJ l b c d g v (.iface 74 (vI 6)) :=
 lD 201 [1,3,1] [.a,.q,.t,.h 0 (.row g (ag.cells v1)),.q,.t,.q] (y3 (ay h1) (aL ag.cells (Eq.refl (((g:Nat):Int):Int)) h2) (aM h3))
theorem nL(l:aj)(b:Nat)(c:List ag)(d g:Nat)(v v1:ag){r:PV}(h1:g<d)(h2:c[g]? = some v1)(h3:v1.name≠v.name)(h4:(g+1)<9223372036854775808)(hL:aJ l b c d (g+1) v r):aJ l b c d g v r :=
 lG 204 [1,3,1,1] [.a,.q,.t,.h 0 (.row g (ag.cells v1)),.q,.f,.h 0 (iI (((g+1):Nat):Int)),.aH [1,4,14,15,16,29,30,31],.drop [6]] (y4 (ay h1) (aL ag.cells (Eq.refl (((g:Nat):Int):Int)) h2) (bG h3) (aI h4)) hL
theorem vv(l:aj)(b:Nat)(c:List ag)(d g:Nat)(v:ag){r:PV}(h1:d≤g)(h2:Cp 97 [l.pv,v.pv] .bK)(h3:(b+1)<9223372036854775808)(hL:ar l (b+1) r):aJ l b c d g v r :=
 lG 207 [1,1,1] [.a,.q,.f,.h 2 (.pv .bK),.q,.a,.h 0 (iI (((b+1):Nat):Int)),.aH [1,14,15,16],.drop [4]] (y3 (az h1) h2 (aI h3)) hL
theorem HY(l:aj)(b:Nat)(c:List ag)(d g:Nat)(v:ag)(i:Int)(h1:d≤g)(h2:Cp 97 [l.pv,v.pv] (.iface 74 (vI i))):aJ l b c d g v (.iface 74 (vI i)) :=
 lD 204 [1,1] [.a,.q,.f,.h 2 (.pv (.iface 74 (vI i))),.q,.a,.q] (y2 (az h1) h2)
end dK
namespace bB
@[reducible] def fn:Func:=Tryz.f56
def br:List dI:=focus [0,2,0,0,2,1,2,0,0,2,0,0] [.code (aA fn)]
def inv1(l:aj)(nZ:Nat):St:=⟨[(1,(.ptr 1 0)),(15,(.pv (aZ af.cells l.ak))),(16,(eI (l.ak.length:Int))),(17,(eI (nZ:Int)))],[(1,(.lit [(.pv (.str l.name)),(.pv (aZ ab.cells l.aa)),(.pv (aZ ag.cells l.an)),(.pv (aZ af.cells l.ak))]))]⟩
@[reducible] def ar(l:aj)(nZ:Nat)(r:PV):Prop:=L a7 fn br (inv1 l nZ) r
def fP:List dI:=focus [0,2,0,0,2,1,2,0,0,2,0,0,0,0,2,0,0,2,0,0,0,2,0,0,2,1,2,0,0,2,0,0] [.code (aA fn)]
def inv2(vy:Nat)(l:aj)(nZ:Nat)(Er:List af)(yA Mw:Nat)(v:af):St:=⟨[(1,(.ptr 1 0)),(3,(eI (vy:Int))),(4,(.ptr 4 0)),(15,(.pv (aZ af.cells l.ak))),(16,(eI (l.ak.length:Int))),(17,(eI (nZ:Int))),(30,(.pv (aZ af.cells Er))),(31,(eI (yA:Int))),(32,(eI (Mw:Int)))],[(1,(.lit [(.pv (.str l.name)),(.pv (aZ ab.cells l.aa)),(.pv (aZ ag.cells l.an)),(.pv (aZ af.cells l.ak))])),(4,(.lit [(.pv (.str v.name)),(eI v.body)]))]⟩
@[reducible] def aJ(vy:Nat)(l:aj)(nZ:Nat)(Er:List af)(yA Mw:Nat)(v:af)(r:PV):Prop:=L a7 fn fP (inv2 vy l nZ Er yA Mw v) r
def vw:List dI:=focus [0,2,0,0,2,1,2,0,0,2,0,0,0,0,2,0,0,2,0,0,0,2,0,0,2,1,2,0,0,2,0,0,0,0,2,0,1,2,2,2,2,0,0,2,1,2,0,0,2,1,2,0,2,0,0] [.code (aA fn)]
def vx(l:aj)(nZ:Nat)(Mx:List af)(En Eo:Nat)(v:af):St:=⟨[(1,(.ptr 1 0)),(4,(.ptr 4 0)),(15,(.pv (aZ af.cells l.ak))),(16,(eI (l.ak.length:Int))),(17,(eI (nZ:Int))),(58,(.pv (aZ af.cells Mx))),(59,(eI (En:Int))),(60,(eI (Eo:Int)))],[(1,(.lit [(.pv (.str l.name)),(.pv (aZ ab.cells l.aa)),(.pv (aZ ag.cells l.an)),(.pv (aZ af.cells l.ak))])),(4,(.lit [(.pv (.str v.name)),(eI v.body)]))]⟩
@[reducible] def cL(l:aj)(nZ:Nat)(Mx:List af)(En Eo:Nat)(v:af)(r:PV):Prop:=L a7 fn vw (vx l nZ Mx En Eo v) r
theorem e0(l:aj)(h1:2<l.ak.length):Cp 56 [l.pv] (.iface 74 (vI 4)) :=
 eD func56 84 [1,1] [.q,.h 2 (iI (l.ak.length:Int)),.t,.q] (y2 (av af.cells l.ak) (ay h1))
theorem e1(l:aj){r:PV}(h1:l.ak.length≤2)(hL:ar l 0 r):Cp 56 [l.pv] r :=
 eG func56 96 [1,1,1] [.q,.h 2 (iI (l.ak.length:Int)),.f,.h 2 (iI (l.ak.length:Int)),.aH [1,15,16,17]] (y3 (av af.cells l.ak) (az h1) (av af.cells l.ak)) hL
theorem dC(l:aj)(b:Nat)(v:af)(c:Bool)(h1:b<l.ak.length)(h2:l.ak[b]? = some v)(h3:Cp 53 [(.str v.name)] (vB c))(h4:c=false):ar l b (.iface 74 (vI 5)) :=
 lD 144 [1,3,1,1] [.a,.q,.t,.h 1 (.row b (af.cells v)),.h 2 (.pv (vB c)),.t,.q] (y4 (ay h1) (aL af.cells (Eq.refl (((b:Nat):Int):Int)) h2) h3 (aD h4))
theorem dD(l:aj)(b:Nat)(v:af)(c:Bool){r:PV}(h1:b<l.ak.length)(h2:l.ak[b]? = some v)(h3:Cp 53 [(.str v.name)] (vB c))(h4:c=true)(h5:b≤l.ak.length)(hL:aJ b l b (l.ak.take b) ((l.ak.take b).length) 0 v r):ar l b r :=
 lG 156 [1,3,1,1,6,1] [.a,.q,.t,.h 1 (.row b (af.cells v)),.h 2 (.pv (vB c)),.f,.aQ [.o,.o,.o,(.q8 0 b (((l.ak.take b):List af).map af.cells)),(iI (((l.ak.take b).length:Nat):Int))],.aH [1,3,4,15,16,17,30,31,32],.ord [1,4]] (y6 (ay h1) (aL af.cells (Eq.refl (((b:Nat):Int):Int)) h2) h3 (ah h4) (we cm (l.ak:List af) (Eq.refl (((b:Nat):Int):Int)) h5) (av af.cells (l.ak.take b))) hL
theorem kM(l:aj)(b:Nat)(h1:l.ak.length≤b):ar l b .bK :=
 lD 129 [1] [.a,.q,.f,.q] (y1 (az h1))
theorem nK(b:Nat)(l:aj)(c:Nat)(d:List af)(g i:Nat)(v v1:af)(h1:i<g)(h2:d[i]? = some v1)(h3:v1.name=v.name):aJ b l c d g i v (.iface 74 (vI 6)) :=
 lD 201 [1,3,1] [.a,.q,.t,.h 0 (.row i (af.cells v1)),.q,.t,.q] (y3 (ay h1) (aL af.cells (Eq.refl (((i:Nat):Int):Int)) h2) (aM h3))
theorem nL(b:Nat)(l:aj)(c:Nat)(d:List af)(g i:Nat)(v v1:af){r:PV}(h1:i<g)(h2:d[i]? = some v1)(h3:v1.name≠v.name)(h4:(i+1)<9223372036854775808)(hL:aJ b l c d g (i+1) v r):aJ b l c d g i v r :=
 lG 204 [1,3,1,1] [.a,.q,.t,.h 0 (.row i (af.cells v1)),.q,.f,.h 0 (iI (((i+1):Nat):Int)),.aH [1,3,4,15,16,17,30,31,32],.drop [6]] (y4 (ay h1) (aL af.cells (Eq.refl (((i:Nat):Int):Int)) h2) (bG h3) (aI h4)) hL
theorem vv(b:Nat)(l:aj)(c:Nat)(d:List af)(g i:Nat)(v:af)(j:Bool)(h1:g≤i)(h2:Cp 98 [vI v.body,(vI (l.aa.length:Int))] (vB j))(h3:j=false):aJ b l c d g i v (.iface 74 (vI 9)) :=
 lD 201 [1,1,1,1] [.a,.q,.f,.aQ [.o,.o,.o,.o,(iI (l.aa.length:Int)),(.pv (vB j))],.t,.q] (y4 (az h1) (av ab.cells l.aa) h2 (aD h3))
theorem HY(b:Nat)(l:aj)(c:Nat)(d:List af)(g i:Nat)(v:af)(j:Bool)(h1:g≤i)(h2:Cp 98 [vI v.body,(vI (l.aa.length:Int))] (vB j))(h3:j=true)(h4:v.body=0):aJ b l c d g i v (.iface 74 (vI 7)) :=
 lD 216 [1,1,1,1,1] [.a,.q,.f,.aQ [.o,.o,.o,.o,(iI (l.aa.length:Int)),(.pv (vB j))],.f,.q,.t,.q] (y5 (az h1) (av ab.cells l.aa) h2 (ah h3) (bA h4))
theorem NB(b:Nat)(l:aj)(c:Nat)(d:List af)(g i:Nat)(v:af)(j:Bool){r:PV}(h1:g≤i)(h2:Cp 98 [vI v.body,(vI (l.aa.length:Int))] (vB j))(h3:j=true)(h4:v.body≠0)(h5:b≤l.ak.length)(hL:cL l c (l.ak.take b) ((l.ak.take b).length) 0 v r):aJ b l c d g i v r :=
 lG 225 [1,1,1,1,1,6,1] [.a,.q,.f,.aQ [.o,.o,.o,.o,(iI (l.aa.length:Int)),(.pv (vB j))],.f,.q,.f,.aQ [.o,.o,.o,(.q8 0 b (((l.ak.take b):List af).map af.cells)),(iI (((l.ak.take b).length:Nat):Int))],.aH [1,4,15,16,17,58,59,60]] (y7 (az h1) (av ab.cells l.aa) h2 (ah h3) (bm h4) (we cm (l.ak:List af) (Eq.refl (((b:Nat):Int):Int)) h5) (av af.cells (l.ak.take b))) hL
theorem H3(l:aj)(b:Nat)(c:List af)(d g:Nat)(v v1:af)(h1:g<d)(h2:c[g]? = some v1)(h3:v1.body=v.body):cL l b c d g v (.iface 74 (vI 6)) :=
 lD 270 [1,3,1] [.a,.q,.t,.h 0 (.row g (af.cells v1)),.q,.t,.q] (y3 (ay h1) (aL af.cells (Eq.refl (((g:Nat):Int):Int)) h2) (bA h3))
theorem Gb(l:aj)(b:Nat)(c:List af)(d g:Nat)(v v1:af){r:PV}(h1:g<d)(h2:c[g]? = some v1)(h3:v1.body≠v.body)(h4:(g+1)<9223372036854775808)(hL:cL l b c d (g+1) v r):cL l b c d g v r :=
 lG 273 [1,3,1,1] [.a,.q,.t,.h 0 (.row g (af.cells v1)),.q,.f,.h 0 (iI (((g+1):Nat):Int)),.aH [1,4,15,16,17,58,59,60],.drop [8]] (y4 (ay h1) (aL af.cells (Eq.refl (((g:Nat):Int):Int)) h2) (bm h3) (aI h4)) hL
theorem Oy(l:aj)(b:Nat)(c:List af)(d g:Nat)(v:af){r:PV}(h1:d≤g)(h2:(b+1)<9223372036854775808)(hL:ar l (b+1) r):cL l b c d g v r :=
 lG 258 [1,1] [.a,.q,.f,.h 0 (iI (((b+1):Nat):Int)),.aH [1,15,16,17],.drop [4]] (y2 (az h1) (aI h2)) hL
end bB
namespace jd
theorem e0(l:aj)(a:Bool)(h1:Cp 53 [(.str l.name)] (vB a))(h2:a=false):Cp 23 [l.pv] (.iface 74 (vI 5)) :=
 eD func23 84 [1,1] [.q,.h 2 (.pv (vB a)),.t,.q] (y2 h1 (aD h2))
theorem e1(l:aj)(a:Bool)(h1:Cp 53 [(.str l.name)] (vB a))(h2:a=true)(h3:l.aa.length=0):Cp 23 [l.pv] (.iface 74 (vI 10)) :=
 eD func23 99 [1,1,1,1] [.q,.h 2 (.pv (vB a)),.f,.h 2 (iI (l.aa.length:Int)),.t,.q] (y4 h1 (ah h2) (av ab.cells l.aa) (bd h3))
theorem e2(l:aj)(a:Bool)(h1:Cp 53 [(.str l.name)] (vB a))(h2:a=true)(h3:l.aa.length≠0)(h4:8<l.aa.length):Cp 23 [l.pv] (.iface 74 (vI 4)) :=
 eD func23 114 [1,1,1,1,1,1] [.q,.h 2 (.pv (vB a)),.f,.h 2 (iI (l.aa.length:Int)),.f,.h 2 (iI (l.aa.length:Int)),.t,.q] (y6 h1 (ah h2) (av ab.cells l.aa) (aR h3) (av ab.cells l.aa) (ay h4))
theorem e3(l:aj)(b:Bool)(c:Option Int)(h1:Cp 53 [(.str l.name)] (vB b))(h2:b=true)(h3:l.aa.length≠0)(h4:l.aa.length≤8)(h5:Cp 54 [aZ ab.cells l.aa] .bK)(h6:Cp 55 [l.pv] .bK)(h7:Cp 56 [l.pv] (di c)):Cp 23 [l.pv] (di c) :=
 eD func23 159 [1,1,1,1,1,1,1,1,1] [.q,.h 2 (.pv (vB b)),.f,.h 2 (iI (l.aa.length:Int)),.f,.h 2 (iI (l.aa.length:Int)),.f,.h 2 (.pv .bK),.q,.a,.h 1 (.pv .bK),.q,.a,.h 1 (.pv (di c))] (y9 h1 (ah h2) (av ab.cells l.aa) (aR h3) (av ab.cells l.aa) (az h4) h5 h6 h7)
theorem e4(l:aj)(b:Bool)(c:Int)(h1:Cp 53 [(.str l.name)] (vB b))(h2:b=true)(h3:l.aa.length≠0)(h4:l.aa.length≤8)(h5:Cp 54 [aZ ab.cells l.aa] .bK)(h6:Cp 55 [l.pv] (.iface 74 (vI c))):Cp 23 [l.pv] (.iface 74 (vI c)) :=
 eD func23 156 [1,1,1,1,1,1,1,1] [.q,.h 2 (.pv (vB b)),.f,.h 2 (iI (l.aa.length:Int)),.f,.h 2 (iI (l.aa.length:Int)),.f,.h 2 (.pv .bK),.q,.a,.h 1 (.pv (.iface 74 (vI c))),.q,.a,.q] (y8 h1 (ah h2) (av ab.cells l.aa) (aR h3) (av ab.cells l.aa) (az h4) h5 h6)
theorem e5(l:aj)(b:Bool)(c:Int)(h1:Cp 53 [(.str l.name)] (vB b))(h2:b=true)(h3:l.aa.length≠0)(h4:l.aa.length≤8)(h5:Cp 54 [aZ ab.cells l.aa] (.iface 74 (vI c))):Cp 23 [l.pv] (.iface 74 (vI c)) :=
 eD func23 135 [1,1,1,1,1,1,1] [.q,.h 2 (.pv (vB b)),.f,.h 2 (iI (l.aa.length:Int)),.f,.h 2 (iI (l.aa.length:Int)),.f,.h 2 (.pv (.iface 74 (vI c))),.q,.a,.q] (y7 h1 (ah h2) (av ab.cells l.aa) (aR h3) (av ab.cells l.aa) (az h4) h5)
end jd
end Go.Proofs.YtfjfekodeplcoaaGreat.Sym.Path
end
