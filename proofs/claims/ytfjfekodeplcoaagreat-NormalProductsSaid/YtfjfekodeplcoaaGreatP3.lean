/- Lemmas for the statements of this seat. -/
import Derived.Test.YtfjfekodeplcoaaGreatT0
noncomputable section
namespace Go.Proofs.YtfjfekodeplcoaaGreat.Sym.Path
open Go Tryz
set_option maxRecDepth 20000
set_option linter.unusedVariables false
namespace ea
theorem e0(b:Nat)(h1:65≤b)(h2:b≤90):Cp 122 [(.int .u8 (b:Int))] (vB true) :=
 eD func122 72 [1,1,1,1,1,1,1,1] [.q,.aR [.o,.o,.o,.o,.o,(.dec true),.o,.skip,.skip,.skip,.skip,.skip,.skip,(.dec true)]] (y8 (bB h1) (bB h1) (bB h1) (bB h2) (bB h2) (bB h2) (bB h2) (bB h2))
theorem e1(b:Nat)(h1:65≤b)(h2:90<b)(h3:97≤b):Cp 122 [(.int .u8 (b:Int))] (vB (decide ((b:Int)≤122))) :=
 eD func122 72 [1,1,1,1,1,1,1,1,1,1,1] [.q,.aR [.o,.o,.o,.o,.o,(.dec true),.o,.o,.o,.o,.o,.o,(.dec true),(.dec false)]] (Fb (bB h1) (bB h1) (bB h1) (aZ h2) (aZ h2) (aZ h2) (bB h3) (bB h3) (aZ h2) (bB h3) (aZ h2))
theorem e2(b:Nat)(h1:65≤b)(h2:90<b)(h3:b<97):Cp 122 [(.int .u8 (b:Int))] (vB false) :=
 eD func122 72 [1,1,1,1,1,1,1,1,1,1,1] [.q,.aR [.o,.o,.o,.o,.o,(.dec true),.o,.o,.o,.o,.skip,.skip,(.dec false),(.dec false)]] (Fb (bB h1) (bB h1) (bB h1) (aZ h2) (aZ h2) (aZ h2) (aZ h3) (aZ h3) (aZ h2) (aZ h3) (aZ h2))
theorem e4(b:Nat)(h1:b<65)(h2:b<97):Cp 122 [(.int .u8 (b:Int))] (vB false) :=
 eD func122 72 [1,1,1,1,1,1,1,1,1,1] [.q,.aR [.o,.o,.o,.skip,.skip,(.dec false),.o,.o,.o,.o,.skip,.skip,(.dec false)]] (CM (aZ h1) (aZ h1) (aZ h1) (Eq.refl false) (Eq.refl false) (Eq.refl false) (aZ h2) (aZ h2) (Eq.refl false) (aZ h2))
end ea
namespace iL
theorem e0(b:Nat)(h1:48≤b):Cp 124 [(.int .u8 (b:Int))] (vB (decide ((b:Int)≤57))) :=
 eD func124 72 [1,1,1] [.q,.h 5 (.dec true)] (y3 (bB h1) (bB h1) (bB h1))
theorem e1(b:Nat)(h1:b<48):Cp 124 [(.int .u8 (b:Int))] (vB false) :=
 eD func124 72 [1,1,1] [.q,.aR [.o,.o,.o,.skip,.skip,(.dec false)]] (y3 (aZ h1) (aZ h1) (aZ h1))
end iL
namespace gI
theorem e0(s:ByteArray)(i:Int)(k b:Nat)(h1:i<(s.size:Int))(h2:i=(k:Int))(h3:(s.data.toList[k]?).map (fun b=>(b.toNat:Int))=some (b:Int)):Cp 123 [(.str s),vI i] (.int .u8 (b:Int)) :=
 eD func123 84 [1,1,2] [.q,.h 2 (iI (s.size:Int)),.t,.h 2 (.row k [.int .u8 (b:Int)])] (y3 (Eq.refl ((s.size:Nat):Int)) (bd h1) (cj h2 h3))
theorem e1(s:ByteArray)(i:Int)(h1:(s.size:Int)≤i):Cp 123 [(.str s),vI i] (.int .u8 0) :=
 eD func123 87 [1,1] [.q,.h 2 (iI (s.size:Int)),.f,.q] (y2 (Eq.refl ((s.size:Nat):Int)) (ba h1))
end gI
namespace b7
@[reducible] def fn:Func:=Tryz.f84
def bM:List eh:=focus [0,2,0,0,2,1,2,0,0,0] [.code (az fn)]
def inv1(s:ByteArray)(Sv:Int):St:=⟨[(0,(.pv (.str s))),(1,(eI Sv))],[]⟩
@[reducible] def au(s:ByteArray)(Sv:Int)(r:PV):Prop:=L bp fn bM (inv1 s Sv) r
theorem e0(s:ByteArray)(i:Int)(a:Nat)(b:Bool)(h1:Cp 123 [(.str s),vI i] (.int .u8 (a:Int)))(h2:Cp 122 [(.int .u8 (a:Int))] (vB b))(h3:b=false):Cp 84 [(.str s),vI i] (vI i) :=
 eD func84 84 [1,1,1] [.q,.aR [.o,.o,(.pv (.int .u8 (a:Int))),(.pv (vB b))],.t,.q] (y3 h1 h2 (aF h3))
theorem e1(s:ByteArray)(i:Int)(a:Nat)(b:Bool){r:PV}(h1:Cp 123 [(.str s),vI i] (.int .u8 (a:Int)))(h2:Cp 122 [(.int .u8 (a:Int))] (vB b))(h3:b=true)(hL:au s i r):Cp 84 [(.str s),vI i] r :=
 eG func84 90 [1,1,1] [.q,.aR [.o,.o,(.pv (.int .u8 (a:Int))),(.pv (vB b))],.f,.aN [0,1]] (y3 h1 h2 (ae h3)) hL
theorem eo(s:ByteArray)(b:Int)(c:Nat)(d:Bool){r:PV}(h1:Cp 123 [(.str s),vI b] (.int .u8 (c:Int)))(h2:Cp 122 [(.int .u8 (c:Int))] (vB d))(h3:d=true)(h4:aO (b+1))(hL:au s (b+1) r):au s b r :=
 lG 117 [1,1,1,1,1,1,1,1,1,1,1,1] [.a,.aR [.o,.o,(.pv (.int .u8 (c:Int))),(.pv (vB d)),.o,.skip,.skip,.skip,.skip,(.dec true),.o,.skip,.skip,.skip,.skip],.a,.h 1 (iI (b+1)),.aN [0,1]] (Ki h1 h2 h3 h3 h3 h3 h3 (Eq.refl true) (Eq.refl true) (Eq.refl true) (Eq.refl true) (ki h4)) hL
theorem ew(s:ByteArray)(b:Int)(c:Nat)(d:Bool)(g:Nat)(i:Bool){r:PV}(h1:Cp 123 [(.str s),vI b] (.int .u8 (c:Int)))(h2:Cp 122 [(.int .u8 (c:Int))] (vB d))(h3:d=false)(h4:Cp 123 [(.str s),vI b] (.int .u8 (g:Int)))(h5:Cp 124 [(.int .u8 (g:Int))] (vB i))(h6:i=true)(h7:aO (b+1))(hL:au s (b+1) r):au s b r :=
 lG 117 [1,1,1,1,1,1,1,1,1,1,1,1,1,1,1] [.a,.aR [.o,.o,(.pv (.int .u8 (c:Int))),(.pv (vB d)),.o,.o,.o,(.pv (.int .u8 (g:Int))),(.pv (vB i)),(.dec false),.o,.skip,.skip,.skip,.skip,(.dec true)],.a,.h 1 (iI (b+1)),.aN [0,1]] (LZ h1 h2 h3 h3 h3 h4 h3 h5 h3 h6 h6 h6 h6 h6 (ki h7)) hL
theorem nr(s:ByteArray)(b:Int)(c:Nat)(d:Bool)(g:Nat)(i:Bool)(j:Nat){r:PV}(h1:Cp 123 [(.str s),vI b] (.int .u8 (c:Int)))(h2:Cp 122 [(.int .u8 (c:Int))] (vB d))(h3:d=false)(h4:Cp 123 [(.str s),vI b] (.int .u8 (g:Int)))(h5:Cp 124 [(.int .u8 (g:Int))] (vB i))(h6:i=false)(h7:Cp 123 [(.str s),vI b] (.int .u8 (j:Int)))(h8:j=95)(h9:aO (b+1))(hL:au s (b+1) r):au s b r :=
 lG 117 [1,1,1,1,1,1,1,1,1,1,1,1,1,1,1,1,1] [.a,.aR [.o,.o,(.pv (.int .u8 (c:Int))),(.pv (vB d)),.o,.o,.o,(.pv (.int .u8 (g:Int))),(.pv (vB i)),(.dec false),.o,.o,.o,(.pv (.int .u8 (j:Int))),.o,(.dec false)],.t,.h 1 (iI (b+1)),.aN [0,1]] (PI h1 h2 h3 h3 h3 h4 h3 h5 h3 h6 h6 h6 h7 h6 h6 (br h8) (ki h9)) hL
theorem Bf(s:ByteArray)(b:Int)(c:Nat)(d:Bool)(g:Nat)(i:Bool)(j:Nat)(h1:Cp 123 [(.str s),vI b] (.int .u8 (c:Int)))(h2:Cp 122 [(.int .u8 (c:Int))] (vB d))(h3:d=false)(h4:Cp 123 [(.str s),vI b] (.int .u8 (g:Int)))(h5:Cp 124 [(.int .u8 (g:Int))] (vB i))(h6:i=false)(h7:Cp 123 [(.str s),vI b] (.int .u8 (j:Int)))(h8:j≠95):au s b (vI b) :=
 lD 123 [1,1,1,1,1,1,1,1,1,1,1,1,1,1,1,1] [.a,.aR [.o,.o,(.pv (.int .u8 (c:Int))),(.pv (vB d)),.o,.o,.o,(.pv (.int .u8 (g:Int))),(.pv (vB i)),(.dec false),.o,.o,.o,(.pv (.int .u8 (j:Int))),.o,(.dec false)],.f,.q] (Nl h1 h2 h3 h3 h3 h4 h3 h5 h3 h6 h6 h6 h7 h6 h6 (aT h8))
end b7
namespace ij
theorem e0(s:ByteArray)(a:Int)(h1:0<s.size)(h2:s.size≤24)(h3:Cp 84 [(.str s),vI 0] (vI a)):Cp 39 [(.str s)] (vB (a==(s.size:Int))) :=
 eD func39 72 [1,1,1,1,1,1,1,1,1,1,1,1,1,1] [.q,.aR [.o,(iI (s.size:Int)),.o,.o,.o,(iI (s.size:Int)),.o,(.dec true),.o,.o,(.pv (vI a)),.o,(iI (s.size:Int)),.o,(.dec true)]] (G9 (Eq.refl ((s.size:Nat):Int)) (ax h1) (ax h1) (Eq.refl ((s.size:Nat):Int)) (ax h1) (ax h1) (bB h2) (bB h2) h3 (bB h2) (bB h2) (Eq.refl ((s.size:Nat):Int)) (bB h2) (bB h2))
theorem e1(s:ByteArray)(h1:0<s.size)(h2:24<s.size):Cp 39 [(.str s)] (vB false) :=
 eD func39 72 [1,1,1,1,1,1,1,1,1,1,1,1] [.q,.aR [.o,(iI (s.size:Int)),.o,.o,.o,(iI (s.size:Int)),.o,(.dec true),.o,.skip,.skip,.skip,.skip,.skip,(.dec false)]] (Ki (Eq.refl ((s.size:Nat):Int)) (ax h1) (ax h1) (Eq.refl ((s.size:Nat):Int)) (ax h1) (ax h1) (aZ h2) (aZ h2) (aZ h2) (aZ h2) (aZ h2) (aZ h2))
theorem e2(s:ByteArray)(h1:s.size≤0):Cp 39 [(.str s)] (vB false) :=
 eD func39 72 [1,1,1,1,1,1,1,1,1,1] [.q,.aR [.o,(iI (s.size:Int)),.o,.o,.skip,.skip,.skip,(.dec false),.o,.skip,.skip,.skip,.skip,.skip]] (CM (Eq.refl ((s.size:Nat):Int)) (ay h1) (ay h1) (ay h1) (ay h1) (Eq.refl false) (Eq.refl false) (Eq.refl false) (Eq.refl false) (Eq.refl false))
end ij
namespace jY
theorem e0(i n:Int)(h1:0≤i):Cp 86 [vI i,vI n] (vB (decide (i<n))) :=
 eD func86 72 [1,1,1,1] [.q,.h 6 (.dec true)] (y4 (dz h1) (dz h1) (dz h1) (dz h1))
theorem e1(i n:Int)(h1:i<0):Cp 86 [vI i,vI n] (vB false) :=
 eD func86 72 [1,1,1,1] [.q,.aR [.o,.o,.o,.skip,.skip,.skip,(.dec false)]] (y4 (eL h1) (eL h1) (eL h1) (eL h1))
end jY
namespace bI
@[reducible] def fn:Func:=Tryz.f85
def bM:List eh:=focus [0,2,0,0,2,1,2,0,0,2,0,0] [.code (az fn)]
def inv1(wy:Nat)(b:ah):St:=⟨[(1,(.ptr 1 0)),(3,(eI (wy:Int)))],[(1,(.lit [(.pv (.str b.name)),(.pv (bG ai.cells b.points))]))]⟩
@[reducible] def au(wy:Nat)(b:ah)(r:PV):Prop:=L bp fn bM (inv1 wy b) r
def fw:List eh:=focus [0,2,0,0,2,1,2,0,0,2,0,0,0,0,0,2,0,2,0,0,0,2,0,0,2,1,2,0,0,2,0,0] [.code (az fn)]
def inv2(wy Sw:Nat)(b:ah)(v:ai):St:=⟨[(1,(.ptr 1 0)),(3,(eI (wy:Int))),(4,(.ptr 4 0)),(5,(eI (Sw:Int)))],[(1,(.lit [(.pv (.str b.name)),(.pv (bG ai.cells b.points))])),(4,(.lit [(.pv (.str v.name)),(eB v.x.neg),(.pv (aa v.x.num)),(.pv (aa v.x.den)),(eB v.y.neg),(.pv (aa v.y.num)),(.pv (aa v.y.den))]))]⟩
@[reducible] def aM(wy Sw:Nat)(b:ah)(v:ai)(r:PV):Prop:=L bp fn fw (inv2 wy Sw b v) r
theorem e0(b:ah)(h1:8<b.points.length):Cp 85 [b.pv] (vI 4) :=
 eD func85 84 [1,1] [.q,.h 2 (iI (b.points.length:Int)),.t,.q] (y2 (ar ai.cells b.points) (ax h1))
theorem e1(b:ah){r:PV}(h1:b.points.length≤8)(hL:au 0 b r):Cp 85 [b.pv] r :=
 eG func85 96 [1,1] [.q,.h 2 (iI (b.points.length:Int)),.f,.q,.aN [1,3]] (y2 (ar ai.cells b.points) (ay h1)) hL
theorem eo(c:Nat)(b:ah)(v:ai)(d:Bool)(h1:c<b.points.length)(h2:b.points[c]? = some v)(h3:Cp 39 [(.str v.name)] (vB d))(h4:d=false):au c b (vI 5) :=
 lD 144 [1,1,3,1,1] [.a,.h 3 (iI (b.points.length:Int)),.t,.h 3 (.row c (ai.cells v)),.h 2 (.pv (vB d)),.t,.q] (y5 (ar ai.cells b.points) (ax h1) (aY ai.cells (Eq.refl (((c:Nat):Int):Int)) h2) h3 (aF h4))
theorem ew(c:Nat)(b:ah)(v:ai)(d:Bool){r:PV}(h1:c<b.points.length)(h2:b.points[c]? = some v)(h3:Cp 39 [(.str v.name)] (vB d))(h4:d=true)(hL:aM c 0 b v r):au c b r :=
 lG 156 [1,1,3,1,1] [.a,.h 3 (iI (b.points.length:Int)),.t,.h 3 (.row c (ai.cells v)),.h 2 (.pv (vB d)),.f,.q,.aN [1,3,4,5],.ord [1,4]] (y5 (ar ai.cells b.points) (ax h1) (aY ai.cells (Eq.refl (((c:Nat):Int):Int)) h2) h3 (ae h4)) hL
theorem nr(c:Nat)(b:ah)(h1:b.points.length≤c):au c b (vI 0) :=
 lD 129 [1,1] [.a,.h 3 (iI (b.points.length:Int)),.f,.q] (y2 (ar ai.cells b.points) (ay h1))
theorem mX(c d:Nat)(b:ah)(v v1:ai)(h1:d<c)(h2:b.points[d]? = some v1)(h3:v1.name=v.name):aM c d b v (vI 6) :=
 lD 195 [1,3,1] [.a,.q,.t,dr 9 0 [.none,.none,.none,(.row d (ai.cells v1))],.t,.q] (y3 (ax h1) (aY ai.cells (Eq.refl (((d:Nat):Int):Int)) h2) (bj h3))
theorem mY(c d:Nat)(b:ah)(v v1:ai){r:PV}(h1:d<c)(h2:b.points[d]? = some v1)(h3:v1.name≠v.name)(h4:(d+1)<9223372036854775808)(hL:aM c (d+1) b v r):aM c d b v r :=
 lG 198 [1,3,1,1] [.a,.q,.t,dr 9 0 [.none,.none,.none,(.row d (ai.cells v1))],.f,.h 1 (iI (((d+1):Nat):Int)),.aN [1,3,4,5]] (y4 (ax h1) (aY ai.cells (Eq.refl (((d:Nat):Int):Int)) h2) (cG h3) (aH h4)) hL
theorem xR(c d:Nat)(b:ah)(v:ai)(g:Bool)(h1:c≤d)(h2:Cp 15 [v.x.pv] (vB g))(h3:g=false):aM c d b v (vI 3) :=
 lD 198 [1,1,1,1,1,1,1] [.a,.q,.f,.aR [.o,.o,(.pv (vB g)),.o,.o,.skip,.skip,.skip,.skip,(.dec true)],.a,.q] (y7 (ay h1) h2 (aF h3) (aF h3) (aF h3) (aF h3) (aF h3))
theorem IS(c d:Nat)(b:ah)(v:ai)(g i:Bool)(h1:c≤d)(h2:Cp 15 [v.x.pv] (vB g))(h3:g=true)(h4:Cp 15 [v.y.pv] (vB i))(h5:i=false):aM c d b v (vI 3) :=
 lD 198 [1,1,1,1,1,1,1,1,1] [.a,.q,.f,.aR [.o,.o,(.pv (vB g)),.o,.o,.o,.o,(.pv (vB i)),.o,(.dec false)],.t,.q] (y9 (ay h1) h2 (ae h3) (ae h3) (ae h3) h4 (ae h3) (ae h3) (aF h5))
theorem OL(c d:Nat)(b:ah)(v:ai)(g i:Bool){r:PV}(h1:c≤d)(h2:Cp 15 [v.x.pv] (vB g))(h3:g=true)(h4:Cp 15 [v.y.pv] (vB i))(h5:i=true)(h6:(c+1)<9223372036854775808)(hL:au (c+1) b r):aM c d b v r :=
 lG 201 [1,1,1,1,1,1,1,1,1,1] [.a,.q,.f,.aR [.o,.o,(.pv (vB g)),.o,.o,.o,.o,(.pv (vB i)),.o,(.dec false)],.f,.h 1 (iI (((c+1):Nat):Int)),.aN [1,3],.drop [4]] (CM (ay h1) h2 (ae h3) (ae h3) (ae h3) h4 (ae h3) (ae h3) (ae h5) (aH h6)) hL
end bI
namespace bX
@[reducible] def fn:Func:=Tryz.f40
def bM:List eh:=focus [0,2,0,0,2,0,0] [.code (az fn)]
def inv1(wy:Nat)(l:aj):St:=⟨[(1,(.ptr 1 0)),(3,(eI (wy:Int)))],[(1,(.lit [(.pv (.str l.name)),(.pv (bG ah.cells l.ab)),(.pv (bG ak.cells l.aq)),(.pv (bG ag.cells l.an))]))]⟩
@[reducible] def au(wy:Nat)(l:aj)(r:PV):Prop:=L bp fn bM (inv1 wy l) r
def fw:List eh:=focus [0,2,0,0,2,0,0,0,0,0,2,0,2,0,0,0,0,2,1,2,0,0,2,0,0] [.code (az fn)]
def inv2(wy NH:Nat)(l:aj):St:=⟨[(1,(.ptr 1 0)),(3,(eI (wy:Int))),(4,(eI (NH:Int)))],[(1,(.lit [(.pv (.str l.name)),(.pv (bG ah.cells l.ab)),(.pv (bG ak.cells l.aq)),(.pv (bG ag.cells l.an))]))]⟩
@[reducible] def aM(wy NH:Nat)(l:aj)(r:PV):Prop:=L bp fn fw (inv2 wy NH l) r
theorem e0 (l : aj) {r : PV}  (hL : au 0 l r) : Cp 40 [l.pv] r :=
 eG func40 81 [] [.q,.q,.aN [1,3]] True.intro hL
theorem eo(b:Nat)(l:aj)(v:ah)(c:Bool)(h1:b<l.ab.length)(h2:l.ab[b]? = some v)(h3:Cp 39 [(.str v.name)] (vB c))(h4:c=false):au b l (vI 5) :=
 lD 123 [1,1,3,1,1] [.a,.h 3 (iI (l.ab.length:Int)),.t,.aR [.o,.o,.o,(.row b (ah.cells v)),.o,.o,(.pv (vB c))],.t,.q] (y5 (ar ah.cells l.ab) (ax h1) (aY ah.cells (Eq.refl (((b:Nat):Int):Int)) h2) h3 (aF h4))
theorem ew(b:Nat)(l:aj)(v:ah)(c:Bool){r:PV}(h1:b<l.ab.length)(h2:l.ab[b]? = some v)(h3:Cp 39 [(.str v.name)] (vB c))(h4:c=true)(hL:aM b 0 l r):au b l r :=
 lG 135 [1,1,3,1,1] [.a,.h 3 (iI (l.ab.length:Int)),.t,.aR [.o,.o,.o,(.row b (ah.cells v)),.o,.o,(.pv (vB c))],.f,.q,.aN [1,3,4]] (y5 (ar ah.cells l.ab) (ax h1) (aY ah.cells (Eq.refl (((b:Nat):Int):Int)) h2) h3 (ae h4)) hL
theorem nr(b:Nat)(l:aj)(h1:l.ab.length≤b):au b l (vI 0) :=
 lD 114 [1,1] [.a,.h 3 (iI (l.ab.length:Int)),.f,.q] (y2 (ar ah.cells l.ab) (ay h1))
theorem mX(b c:Nat)(l:aj)(v v1:ah)(h1:c<b)(h2:l.ab[c]? = some v)(h3:l.ab[b]? = some v1)(h4:v.name=v1.name):aM b c l (vI 6) :=
 lD 174 [1,3,3,1] [.a,.q,.t,dr 13 0 [.none,.none,.none,(.row c (ah.cells v)),.none,.none,.none,.none,.none,(.row b (ah.cells v1))],.t,.q] (y4 (ax h1) (aY ah.cells (Eq.refl (((c:Nat):Int):Int)) h2) (aY ah.cells (Eq.refl (((b:Nat):Int):Int)) h3) (bj h4))
theorem mY(b c:Nat)(l:aj)(v v1:ah){r:PV}(h1:c<b)(h2:l.ab[c]? = some v)(h3:l.ab[b]? = some v1)(h4:v.name≠v1.name)(h5:(c+1)<9223372036854775808)(hL:aM b (c+1) l r):aM b c l r :=
 lG 177 [1,3,3,1,1] [.a,.q,.t,dr 13 0 [.none,.none,.none,(.row c (ah.cells v)),.none,.none,.none,.none,.none,(.row b (ah.cells v1))],.f,.h 1 (iI (((c+1):Nat):Int)),.aN [1,3,4]] (y5 (ax h1) (aY ah.cells (Eq.refl (((c:Nat):Int):Int)) h2) (aY ah.cells (Eq.refl (((b:Nat):Int):Int)) h3) (cG h4) (aH h5)) hL
theorem xR(b c:Nat)(l:aj)(v:ah)(d:Int)(h1:b≤c)(h2:l.ab[b]? = some v)(h3:Cp 85 [v.pv] (vI d))(h4:d≠0):aM b c l (vI d) :=
 lD 183 [1,3,1,1] [.a,.q,.f,.aR [.o,.o,.o,(.row b (ah.cells v)),.o,(.pv (vI d))],.q,.t,.q] (y4 (ay h1) (aY ah.cells (Eq.refl (((b:Nat):Int):Int)) h2) h3 (bq h4))
theorem IS(b c:Nat)(l:aj)(v:ah)(d:Int){r:PV}(h1:b≤c)(h2:l.ab[b]? = some v)(h3:Cp 85 [v.pv] (vI d))(h4:d=0)(h5:(b+1)<9223372036854775808)(hL:au (b+1) l r):aM b c l r :=
 lG 186 [1,3,1,1,1] [.a,.q,.f,.aR [.o,.o,.o,(.row b (ah.cells v)),.o,(.pv (vI d))],.q,.f,.h 1 (iI (((b+1):Nat):Int)),.aN [1,3]] (y5 (ay h1) (aY ah.cells (Eq.refl (((b:Nat):Int):Int)) h2) h3 (aA h4) (aH h5)) hL
end bX
namespace kr
theorem e0(p q:ai)(a b:Int)(h1:Cp 125 [p.x.pv,q.x.pv] (vI a))(h2:a=0)(h3:Cp 125 [p.y.pv,q.y.pv] (vI b)):Cp 87 [p.pv,q.pv] (vB (b==0)) :=
 eD func87 72 [1,1,1,1,1,1,1,1,1] [.q,.aR [.o,.o,.o,.o,(.pv (vI a)),.o,.o,.o,.o,.o,.o,(.pv (vI b)),.o,(.dec true)]] (y9 h1 (aP h2) (aP h2) (aP h2) (aP h2) (aP h2) h3 (aP h2) (aP h2))
theorem e1(p q:ai)(a:Int)(h1:Cp 125 [p.x.pv,q.x.pv] (vI a))(h2:a≠0):Cp 87 [p.pv,q.pv] (vB false) :=
 eD func87 72 [1,1,1,1,1,1,1,1] [.q,.aR [.o,.o,.o,.o,(.pv (vI a)),.o,.o,.skip,.skip,.skip,.skip,.skip,.skip,(.dec false)]] (y8 h1 (bP h2) (bP h2) (bP h2) (bP h2) (bP h2) (bP h2) (bP h2))
end kr
namespace aX
@[reducible] def fn:Func:=Tryz.f41
def bM:List eh:=focus [0,2,0,2,0,0,2,1,2,0,0,2,0,0] [.code (az fn)]
def inv1(i:Int)(NI:Nat)(l:aj)(v:ak):St:=⟨[(1,(eI i)),(2,(.ptr 2 0)),(5,(.ptr 5 0)),(6,(eI (NI:Int)))],[(2,(.lit [(.pv (.str l.name)),(.pv (bG ah.cells l.ab)),(.pv (bG ak.cells l.aq)),(.pv (bG ag.cells l.an))])),(5,(.lit [(.pv (.str v.name)),(eI v.kind),(eI v.a),(eI v.dx),(eI v.b),(eI v.ou),(eI v.mR)]))]⟩
@[reducible] def au(i:Int)(NI:Nat)(l:aj)(v:ak)(r:PV):Prop:=L bp fn bM (inv1 i NI l v) r
theorem e0(l:aj)(i:Int)(k:Nat)(v:ak)(a:Bool)(h1:i=(k:Int))(h2:l.aq[k]? = some v)(h3:Cp 39 [(.str v.name)] (vB a))(h4:a=false):Cp 41 [l.pv,vI i] (vI 5) :=
 eD func41 90 [3,1,1] [.q,.h 3 (.row k (ak.cells v)),.h 2 (.pv (vB a)),.t,.q] (y3 (aY ak.cells h1 h2) h3 (aF h4))
theorem e1(l:aj)(i:Int)(k:Nat)(v:ak)(a:Bool){r:PV}(h1:i=(k:Int))(h2:l.aq[k]? = some v)(h3:Cp 39 [(.str v.name)] (vB a))(h4:a=true)(hL:au i 0 l v r):Cp 41 [l.pv,vI i] r :=
 eG func41 102 [3,1,1] [.q,.h 3 (.row k (ak.cells v)),.h 2 (.pv (vB a)),.f,.q,.aN [1,2,5,6],.ord [2,5]] (y3 (aY ak.cells h1 h2) h3 (ae h4)) hL
theorem eo(i:Int)(b:Nat)(l:aj)(v v1:ak)(h1:(b:Int)<i)(h2:l.aq[b]? = some v1)(h3:v1.name=v.name):au i b l v (vI 6) :=
 lD 141 [1,3,1] [.a,.q,.t,dr 9 0 [.none,.none,.none,(.row b (ak.cells v1))],.t,.q] (y3 (bd h1) (aY ak.cells (Eq.refl (((b:Nat):Int):Int)) h2) (bj h3))
theorem ew(i:Int)(b:Nat)(l:aj)(v v1:ak){r:PV}(h1:(b:Int)<i)(h2:l.aq[b]? = some v1)(h3:v1.name≠v.name)(h4:(b+1)<9223372036854775808)(hL:au i (b+1) l v r):au i b l v r :=
 lG 144 [1,3,1,1] [.a,.q,.t,dr 9 0 [.none,.none,.none,(.row b (ak.cells v1))],.f,.h 1 (iI (((b+1):Nat):Int)),.aN [1,2,5,6]] (y4 (bd h1) (aY ak.cells (Eq.refl (((b:Nat):Int):Int)) h2) (cG h3) (aH h4)) hL
theorem nr(i:Int)(b:Nat)(l:aj)(v:ak)(h1:i≤(b:Int))(h2:v.kind≠0)(h3:v.kind≠1):au i b l v (vI 7) :=
 lD 147 [1,1,1,1,1,1] [.a,.q,.f,.h 7 (.dec true),.t,.q] (y6 (ba h1) (bq h2) (bq h2) (bq h2) (bq h2) (bq h3))
theorem Bf(i:Int)(b:Nat)(l:aj)(v:ak)(c:Bool)(h1:i≤(b:Int))(h2:v.kind≠0)(h3:v.kind=1)(h4:Cp 86 [vI v.a,(vI (l.ab.length:Int))] (vB c))(h5:c=false):au i b l v (vI 9) :=
 lD 162 [1,1,1,1,1,1,1,1,1,1,1,1,1,1,1,1] [.a,.q,.f,.h 7 (.dec true),.f,.aR [.o,.o,.o,.o,(iI (l.ab.length:Int)),(.pv (vB c)),.o,.o,.skip,.skip,.skip,.skip,.skip,.skip,.skip,(.dec true)],.a,.q] (Nl (ba h1) (bq h2) (bq h2) (bq h2) (bq h2) (aA h3) (ar ah.cells l.ab) h4 (aF h5) (aF h5) (aF h5) (aF h5) (aF h5) (aF h5) (aF h5) (aF h5))
theorem PS(i:Int)(c:Nat)(l:aj)(v:ak)(d g:Bool)(h1:i≤(c:Int))(h2:v.kind≠0)(h3:v.kind=1)(h4:Cp 86 [vI v.a,(vI (l.ab.length:Int))] (vB d))(h5:d=true)(h6:Cp 86 [vI v.b,(vI (l.ab.length:Int))] (vB g))(h7:g=false):au i c l v (vI 9) :=
 lD 162 [1,1,1,1,1,1,1,1,1,1,1,1,1,1,1,1,1,1,1] [.a,.q,.f,.h 7 (.dec true),.f,.aR [.o,.o,.o,.o,(iI (l.ab.length:Int)),(.pv (vB d)),.o,.o,.o,.o,.o,.o,(iI (l.ab.length:Int)),(.pv (vB g)),.o,(.dec false)],.t,.q] (OK (ba h1) (bq h2) (bq h2) (bq h2) (bq h2) (aA h3) (ar ah.cells l.ab) h4 (ae h5) (ae h5) (ae h5) (ae h5) (ae h5) (ar ah.cells l.ab) (ae h5) h6 (ae h5) (ae h5) (aF h7))
theorem V1(i:Int)(c:Nat)(l:aj)(v:ak)(d g:Bool)(h1:i≤(c:Int))(h2:v.kind≠0)(h3:v.kind=1)(h4:Cp 86 [vI v.a,(vI (l.ab.length:Int))] (vB d))(h5:d=true)(h6:Cp 86 [vI v.b,(vI (l.ab.length:Int))] (vB g))(h7:g=true)(h8:v.a=v.b):au i c l v (vI 13) :=
 lD 177 [1,1,1,1,1,1,1,1,1,1,1,1,1,1,1,1,1,1,1,1] [.a,.q,.f,.h 7 (.dec true),.f,.aR [.o,.o,.o,.o,(iI (l.ab.length:Int)),(.pv (vB d)),.o,.o,.o,.o,.o,.o,(iI (l.ab.length:Int)),(.pv (vB g)),.o,(.dec false)],.f,.q,.t,.q] (Sd (ba h1) (bq h2) (bq h2) (bq h2) (bq h2) (aA h3) (ar ah.cells l.ab) h4 (ae h5) (ae h5) (ae h5) (ae h5) (ae h5) (ar ah.cells l.ab) (ae h5) h6 (ae h5) (ae h5) (ae h7) (aP h8))
theorem V2(i:Int)(c:Nat)(l:aj)(v:ak)(d g:Bool)(k:Nat)(v1:ah)(k1:Nat)(v2:ah)(j:Bool)(h1:i≤(c:Int))(h2:v.kind≠0)(h3:v.kind=1)(h4:Cp 86 [vI v.a,(vI (l.ab.length:Int))] (vB d))(h5:d=true)(h6:Cp 86 [vI v.b,(vI (l.ab.length:Int))] (vB g))(h7:g=true)(h8:v.a≠v.b)(h9:v.a=(k:Int))(bg:l.ab[k]? = some v1)(cR:v.b=(k1:Int))(cw:l.ab[k1]? = some v2)(cu:Cp 86 [vI v.dx,(vI (v1.points.length:Int))] (vB j))(dZ:j=false):au i c l v (vI 9) :=
 lD 198 [1,1,1,1,1,1,1,1,1,1,1,1,1,1,1,1,1,1,1,1,3,3,1,1,1,1,1,1,1,1,1] [.a,.q,.f,.h 7 (.dec true),.f,.aR [.o,.o,.o,.o,(iI (l.ab.length:Int)),(.pv (vB d)),.o,.o,.o,.o,.o,.o,(iI (l.ab.length:Int)),(.pv (vB g)),.o,(.dec false)],.f,.q,.f,dr 15 1 [.none,.none,.none,.none,(.row k (ah.cells v1)),.none,.none,.none,.none,.none,.none,(.row k1 (ah.cells v2))],.aR [.o,.o,.o,(iI (v1.points.length:Int)),(.pv (vB j)),.o,.o,.skip,.skip,.skip,.skip,.skip,.skip,(.dec true)],.a,.q] (QP (ba h1) (bq h2) (bq h2) (bq h2) (bq h2) (aA h3) (ar ah.cells l.ab) h4 (ae h5) (ae h5) (ae h5) (ae h5) (ae h5) (ar ah.cells l.ab) (ae h5) h6 (ae h5) (ae h5) (ae h7) (bP h8) (aY ah.cells h9 bg) (aY ah.cells cR cw) (ar ai.cells v1.points) cu (aF dZ) (aF dZ) (aF dZ) (aF dZ) (aF dZ) (aF dZ) (aF dZ))
theorem V3(i:Int)(c:Nat)(l:aj)(v:ak)(d g:Bool)(k:Nat)(v1:ah)(k1:Nat)(v2:ah)(j m:Bool)(h1:i≤(c:Int))(h2:v.kind≠0)(h3:v.kind=1)(h4:Cp 86 [vI v.a,(vI (l.ab.length:Int))] (vB d))(h5:d=true)(h6:Cp 86 [vI v.b,(vI (l.ab.length:Int))] (vB g))(h7:g=true)(h8:v.a≠v.b)(h9:v.a=(k:Int))(bg:l.ab[k]? = some v1)(cR:v.b=(k1:Int))(cw:l.ab[k1]? = some v2)(cu:Cp 86 [vI v.dx,(vI (v1.points.length:Int))] (vB j))(dZ:j=true)(ej:Cp 86 [vI v.ou,(vI (v2.points.length:Int))] (vB m))(fP:m=false):au i c l v (vI 9) :=
 lD 198 [1,1,1,1,1,1,1,1,1,1,1,1,1,1,1,1,1,1,1,1,3,3,1,1,1,1,1,1,1,1,1,1,1,1] [.a,.q,.f,.h 7 (.dec true),.f,.aR [.o,.o,.o,.o,(iI (l.ab.length:Int)),(.pv (vB d)),.o,.o,.o,.o,.o,.o,(iI (l.ab.length:Int)),(.pv (vB g)),.o,(.dec false)],.f,.q,.f,dr 15 1 [.none,.none,.none,.none,(.row k (ah.cells v1)),.none,.none,.none,.none,.none,.none,(.row k1 (ah.cells v2))],.aR [.o,.o,.o,(iI (v1.points.length:Int)),(.pv (vB j)),.o,.o,.o,.o,.o,(iI (v2.points.length:Int)),(.pv (vB m)),.o,(.dec false)],.t,.q] (Sg (ba h1) (bq h2) (bq h2) (bq h2) (bq h2) (aA h3) (ar ah.cells l.ab) h4 (ae h5) (ae h5) (ae h5) (ae h5) (ae h5) (ar ah.cells l.ab) (ae h5) h6 (ae h5) (ae h5) (ae h7) (bP h8) (aY ah.cells h9 bg) (aY ah.cells cR cw) (ar ai.cells v1.points) cu (ae dZ) (ae dZ) (ae dZ) (ae dZ) (ar ai.cells v2.points) (ae dZ) ej (ae dZ) (ae dZ) (aF fP))
theorem Sx(i:Int)(c:Nat)(l:aj)(v:ak)(d g:Bool)(k:Nat)(v1:ah)(k1:Nat)(v2:ah)(j m n:Bool)(h1:i≤(c:Int))(h2:v.kind≠0)(h3:v.kind=1)(h4:Cp 86 [vI v.a,(vI (l.ab.length:Int))] (vB d))(h5:d=true)(h6:Cp 86 [vI v.b,(vI (l.ab.length:Int))] (vB g))(h7:g=true)(h8:v.a≠v.b)(h9:v.a=(k:Int))(bg:l.ab[k]? = some v1)(cR:v.b=(k1:Int))(cw:l.ab[k1]? = some v2)(cu:Cp 86 [vI v.dx,(vI (v1.points.length:Int))] (vB j))(dZ:j=true)(ej:Cp 86 [vI v.ou,(vI (v2.points.length:Int))] (vB m))(fP:m=true)(jB:Cp 86 [vI v.mR,(vI (v2.points.length:Int))] (vB n))(gw:n=false):au i c l v (vI 9) :=
 lD 228 [1,1,1,1,1,1,1,1,1,1,1,1,1,1,1,1,1,1,1,1,3,3,1,1,1,1,1,1,1,1,1,1,1,1,1,1,1,1] [.a,.q,.f,.h 7 (.dec true),.f,.aR [.o,.o,.o,.o,(iI (l.ab.length:Int)),(.pv (vB d)),.o,.o,.o,.o,.o,.o,(iI (l.ab.length:Int)),(.pv (vB g)),.o,(.dec false)],.f,.q,.f,dr 15 1 [.none,.none,.none,.none,(.row k (ah.cells v1)),.none,.none,.none,.none,.none,.none,(.row k1 (ah.cells v2))],.aR [.o,.o,.o,(iI (v1.points.length:Int)),(.pv (vB j)),.o,.o,.o,.o,.o,(iI (v2.points.length:Int)),(.pv (vB m)),.o,(.dec false)],.f,.q,.f,.aR [.o,.o,.o,(iI (v2.points.length:Int)),(.pv (vB n))],.t,.q] (Ud (ba h1) (bq h2) (bq h2) (bq h2) (bq h2) (aA h3) (ar ah.cells l.ab) h4 (ae h5) (ae h5) (ae h5) (ae h5) (ae h5) (ar ah.cells l.ab) (ae h5) h6 (ae h5) (ae h5) (ae h7) (bP h8) (aY ah.cells h9 bg) (aY ah.cells cR cw) (ar ai.cells v1.points) cu (ae dZ) (ae dZ) (ae dZ) (ae dZ) (ar ai.cells v2.points) (ae dZ) ej (ae dZ) (ae dZ) (ae fP) (bP h2) (ar ai.cells v2.points) jB (aF gw))
theorem Sy(i:Int)(c:Nat)(l:aj)(v:ak)(d g:Bool)(k:Nat)(v1:ah)(k1:Nat)(v2:ah)(j m n:Bool)(k2:Nat)(v3:ai)(k3:Nat)(v4:ai)(p:Bool)(h1:i≤(c:Int))(h2:v.kind≠0)(h3:v.kind=1)(h4:Cp 86 [vI v.a,(vI (l.ab.length:Int))] (vB d))(h5:d=true)(h6:Cp 86 [vI v.b,(vI (l.ab.length:Int))] (vB g))(h7:g=true)(h8:v.a≠v.b)(h9:v.a=(k:Int))(bg:l.ab[k]? = some v1)(cR:v.b=(k1:Int))(cw:l.ab[k1]? = some v2)(cu:Cp 86 [vI v.dx,(vI (v1.points.length:Int))] (vB j))(dZ:j=true)(ej:Cp 86 [vI v.ou,(vI (v2.points.length:Int))] (vB m))(fP:m=true)(jB:Cp 86 [vI v.mR,(vI (v2.points.length:Int))] (vB n))(gw:n=true)(gH:v.ou=(k2:Int))(gz:v2.points[k2]? = some v3)(gu:v.mR=(k3:Int))(me:v2.points[k3]? = some v4)(je:Cp 87 [v3.pv,v4.pv] (vB p))(pY:p=true):au i c l v (vI 8) :=
 lD 243 [1,1,1,1,1,1,1,1,1,1,1,1,1,1,1,1,1,1,1,1,3,3,1,1,1,1,1,1,1,1,1,1,1,1,1,1,1,1,3,3,1,1] [.a,.q,.f,.h 7 (.dec true),.f,.aR [.o,.o,.o,.o,(iI (l.ab.length:Int)),(.pv (vB d)),.o,.o,.o,.o,.o,.o,(iI (l.ab.length:Int)),(.pv (vB g)),.o,(.dec false)],.f,.q,.f,dr 15 1 [.none,.none,.none,.none,(.row k (ah.cells v1)),.none,.none,.none,.none,.none,.none,(.row k1 (ah.cells v2))],.aR [.o,.o,.o,(iI (v1.points.length:Int)),(.pv (vB j)),.o,.o,.o,.o,.o,(iI (v2.points.length:Int)),(.pv (vB m)),.o,(.dec false)],.f,.q,.f,.aR [.o,.o,.o,(iI (v2.points.length:Int)),(.pv (vB n))],.f,dr 11 0 [.none,.none,.none,(.row k2 (ai.cells v3)),.none,.none,.none,.none,(.row k3 (ai.cells v4)),.none,(.pv (vB p))],.t,.q] (cj (ba h1) (cj (bq h2) (zI (bq h2) (bq h2) (bq h2) (aA h3) (ar ah.cells l.ab) h4 (ae h5) (ae h5) (ae h5) (ae h5) (ae h5) (ar ah.cells l.ab) (ae h5) h6 (ae h5) (ae h5) (ae h7) (bP h8) (aY ah.cells h9 bg) (aY ah.cells cR cw) (ar ai.cells v1.points) cu (ae dZ) (ae dZ) (ae dZ) (ae dZ) (ar ai.cells v2.points) (ae dZ) ej (ae dZ) (ae dZ) (ae fP) (bP h2) (ar ai.cells v2.points) jB (ae gw) (aY ai.cells gH gz) (aY ai.cells gu me) je pY)))
theorem SA(i:Int)(c:Nat)(l:aj)(v:ak)(d g:Bool)(k:Nat)(v1:ah)(k1:Nat)(v2:ah)(j m n:Bool)(k2:Nat)(v3:ai)(k3:Nat)(v4:ai)(p:Bool)(h1:i≤(c:Int))(h2:v.kind≠0)(h3:v.kind=1)(h4:Cp 86 [vI v.a,(vI (l.ab.length:Int))] (vB d))(h5:d=true)(h6:Cp 86 [vI v.b,(vI (l.ab.length:Int))] (vB g))(h7:g=true)(h8:v.a≠v.b)(h9:v.a=(k:Int))(bg:l.ab[k]? = some v1)(cR:v.b=(k1:Int))(cw:l.ab[k1]? = some v2)(cu:Cp 86 [vI v.dx,(vI (v1.points.length:Int))] (vB j))(dZ:j=true)(ej:Cp 86 [vI v.ou,(vI (v2.points.length:Int))] (vB m))(fP:m=true)(jB:Cp 86 [vI v.mR,(vI (v2.points.length:Int))] (vB n))(gw:n=true)(gH:v.ou=(k2:Int))(gz:v2.points[k2]? = some v3)(gu:v.mR=(k3:Int))(me:v2.points[k3]? = some v4)(je:Cp 87 [v3.pv,v4.pv] (vB p))(pY:p=false):au i c l v (vI 0) :=
 lD 246 [1,1,1,1,1,1,1,1,1,1,1,1,1,1,1,1,1,1,1,1,3,3,1,1,1,1,1,1,1,1,1,1,1,1,1,1,1,1,3,3,1,1] [.a,.q,.f,.h 7 (.dec true),.f,.aR [.o,.o,.o,.o,(iI (l.ab.length:Int)),(.pv (vB d)),.o,.o,.o,.o,.o,.o,(iI (l.ab.length:Int)),(.pv (vB g)),.o,(.dec false)],.f,.q,.f,dr 15 1 [.none,.none,.none,.none,(.row k (ah.cells v1)),.none,.none,.none,.none,.none,.none,(.row k1 (ah.cells v2))],.aR [.o,.o,.o,(iI (v1.points.length:Int)),(.pv (vB j)),.o,.o,.o,.o,.o,(iI (v2.points.length:Int)),(.pv (vB m)),.o,(.dec false)],.f,.q,.f,.aR [.o,.o,.o,(iI (v2.points.length:Int)),(.pv (vB n))],.f,dr 11 0 [.none,.none,.none,(.row k2 (ai.cells v3)),.none,.none,.none,.none,(.row k3 (ai.cells v4)),.none,(.pv (vB p))],.f,.q] (cj (ba h1) (cj (bq h2) (zI (bq h2) (bq h2) (bq h2) (aA h3) (ar ah.cells l.ab) h4 (ae h5) (ae h5) (ae h5) (ae h5) (ae h5) (ar ah.cells l.ab) (ae h5) h6 (ae h5) (ae h5) (ae h7) (bP h8) (aY ah.cells h9 bg) (aY ah.cells cR cw) (ar ai.cells v1.points) cu (ae dZ) (ae dZ) (ae dZ) (ae dZ) (ar ai.cells v2.points) (ae dZ) ej (ae dZ) (ae dZ) (ae fP) (bP h2) (ar ai.cells v2.points) jB (ae gw) (aY ai.cells gH gz) (aY ai.cells gu me) je pY)))
theorem SB(i:Int)(b:Nat)(l:aj)(v:ak)(c:Bool)(h1:i≤(b:Int))(h2:v.kind=0)(h3:Cp 86 [vI v.a,(vI (l.ab.length:Int))] (vB c))(h4:c=false):au i b l v (vI 9) :=
 lD 162 [1,1,1,1,1,1,1,1,1,1,1,1,1,1,1] [.a,.q,.f,.aR [.o,.o,.o,.o,.skip,.skip,.skip,(.dec false)],.a,.aR [.o,.o,.o,.o,(iI (l.ab.length:Int)),(.pv (vB c)),.o,.o,.skip,.skip,.skip,.skip,.skip,.skip,.skip,(.dec true)],.a,.q] (LZ (ba h1) (aA h2) (aA h2) (aA h2) (aA h2) (ar ah.cells l.ab) h3 (aF h4) (aF h4) (aF h4) (aF h4) (aF h4) (aF h4) (aF h4) (aF h4))
theorem SD(i:Int)(c:Nat)(l:aj)(v:ak)(d g:Bool)(h1:i≤(c:Int))(h2:v.kind=0)(h3:Cp 86 [vI v.a,(vI (l.ab.length:Int))] (vB d))(h4:d=true)(h5:Cp 86 [vI v.b,(vI (l.ab.length:Int))] (vB g))(h6:g=false):au i c l v (vI 9) :=
 lD 162 [1,1,1,1,1,1,1,1,1,1,1,1,1,1,1,1,1,1] [.a,.q,.f,.aR [.o,.o,.o,.o,.skip,.skip,.skip,(.dec false)],.a,.aR [.o,.o,.o,.o,(iI (l.ab.length:Int)),(.pv (vB d)),.o,.o,.o,.o,.o,.o,(iI (l.ab.length:Int)),(.pv (vB g)),.o,(.dec false)],.t,.q] (PJ (ba h1) (aA h2) (aA h2) (aA h2) (aA h2) (ar ah.cells l.ab) h3 (ae h4) (ae h4) (ae h4) (ae h4) (ae h4) (ar ah.cells l.ab) (ae h4) h5 (ae h4) (ae h4) (aF h6))
theorem SE(i:Int)(c:Nat)(l:aj)(v:ak)(d g:Bool)(h1:i≤(c:Int))(h2:v.kind=0)(h3:Cp 86 [vI v.a,(vI (l.ab.length:Int))] (vB d))(h4:d=true)(h5:Cp 86 [vI v.b,(vI (l.ab.length:Int))] (vB g))(h6:g=true)(h7:v.a=v.b):au i c l v (vI 13) :=
 lD 177 [1,1,1,1,1,1,1,1,1,1,1,1,1,1,1,1,1,1,1] [.a,.q,.f,.aR [.o,.o,.o,.o,.skip,.skip,.skip,(.dec false)],.a,.aR [.o,.o,.o,.o,(iI (l.ab.length:Int)),(.pv (vB d)),.o,.o,.o,.o,.o,.o,(iI (l.ab.length:Int)),(.pv (vB g)),.o,(.dec false)],.f,.q,.t,.q] (OK (ba h1) (aA h2) (aA h2) (aA h2) (aA h2) (ar ah.cells l.ab) h3 (ae h4) (ae h4) (ae h4) (ae h4) (ae h4) (ar ah.cells l.ab) (ae h4) h5 (ae h4) (ae h4) (ae h6) (aP h7))
theorem SF(i:Int)(c:Nat)(l:aj)(v:ak)(d g:Bool)(k:Nat)(v1:ah)(k1:Nat)(v2:ah)(j:Bool)(h1:i≤(c:Int))(h2:v.kind=0)(h3:Cp 86 [vI v.a,(vI (l.ab.length:Int))] (vB d))(h4:d=true)(h5:Cp 86 [vI v.b,(vI (l.ab.length:Int))] (vB g))(h6:g=true)(h7:v.a≠v.b)(h8:v.a=(k:Int))(h9:l.ab[k]? = some v1)(bg:v.b=(k1:Int))(cR:l.ab[k1]? = some v2)(cw:Cp 86 [vI v.dx,(vI (v1.points.length:Int))] (vB j))(cu:j=false):au i c l v (vI 9) :=
 lD 198 [1,1,1,1,1,1,1,1,1,1,1,1,1,1,1,1,1,1,1,3,3,1,1,1,1,1,1,1,1,1] [.a,.q,.f,.aR [.o,.o,.o,.o,.skip,.skip,.skip,(.dec false)],.a,.aR [.o,.o,.o,.o,(iI (l.ab.length:Int)),(.pv (vB d)),.o,.o,.o,.o,.o,.o,(iI (l.ab.length:Int)),(.pv (vB g)),.o,(.dec false)],.f,.q,.f,dr 15 1 [.none,.none,.none,.none,(.row k (ah.cells v1)),.none,.none,.none,.none,.none,.none,(.row k1 (ah.cells v2))],.aR [.o,.o,.o,(iI (v1.points.length:Int)),(.pv (vB j)),.o,.o,.skip,.skip,.skip,.skip,.skip,.skip,(.dec true)],.a,.q] (Ua (ba h1) (aA h2) (aA h2) (aA h2) (aA h2) (ar ah.cells l.ab) h3 (ae h4) (ae h4) (ae h4) (ae h4) (ae h4) (ar ah.cells l.ab) (ae h4) h5 (ae h4) (ae h4) (ae h6) (bP h7) (aY ah.cells h8 h9) (aY ah.cells bg cR) (ar ai.cells v1.points) cw (aF cu) (aF cu) (aF cu) (aF cu) (aF cu) (aF cu) (aF cu))
theorem SG(i:Int)(c:Nat)(l:aj)(v:ak)(d g:Bool)(k:Nat)(v1:ah)(k1:Nat)(v2:ah)(j m:Bool)(h1:i≤(c:Int))(h2:v.kind=0)(h3:Cp 86 [vI v.a,(vI (l.ab.length:Int))] (vB d))(h4:d=true)(h5:Cp 86 [vI v.b,(vI (l.ab.length:Int))] (vB g))(h6:g=true)(h7:v.a≠v.b)(h8:v.a=(k:Int))(h9:l.ab[k]? = some v1)(bg:v.b=(k1:Int))(cR:l.ab[k1]? = some v2)(cw:Cp 86 [vI v.dx,(vI (v1.points.length:Int))] (vB j))(cu:j=true)(dZ:Cp 86 [vI v.ou,(vI (v2.points.length:Int))] (vB m))(ej:m=false):au i c l v (vI 9) :=
 lD 198 [1,1,1,1,1,1,1,1,1,1,1,1,1,1,1,1,1,1,1,3,3,1,1,1,1,1,1,1,1,1,1,1,1] [.a,.q,.f,.aR [.o,.o,.o,.o,.skip,.skip,.skip,(.dec false)],.a,.aR [.o,.o,.o,.o,(iI (l.ab.length:Int)),(.pv (vB d)),.o,.o,.o,.o,.o,.o,(iI (l.ab.length:Int)),(.pv (vB g)),.o,(.dec false)],.f,.q,.f,dr 15 1 [.none,.none,.none,.none,(.row k (ah.cells v1)),.none,.none,.none,.none,.none,.none,(.row k1 (ah.cells v2))],.aR [.o,.o,.o,(iI (v1.points.length:Int)),(.pv (vB j)),.o,.o,.o,.o,.o,(iI (v2.points.length:Int)),(.pv (vB m)),.o,(.dec false)],.t,.q] (Ub (ba h1) (aA h2) (aA h2) (aA h2) (aA h2) (ar ah.cells l.ab) h3 (ae h4) (ae h4) (ae h4) (ae h4) (ae h4) (ar ah.cells l.ab) (ae h4) h5 (ae h4) (ae h4) (ae h6) (bP h7) (aY ah.cells h8 h9) (aY ah.cells bg cR) (ar ai.cells v1.points) cw (ae cu) (ae cu) (ae cu) (ae cu) (ar ai.cells v2.points) (ae cu) dZ (ae cu) (ae cu) (aF ej))
theorem SH(i:Int)(c:Nat)(l:aj)(v:ak)(d g:Bool)(k:Nat)(v1:ah)(k1:Nat)(v2:ah)(j m:Bool)(h1:i≤(c:Int))(h2:v.kind=0)(h3:Cp 86 [vI v.a,(vI (l.ab.length:Int))] (vB d))(h4:d=true)(h5:Cp 86 [vI v.b,(vI (l.ab.length:Int))] (vB g))(h6:g=true)(h7:v.a≠v.b)(h8:v.a=(k:Int))(h9:l.ab[k]? = some v1)(bg:v.b=(k1:Int))(cR:l.ab[k1]? = some v2)(cw:Cp 86 [vI v.dx,(vI (v1.points.length:Int))] (vB j))(cu:j=true)(dZ:Cp 86 [vI v.ou,(vI (v2.points.length:Int))] (vB m))(ej:m=true)(fP:v.mR≠0):au i c l v (vI 2) :=
 lD 225 [1,1,1,1,1,1,1,1,1,1,1,1,1,1,1,1,1,1,1,3,3,1,1,1,1,1,1,1,1,1,1,1,1,1,1] [.a,.q,.f,.aR [.o,.o,.o,.o,.skip,.skip,.skip,(.dec false)],.a,.aR [.o,.o,.o,.o,(iI (l.ab.length:Int)),(.pv (vB d)),.o,.o,.o,.o,.o,.o,(iI (l.ab.length:Int)),(.pv (vB g)),.o,(.dec false)],.f,.q,.f,dr 15 1 [.none,.none,.none,.none,(.row k (ah.cells v1)),.none,.none,.none,.none,.none,.none,(.row k1 (ah.cells v2))],.aR [.o,.o,.o,(iI (v1.points.length:Int)),(.pv (vB j)),.o,.o,.o,.o,.o,(iI (v2.points.length:Int)),(.pv (vB m)),.o,(.dec false)],.f,.q,.t,.q,.t,.q] (Sh (ba h1) (aA h2) (aA h2) (aA h2) (aA h2) (ar ah.cells l.ab) h3 (ae h4) (ae h4) (ae h4) (ae h4) (ae h4) (ar ah.cells l.ab) (ae h4) h5 (ae h4) (ae h4) (ae h6) (bP h7) (aY ah.cells h8 h9) (aY ah.cells bg cR) (ar ai.cells v1.points) cw (ae cu) (ae cu) (ae cu) (ae cu) (ar ai.cells v2.points) (ae cu) dZ (ae cu) (ae cu) (ae ej) (aP h2) (bq fP))
theorem SI(i:Int)(c:Nat)(l:aj)(v:ak)(d g:Bool)(k:Nat)(v1:ah)(k1:Nat)(v2:ah)(j m:Bool)(h1:i≤(c:Int))(h2:v.kind=0)(h3:Cp 86 [vI v.a,(vI (l.ab.length:Int))] (vB d))(h4:d=true)(h5:Cp 86 [vI v.b,(vI (l.ab.length:Int))] (vB g))(h6:g=true)(h7:v.a≠v.b)(h8:v.a=(k:Int))(h9:l.ab[k]? = some v1)(bg:v.b=(k1:Int))(cR:l.ab[k1]? = some v2)(cw:Cp 86 [vI v.dx,(vI (v1.points.length:Int))] (vB j))(cu:j=true)(dZ:Cp 86 [vI v.ou,(vI (v2.points.length:Int))] (vB m))(ej:m=true)(fP:v.mR=0):au i c l v (vI 0) :=
 lD 228 [1,1,1,1,1,1,1,1,1,1,1,1,1,1,1,1,1,1,1,3,3,1,1,1,1,1,1,1,1,1,1,1,1,1,1] [.a,.q,.f,.aR [.o,.o,.o,.o,.skip,.skip,.skip,(.dec false)],.a,.aR [.o,.o,.o,.o,(iI (l.ab.length:Int)),(.pv (vB d)),.o,.o,.o,.o,.o,.o,(iI (l.ab.length:Int)),(.pv (vB g)),.o,(.dec false)],.f,.q,.f,dr 15 1 [.none,.none,.none,.none,(.row k (ah.cells v1)),.none,.none,.none,.none,.none,.none,(.row k1 (ah.cells v2))],.aR [.o,.o,.o,(iI (v1.points.length:Int)),(.pv (vB j)),.o,.o,.o,.o,.o,(iI (v2.points.length:Int)),(.pv (vB m)),.o,(.dec false)],.f,.q,.t,.q,.f,.q] (Sh (ba h1) (aA h2) (aA h2) (aA h2) (aA h2) (ar ah.cells l.ab) h3 (ae h4) (ae h4) (ae h4) (ae h4) (ae h4) (ar ah.cells l.ab) (ae h4) h5 (ae h4) (ae h4) (ae h6) (bP h7) (aY ah.cells h8 h9) (aY ah.cells bg cR) (ar ai.cells v1.points) cw (ae cu) (ae cu) (ae cu) (ae cu) (ar ai.cells v2.points) (ae cu) dZ (ae cu) (ae cu) (ae ej) (aP h2) (aA fP))
end aX
namespace bJ
@[reducible] def fn:Func:=Tryz.f42
def bM:List eh:=focus [0,2,0,2,0,0,2,1,2,0,0,2,0,0] [.code (az fn)]
def inv1(i:Int)(NI:Nat)(l:aj)(v:ag):St:=⟨[(1,(eI i)),(2,(.ptr 2 0)),(5,(.ptr 5 0)),(6,(eI (NI:Int)))],[(2,(.lit [(.pv (.str l.name)),(.pv (bG ah.cells l.ab)),(.pv (bG ak.cells l.aq)),(.pv (bG ag.cells l.an))])),(5,(.lit [(.pv (.str v.name)),(eI v.body)]))]⟩
@[reducible] def au(i:Int)(NI:Nat)(l:aj)(v:ag)(r:PV):Prop:=L bp fn bM (inv1 i NI l v) r
def fw:List eh:=focus [0,2,0,2,0,0,2,1,2,0,0,2,0,0,0,0,0,2,1,2,2,2,2,0,0,2,1,2,0,0,2,1,2,0,0,2,0,0] [.code (az fn)]
def inv2(i:Int)(vA:Nat)(l:aj)(v:ag):St:=⟨[(1,(eI i)),(2,(.ptr 2 0)),(5,(.ptr 5 0)),(7,(eI (vA:Int)))],[(2,(.lit [(.pv (.str l.name)),(.pv (bG ah.cells l.ab)),(.pv (bG ak.cells l.aq)),(.pv (bG ag.cells l.an))])),(5,(.lit [(.pv (.str v.name)),(eI v.body)]))]⟩
@[reducible] def aM(i:Int)(vA:Nat)(l:aj)(v:ag)(r:PV):Prop:=L bp fn fw (inv2 i vA l v) r
theorem e0(l:aj)(i:Int)(k:Nat)(v:ag)(a:Bool)(h1:i=(k:Int))(h2:l.an[k]? = some v)(h3:Cp 39 [(.str v.name)] (vB a))(h4:a=false):Cp 42 [l.pv,vI i] (vI 5) :=
 eD func42 90 [3,1,1] [.q,.h 3 (.row k (ag.cells v)),.h 2 (.pv (vB a)),.t,.q] (y3 (aY ag.cells h1 h2) h3 (aF h4))
theorem e1(l:aj)(i:Int)(k:Nat)(v:ag)(a:Bool){r:PV}(h1:i=(k:Int))(h2:l.an[k]? = some v)(h3:Cp 39 [(.str v.name)] (vB a))(h4:a=true)(hL:au i 0 l v r):Cp 42 [l.pv,vI i] r :=
 eG func42 102 [3,1,1] [.q,.h 3 (.row k (ag.cells v)),.h 2 (.pv (vB a)),.f,.q,.aN [1,2,5,6],.ord [2,5]] (y3 (aY ag.cells h1 h2) h3 (ae h4)) hL
theorem eo(i:Int)(b:Nat)(l:aj)(v v1:ag)(h1:(b:Int)<i)(h2:l.an[b]? = some v1)(h3:v1.name=v.name):au i b l v (vI 6) :=
 lD 141 [1,3,1] [.a,.q,.t,dr 9 0 [.none,.none,.none,(.row b (ag.cells v1))],.t,.q] (y3 (bd h1) (aY ag.cells (Eq.refl (((b:Nat):Int):Int)) h2) (bj h3))
theorem ew(i:Int)(b:Nat)(l:aj)(v v1:ag){r:PV}(h1:(b:Int)<i)(h2:l.an[b]? = some v1)(h3:v1.name≠v.name)(h4:(b+1)<9223372036854775808)(hL:au i (b+1) l v r):au i b l v r :=
 lG 144 [1,3,1,1] [.a,.q,.t,dr 9 0 [.none,.none,.none,(.row b (ag.cells v1))],.f,.h 1 (iI (((b+1):Nat):Int)),.aN [1,2,5,6]] (y4 (bd h1) (aY ag.cells (Eq.refl (((b:Nat):Int):Int)) h2) (cG h3) (aH h4)) hL
theorem nr(i:Int)(b:Nat)(l:aj)(v:ag)(c:Bool)(h1:i≤(b:Int))(h2:Cp 86 [vI v.body,(vI (l.ab.length:Int))] (vB c))(h3:c=false):au i b l v (vI 9) :=
 lD 147 [1,1,1,1] [.a,.q,.f,.aR [.o,.o,.o,.o,(iI (l.ab.length:Int)),(.pv (vB c))],.t,.q] (y4 (ba h1) (ar ah.cells l.ab) h2 (aF h3))
theorem Bf(i:Int)(b:Nat)(l:aj)(v:ag)(c:Bool)(h1:i≤(b:Int))(h2:Cp 86 [vI v.body,(vI (l.ab.length:Int))] (vB c))(h3:c=true)(h4:v.body=0):au i b l v (vI 7) :=
 lD 162 [1,1,1,1,1] [.a,.q,.f,.aR [.o,.o,.o,.o,(iI (l.ab.length:Int)),(.pv (vB c))],.f,.q,.t,.q] (y5 (ba h1) (ar ah.cells l.ab) h2 (ae h3) (aP h4))
theorem PS(i:Int)(b:Nat)(l:aj)(v:ag)(c:Bool){r:PV}(h1:i≤(b:Int))(h2:Cp 86 [vI v.body,(vI (l.ab.length:Int))] (vB c))(h3:c=true)(h4:v.body≠0)(hL:aM i 0 l v r):au i b l v r :=
 lG 174 [1,1,1,1,1] [.a,.q,.f,.aR [.o,.o,.o,.o,(iI (l.ab.length:Int)),(.pv (vB c))],.f,.q,.f,.q,.aN [1,2,5,7]] (y5 (ba h1) (ar ah.cells l.ab) h2 (ae h3) (bP h4)) hL
theorem mX(i:Int)(b:Nat)(l:aj)(v v1:ag)(h1:(b:Int)<i)(h2:l.an[b]? = some v1)(h3:v1.body=v.body):aM i b l v (vI 6) :=
 lD 213 [1,3,1] [.a,.q,.t,dr 9 0 [.none,.none,.none,(.row b (ag.cells v1))],.t,.q] (y3 (bd h1) (aY ag.cells (Eq.refl (((b:Nat):Int):Int)) h2) (aP h3))
theorem mY(i:Int)(b:Nat)(l:aj)(v v1:ag){r:PV}(h1:(b:Int)<i)(h2:l.an[b]? = some v1)(h3:v1.body≠v.body)(h4:(b+1)<9223372036854775808)(hL:aM i (b+1) l v r):aM i b l v r :=
 lG 216 [1,3,1,1] [.a,.q,.t,dr 9 0 [.none,.none,.none,(.row b (ag.cells v1))],.f,.h 1 (iI (((b+1):Nat):Int)),.aN [1,2,5,7]] (y4 (bd h1) (aY ag.cells (Eq.refl (((b:Nat):Int):Int)) h2) (bP h3) (aH h4)) hL
theorem xR(i:Int)(b:Nat)(l:aj)(v:ag)(h1:i≤(b:Int)):aM i b l v (vI 0) :=
 lD 207 [1] [.a,.q,.f,.q] (y1 (ba h1))
end bJ
namespace bw
@[reducible] def fn:Func:=Tryz.f14
def bM:List eh:=focus [0,2,0,0,2,1,2,0,0,2,1,2,0,0,2,1,2,0,0,2,0,2,1,2,0,0,2,1,2,0,0,2,0,0] [.code (az fn)]
def inv1(NJ:Nat)(l:aj):St:=⟨[(1,(.ptr 1 0)),(4,(eI (NJ:Int)))],[(1,(.lit [(.pv (.str l.name)),(.pv (bG ah.cells l.ab)),(.pv (bG ak.cells l.aq)),(.pv (bG ag.cells l.an))]))]⟩
@[reducible] def au(NJ:Nat)(l:aj)(r:PV):Prop:=L bp fn bM (inv1 NJ l) r
def fw:List eh:=focus [0,2,0,0,2,1,2,0,0,2,1,2,0,0,2,1,2,0,0,2,0,2,1,2,0,0,2,1,2,0,0,2,0,0,0,0,0,2,1,2,2,2,2,0,0,2,1,2,0,0,2,0,0] [.code (az fn)]
def inv2(xd:Nat)(l:aj):St:=⟨[(1,(.ptr 1 0)),(6,(eI (xd:Int)))],[(1,(.lit [(.pv (.str l.name)),(.pv (bG ah.cells l.ab)),(.pv (bG ak.cells l.aq)),(.pv (bG ag.cells l.an))]))]⟩
@[reducible] def aM(xd:Nat)(l:aj)(r:PV):Prop:=L bp fn fw (inv2 xd l) r
theorem e0(l:aj)(a:Bool)(h1:Cp 39 [(.str l.name)] (vB a))(h2:a=false):Cp 14 [l.pv] (vI 5) :=
 eD func14 84 [1,1] [.q,.h 2 (.pv (vB a)),.t,.q] (y2 h1 (aF h2))
theorem e1(l:aj)(a:Bool)(h1:Cp 39 [(.str l.name)] (vB a))(h2:a=true)(h3:l.ab.length=0):Cp 14 [l.pv] (vI 10) :=
 eD func14 99 [1,1,1,1] [.q,.h 2 (.pv (vB a)),.f,.h 2 (iI (l.ab.length:Int)),.t,.q] (y4 h1 (ae h2) (ar ah.cells l.ab) (br h3))
theorem e2(l:aj)(a:Bool)(h1:Cp 39 [(.str l.name)] (vB a))(h2:a=true)(h3:l.ab.length≠0)(h4:8<l.ab.length):Cp 14 [l.pv] (vI 4) :=
 eD func14 114 [1,1,1,1,1,1] [.q,.h 2 (.pv (vB a)),.f,.h 2 (iI (l.ab.length:Int)),.f,.h 2 (iI (l.ab.length:Int)),.t,.q] (y6 h1 (ae h2) (ar ah.cells l.ab) (aT h3) (ar ah.cells l.ab) (ax h4))
theorem e3(l:aj)(a:Bool)(b:Int)(h1:Cp 39 [(.str l.name)] (vB a))(h2:a=true)(h3:l.ab.length≠0)(h4:l.ab.length≤8)(h5:Cp 40 [l.pv] (vI b))(h6:b≠0):Cp 14 [l.pv] (vI b) :=
 eD func14 135 [1,1,1,1,1,1,1,1] [.q,.h 2 (.pv (vB a)),.f,.h 2 (iI (l.ab.length:Int)),.f,.h 2 (iI (l.ab.length:Int)),.f,.h 1 (.pv (vI b)),.q,.t,.q] (y8 h1 (ae h2) (ar ah.cells l.ab) (aT h3) (ar ah.cells l.ab) (ay h4) h5 (bq h6))
theorem e4(l:aj)(a:Bool)(b:Int)(h1:Cp 39 [(.str l.name)] (vB a))(h2:a=true)(h3:l.ab.length≠0)(h4:l.ab.length≤8)(h5:Cp 40 [l.pv] (vI b))(h6:b=0)(h7:16<l.aq.length):Cp 14 [l.pv] (vI 4) :=
 eD func14 150 [1,1,1,1,1,1,1,1,1,1] [.q,.h 2 (.pv (vB a)),.f,.h 2 (iI (l.ab.length:Int)),.f,.h 2 (iI (l.ab.length:Int)),.f,.h 1 (.pv (vI b)),.q,.f,.h 2 (iI (l.aq.length:Int)),.t,.q] (CM h1 (ae h2) (ar ah.cells l.ab) (aT h3) (ar ah.cells l.ab) (ay h4) h5 (aA h6) (ar ak.cells l.aq) (ax h7))
theorem e5(l:aj)(a:Bool)(b:Int){r:PV}(h1:Cp 39 [(.str l.name)] (vB a))(h2:a=true)(h3:l.ab.length≠0)(h4:l.ab.length≤8)(h5:Cp 40 [l.pv] (vI b))(h6:b=0)(h7:l.aq.length≤16)(hL:au 0 l r):Cp 14 [l.pv] r :=
 eG func14 162 [1,1,1,1,1,1,1,1,1,1] [.q,.h 2 (.pv (vB a)),.f,.h 2 (iI (l.ab.length:Int)),.f,.h 2 (iI (l.ab.length:Int)),.f,.h 1 (.pv (vI b)),.q,.f,.h 2 (iI (l.aq.length:Int)),.f,.q,.aN [1,4]] (CM h1 (ae h2) (ar ah.cells l.ab) (aT h3) (ar ah.cells l.ab) (ay h4) h5 (aA h6) (ar ak.cells l.aq) (ay h7)) hL
theorem eo(b:Nat)(l:aj)(c:Int)(h1:b<l.aq.length)(h2:Cp 41 [l.pv,(vI (b:Int))] (vI c))(h3:c≠0):au b l (vI c) :=
 lD 207 [1,1,1,1] [.a,.h 3 (iI (l.aq.length:Int)),.t,.h 2 (.pv (vI c)),.q,.t,.q] (y4 (ar ak.cells l.aq) (ax h1) h2 (bq h3))
theorem ew(b:Nat)(l:aj)(c:Int){r:PV}(h1:b<l.aq.length)(h2:Cp 41 [l.pv,(vI (b:Int))] (vI c))(h3:c=0)(h4:(b+1)<9223372036854775808)(hL:au (b+1) l r):au b l r :=
 lG 210 [1,1,1,1,1] [.a,.h 3 (iI (l.aq.length:Int)),.t,.h 2 (.pv (vI c)),.q,.f,.h 1 (iI (((b+1):Nat):Int)),.aN [1,4]] (y5 (ar ak.cells l.aq) (ax h1) h2 (aA h3) (aH h4)) hL
theorem nr(b:Nat)(l:aj)(h1:l.aq.length≤b)(h2:2<l.an.length):au b l (vI 4) :=
 lD 207 [1,1,1,1] [.a,.h 3 (iI (l.aq.length:Int)),.f,.h 2 (iI (l.an.length:Int)),.t,.q] (y4 (ar ak.cells l.aq) (ay h1) (ar ag.cells l.an) (ax h2))
theorem Bf(b:Nat)(l:aj){r:PV}(h1:l.aq.length≤b)(h2:l.an.length≤2)(hL:aM 0 l r):au b l r :=
 lG 219 [1,1,1,1] [.a,.h 3 (iI (l.aq.length:Int)),.f,.h 2 (iI (l.an.length:Int)),.f,.q,.aN [1,6]] (y4 (ar ak.cells l.aq) (ay h1) (ar ag.cells l.an) (ay h2)) hL
theorem mX(b:Nat)(l:aj)(c:Int)(h1:b<l.an.length)(h2:Cp 42 [l.pv,(vI (b:Int))] (vI c))(h3:c≠0):aM b l (vI c) :=
 lD 264 [1,1,1,1] [.a,.h 3 (iI (l.an.length:Int)),.t,.h 2 (.pv (vI c)),.q,.t,.q] (y4 (ar ag.cells l.an) (ax h1) h2 (bq h3))
theorem mY(b:Nat)(l:aj)(c:Int){r:PV}(h1:b<l.an.length)(h2:Cp 42 [l.pv,(vI (b:Int))] (vI c))(h3:c=0)(h4:(b+1)<9223372036854775808)(hL:aM (b+1) l r):aM b l r :=
 lG 267 [1,1,1,1,1] [.a,.h 3 (iI (l.an.length:Int)),.t,.h 2 (.pv (vI c)),.q,.f,.h 1 (iI (((b+1):Nat):Int)),.aN [1,6]] (y5 (ar ag.cells l.an) (ax h1) h2 (aA h3) (aH h4)) hL
theorem xR(b:Nat)(l:aj)(h1:l.an.length≤b):aM b l (vI 0) :=
 lD 252 [1,1] [.a,.h 3 (iI (l.an.length:Int)),.f,.q] (y2 (ar ag.cells l.an) (ay h1))
end bw
namespace mC
theorem e3(l:aj)(a p q:Int)(b:Bool)(k:Nat)(v:ah)(c:Bool)(k1:Nat)(v1:ah)(d:Bool)(k2:Nat)(v2:ah)(k3:Nat)(v3:ai)(k4:Nat)(v4:ah)(k5:Nat)(v5:ai)(g i j m n:aK)(h1:Cp 86 [vI a,(vI (l.ab.length:Int))] (vB b))(h2:b=true)(h3:a=(k:Int))(h4:l.ab[k]? = some v)(h5:Cp 86 [vI p,(vI (v.points.length:Int))] (vB c))(h6:c=true)(h7:a=(k1:Int))(h8:l.ab[k1]? = some v1)(h9:Cp 86 [vI q,(vI (v1.points.length:Int))] (vB d))(bg:d=true)(cR:a=(k2:Int))(cw:l.ab[k2]? = some v2)(cu:p=(k3:Int))(dZ:v2.points[k3]? = some v3)(ej:a=(k4:Int))(fP:l.ab[k4]? = some v4)(jB:q=(k5:Int))(gw:v4.points[k5]? = some v5)(gH:Cp 94 [v3.x.pv,v5.x.pv] g.pv)(gz:Cp 94 [v3.y.pv,v5.y.pv] i.pv)(gu:Cp 51 [g.pv,g.pv] j.pv)(me:Cp 51 [i.pv,i.pv] m.pv)(je:Cp 95 [j.pv,m.pv] n.pv):Cp 52 [l.pv,vI a,vI p,vI q] (.bx [n.pv,vI 0]) :=
 eD func52 99 [1,1,1,1,1,1,1,3,1,1,1,1,1,1,1,1,1,1,1,1,1,3,1,1,1,1,1,1,1,1,1,3,3,3,3,1,1,1,1,1] [.q,.aR [.o,.o,.o,(iI (l.ab.length:Int)),(.pv (vB b)),.o,.o,.o,.o,.o,.o,(.row k (ah.cells v)),.o,.o,(iI (v.points.length:Int)),(.pv (vB c)),.o,(.dec false),.o,.o,.o,.o,.o,(.row k1 (ah.cells v1)),.o,.o,(iI (v1.points.length:Int)),(.pv (vB d)),.o,(.dec false)],.f,dr 21 1 [.none,.none,.none,(.row k2 (ah.cells v2)),.none,.none,.none,(.row k3 (ai.cells v3)),.none,.none,.none,.none,(.row k4 (ah.cells v4)),.none,.none,.none,(.row k5 (ai.cells v5))],dr 12 2 [.none,.none,.none,.none,(.pv g.pv),.none,.none,.none,.none,(.pv i.pv)],dr 7 2 [.none,.none,(.pv j.pv),.none,.none,(.pv m.pv),(.pv n.pv)]] (zI (ar ah.cells l.ab) h1 (ae h2) (ae h2) (ae h2) (ae h2) (ae h2) (aY ah.cells h3 h4) (ae h2) (ae h2) (ae h2) (ar ai.cells v.points) (ae h2) h5 (ae h2) (ae h2) (ae h6) (ae h6) (ae h6) (ae h6) (ae h6) (aY ah.cells h7 h8) (ae h6) (ae h6) (ae h6) (ar ai.cells v1.points) (ae h6) h9 (ae h6) (ae h6) (ae bg) (aY ah.cells cR cw) (aY ai.cells cu dZ) (aY ah.cells ej fP) (aY ai.cells jB gw) gH gz gu me je)
end mC
namespace cS
theorem e0(a:aK)(h1:a.num.length=0)(h2:a.den.length=0):Cp 15 [a.pv] (vB (!a.neg)) :=
 eD func15 84 [1,1,1,1,1,1,1,1] [.q,.aR [.o,.o,(iI (a.num.length:Int)),.o,.o,.o,.o,(iI (a.den.length:Int)),.o,(.dec true)],.t,.q] (y8 (ar af a.num) (br h1) (br h1) (br h1) (ar af a.den) (br h1) (br h1) (br h2))
theorem e3(a:aK)(b:Bool)(h1:a.num.length=0)(h2:a.den.length≠0)(h3:Cp 43 [aa a.num] (vB b))(h4:b=false):Cp 15 [a.pv] (vB false) :=
 eD func15 87 [1,1,1,1,1,1,1,1,1,1,1,1,1,1,1,1,1,1,1,1,1,1,1] [.q,.aR [.o,.o,(iI (a.num.length:Int)),.o,.o,.o,.o,(iI (a.den.length:Int)),.o,(.dec true)],.f,.aR [.o,.o,(.pv (vB b)),.o,.skip,.skip,.skip,(.dec false),.o,.skip,.skip,.skip,.skip,.skip,.skip,.skip,.skip,.skip,.skip]] (T7 (ar af a.num) (br h1) (br h1) (br h1) (ar af a.den) (br h1) (br h1) (aT h2) h3 h4 h4 h4 h4 (Eq.refl false) (Eq.refl false) (Eq.refl false) (Eq.refl false) (Eq.refl false) (Eq.refl false) (Eq.refl false) (Eq.refl false) (Eq.refl false) (Eq.refl false))
theorem e4(a:aK)(b c:Bool)(d g:aC)(i:Int)(h1:a.num.length≠0)(h2:Cp 43 [aa a.num] (vB b))(h3:b=true)(h4:Cp 43 [aa a.den] (vB c))(h5:c=true)(h6:Cp 45 [(⟨false,a.num⟩:aC).pv,(⟨false,a.den⟩:aC).pv] d.pv)(h7:Cp 46 [] g.pv)(h8:Cp 44 [d.pv,g.pv] (vI i)):Cp 15 [a.pv] (vB (i==0)) :=
 eD func15 87 [1,1,1,1,1,1,1,1,1,1,1,1,1,1,1,1,1,1,1,1,1,1,1,1,1,1] [.q,.aR [.o,.o,(iI (a.num.length:Int)),.o,.o,.skip,.skip,.skip,.skip,(.dec false)],.a,.aR [.o,.o,(.pv (vB b)),.o,.o,.o,(.pv (vB c)),(.dec true),.o,.o,.o,.o,.o,.o,.o,(.pv d.pv),(.pv g.pv),(.pv (vI i)),.o,(.dec true)]] (T9 (ar af a.num) (aT h1) (aT h1) (aT h1) (aT h1) (aT h1) h2 h3 h3 h3 h4 h3 h5 h5 h5 h5 h5 h5 h5 h6 h5 h7 h5 h8 h5 h5)
theorem e5(a:aK)(b c:Bool)(h1:a.num.length≠0)(h2:Cp 43 [aa a.num] (vB b))(h3:b=true)(h4:Cp 43 [aa a.den] (vB c))(h5:c=false):Cp 15 [a.pv] (vB false) :=
 eD func15 87 [1,1,1,1,1,1,1,1,1,1,1,1,1,1,1,1,1,1,1,1,1,1,1] [.q,.aR [.o,.o,(iI (a.num.length:Int)),.o,.o,.skip,.skip,.skip,.skip,(.dec false)],.a,.aR [.o,.o,(.pv (vB b)),.o,.o,.o,(.pv (vB c)),(.dec true),.o,.skip,.skip,.skip,.skip,.skip,.skip,.skip,.skip,.skip,.skip,(.dec false)]] (T7 (ar af a.num) (aT h1) (aT h1) (aT h1) (aT h1) (aT h1) h2 h3 h3 h3 h4 h3 h5 h5 h5 h5 h5 h5 h5 h5 h5 h5 h5)
theorem e6(a:aK)(b:Bool)(h1:a.num.length≠0)(h2:Cp 43 [aa a.num] (vB b))(h3:b=false):Cp 15 [a.pv] (vB false) :=
 eD func15 87 [1,1,1,1,1,1,1,1,1,1,1,1,1,1,1,1,1,1,1,1,1] [.q,.aR [.o,.o,(iI (a.num.length:Int)),.o,.o,.skip,.skip,.skip,.skip,(.dec false)],.a,.aR [.o,.o,(.pv (vB b)),.o,.skip,.skip,.skip,(.dec false),.o,.skip,.skip,.skip,.skip,.skip,.skip,.skip,.skip,.skip,.skip]] (Se (ar af a.num) (aT h1) (aT h1) (aT h1) (aT h1) (aT h1) h2 h3 h3 h3 h3 (Eq.refl false) (Eq.refl false) (Eq.refl false) (Eq.refl false) (Eq.refl false) (Eq.refl false) (Eq.refl false) (Eq.refl false) (Eq.refl false) (Eq.refl false))
end cS
namespace oc
theorem e0(a:aK)(b c:aC)(d:Int)(h1:Cp 47 [a.pv] (.bx [b.pv,c.pv]))(h2:Cp 48 [b.pv] (vI d)):Cp 16 [a.pv] (vI d) :=
 eD func16 78 [1,1] [.q,.h 1 (.pv (.bx [b.pv,c.pv])),.h 1 (.pv (vI d))] (y2 h1 h2)
end oc
namespace u6
theorem e0(a b:aK)(c d g i j k:aC)(l:aK)(h1:Cp 57 [a.pv] (.bx [c.pv,d.pv]))(h2:Cp 57 [b.pv] (.bx [g.pv,i.pv]))(h3:Cp 59 [c.pv,g.pv] j.pv)(h4:Cp 59 [d.pv,i.pv] k.pv)(h5:Cp 58 [j.pv,k.pv] l.pv):Cp 24 [a.pv,b.pv] l.pv :=
 eD func24 84 [1,1,1,1,1] [.q,.h 1 (.pv (.bx [c.pv,d.pv])),.h 1 (.pv (.bx [g.pv,i.pv])),dr 7 1 [.none,.none,(.pv j.pv),.none,.none,(.pv k.pv),(.pv l.pv)]] (y5 h1 h2 h3 h4 h5)
end u6
namespace pZ
theorem e0(n:Int)(of a:aC)(b:aK)(h1:Cp 74 [vI n] of.pv)(h2:Cp 46 [] a.pv)(h3:Cp 73 [of.pv,a.pv] b.pv):Cp 33 [vI n] b.pv :=
 eD func33 72 [1,1,1] [.q,.aR [.o,(.pv of.pv),(.pv a.pv),(.pv b.pv)]] (y3 h1 h2 h3)
end pZ
namespace fL
theorem e0(a:aK)(h1:a.num.length=0)(h2:a.den.length=0):Cp 34 [a.pv] (vB (!a.neg)) :=
 eD func34 84 [1,1,1,1,1,1,1,1] [.q,.aR [.o,.o,(iI (a.num.length:Int)),.o,.o,.o,.o,(iI (a.den.length:Int)),.o,(.dec true)],.t,.q] (y8 (ar af a.num) (br h1) (br h1) (br h1) (ar af a.den) (br h1) (br h1) (br h2))
theorem e1(a:aK)(h1:a.num.length=0)(h2:a.den.length≠0):Cp 34 [a.pv] (vB false) :=
 eD func34 105 [1,1,1,1,1,1,1,1,1,1,1,1,1,1,1,1,1,1,1,1] [.q,.aR [.o,.o,(iI (a.num.length:Int)),.o,.o,.o,.o,(iI (a.den.length:Int)),.o,(.dec true)],.f,dr 9 1 [],.aR [.o,.o,(iI (a.num.length:Int)),.o,.o,.skip,.skip,.skip,.skip,(.dec true),.o,.skip,.skip,.skip,.o,.o,.skip,.skip,.skip],.a,.q] (Sd (ar af a.num) (br h1) (br h1) (br h1) (ar af a.den) (br h1) (br h1) (aT h2) (ar af a.num) (br h1) (br h1) (br h1) (br h1) (br h1) (Eq.refl true) (Eq.refl true) (Eq.refl true) (Eq.refl true) (Eq.refl true) (Eq.refl true))
theorem e2(a:aK)(h1:a.num.length≠0)(h2:a.den.length=0):Cp 34 [a.pv] (vB false) :=
 eD func34 105 [1,1,1,1,1,1,1,1,1,1,1,1,1,1,1,1,1,1,1,1] [.q,.aR [.o,.o,(iI (a.num.length:Int)),.o,.o,.skip,.skip,.skip,.skip,(.dec false)],.a,dr 9 1 [],.aR [.o,.o,(iI (a.num.length:Int)),.o,.o,.o,.o,(iI (a.den.length:Int)),.o,(.dec false),.o,.skip,.skip,.skip,(.dec true),.o,.skip,.skip,.skip],.a,.q] (Sd (ar af a.num) (aT h1) (aT h1) (aT h1) (aT h1) (aT h1) (ar af a.num) (aT h1) (aT h1) (aT h1) (ar af a.den) (aT h1) (aT h1) (br h2) (br h2) (br h2) (br h2) (Eq.refl true) (Eq.refl true) (Eq.refl true))
theorem e3(a:aK)(b:Bool)(h1:a.num.length≠0)(h2:a.den.length≠0)(h3:Cp 75 [(⟨false,a.num⟩:aC).pv] (vB b))(h4:b=false):Cp 34 [a.pv] (vB false) :=
 eD func34 105 [1,1,1,1,1,1,1,1,1,1,1,1,1,1,1,1,1,1,1,1,1,1] [.q,.aR [.o,.o,(iI (a.num.length:Int)),.o,.o,.skip,.skip,.skip,.skip,(.dec false)],.a,dr 9 1 [],.aR [.o,.o,(iI (a.num.length:Int)),.o,.o,.o,.o,(iI (a.den.length:Int)),.o,(.dec false),.o,.o,(.pv (vB b)),.o,(.dec false),.o,.skip,.skip,.skip,(.dec true)],.a,.q] (L0 (ar af a.num) (aT h1) (aT h1) (aT h1) (aT h1) (aT h1) (ar af a.num) (aT h1) (aT h1) (aT h1) (ar af a.den) (aT h1) (aT h1) (aT h2) (aT h2) h3 (aT h2) (aT h2) (aF h4) (aF h4) (aF h4) (aF h4))
theorem e4(a:aK)(b c:Bool)(h1:a.num.length≠0)(h2:a.den.length≠0)(h3:Cp 75 [(⟨false,a.num⟩:aC).pv] (vB b))(h4:b=true)(h5:Cp 75 [(⟨false,a.den⟩:aC).pv] (vB c))(h6:c=false):Cp 34 [a.pv] (vB false) :=
 eD func34 105 [1,1,1,1,1,1,1,1,1,1,1,1,1,1,1,1,1,1,1,1,1,1,1,1] [.q,.aR [.o,.o,(iI (a.num.length:Int)),.o,.o,.skip,.skip,.skip,.skip,(.dec false)],.a,dr 9 1 [],.aR [.o,.o,(iI (a.num.length:Int)),.o,.o,.o,.o,(iI (a.den.length:Int)),.o,(.dec false),.o,.o,(.pv (vB b)),.o,(.dec false),.o,.o,(.pv (vB c)),.o,(.dec false)],.t,.q] (T8 (ar af a.num) (aT h1) (aT h1) (aT h1) (aT h1) (aT h1) (ar af a.num) (aT h1) (aT h1) (aT h1) (ar af a.den) (aT h1) (aT h1) (aT h2) (aT h2) h3 (aT h2) (aT h2) (ae h4) (ae h4) h5 (ae h4) (ae h4) (aF h6))
theorem e5(a:aK)(b c:Bool)(d g:aC)(i:Int)(h1:a.num.length≠0)(h2:a.den.length≠0)(h3:Cp 75 [(⟨false,a.num⟩:aC).pv] (vB b))(h4:b=true)(h5:Cp 75 [(⟨false,a.den⟩:aC).pv] (vB c))(h6:c=true)(h7:Cp 77 [(⟨false,a.num⟩:aC).pv,(⟨false,a.den⟩:aC).pv] d.pv)(h8:Cp 78 [] g.pv)(h9:Cp 76 [d.pv,g.pv] (vI i)):Cp 34 [a.pv] (vB (i==0)) :=
 eD func34 108 [1,1,1,1,1,1,1,1,1,1,1,1,1,1,1,1,1,1,1,1,1,1,1,1,1,1,1] [.q,.aR [.o,.o,(iI (a.num.length:Int)),.o,.o,.skip,.skip,.skip,.skip,(.dec false)],.a,dr 9 1 [],.aR [.o,.o,(iI (a.num.length:Int)),.o,.o,.o,.o,(iI (a.den.length:Int)),.o,(.dec false),.o,.o,(.pv (vB b)),.o,(.dec false),.o,.o,(.pv (vB c)),.o,(.dec false)],.f,.aR [.o,.o,(.pv d.pv),(.pv g.pv),(.pv (vI i))]] (VO (ar af a.num) (aT h1) (aT h1) (aT h1) (aT h1) (aT h1) (ar af a.num) (aT h1) (aT h1) (aT h1) (ar af a.den) (aT h1) (aT h1) (aT h2) (aT h2) h3 (aT h2) (aT h2) (ae h4) (ae h4) h5 (ae h4) (ae h4) (ae h6) h7 h8 h9)
end fL
namespace tu
theorem e0(a:aK)(b c:aC)(d:Int)(h1:Cp 57 [a.pv] (.bx [b.pv,c.pv]))(h2:Cp 79 [b.pv] (vI d)):Cp 35 [a.pv] (vI d) :=
 eD func35 78 [1,1] [.q,.h 1 (.pv (.bx [b.pv,c.pv])),.h 1 (.pv (vI d))] (y2 h1 h2)
end tu
namespace u7
theorem e0(a b c d:aK)(h1:Cp 82 [b.pv] c.pv)(h2:Cp 38 [a.pv,c.pv] d.pv):Cp 37 [a.pv,b.pv] d.pv :=
 eD func37 72 [1,1] [.q,dr 4 1 [.none,.none,(.pv c.pv),(.pv d.pv)]] (y2 h1 h2)
end u7
namespace u9
theorem e0(a b:aK)(c d g i j k l m:aC)(n:aK)(h1:Cp 57 [a.pv] (.bx [c.pv,d.pv]))(h2:Cp 57 [b.pv] (.bx [g.pv,i.pv]))(h3:Cp 59 [c.pv,i.pv] j.pv)(h4:Cp 59 [g.pv,d.pv] k.pv)(h5:Cp 83 [j.pv,k.pv] l.pv)(h6:Cp 59 [d.pv,i.pv] m.pv)(h7:Cp 58 [l.pv,m.pv] n.pv):Cp 38 [a.pv,b.pv] n.pv :=
 eD func38 84 [1,1,1,1,1,1,1] [.q,.h 1 (.pv (.bx [c.pv,d.pv])),.h 1 (.pv (.bx [g.pv,i.pv])),dr 11 1 [.none,.none,(.pv j.pv),.none,.none,(.pv k.pv),(.pv l.pv),.none,.none,(.pv m.pv),(.pv n.pv)]] (y7 h1 h2 h3 h4 h5 h6 h7)
end u9
namespace jZ
theorem e0(m:Ws)(k:Nat)(v:UInt32)(h1:0<m.length)(h2:aO ((m.length:Int)-1))(h3:((m.length:Int)-1)=(k:Int))(h4:m[k]? = some v):Cp 43 [aa m] (vB ((v.toNat:Int) != 0)) :=
 eD func43 72 [1,1,1,1,1,1,1,1,3,1,1,1] [.q,.aR [.o,(iI (m.length:Int)),.o,.o,.o,.o,(iI (m.length:Int)),(iI ((m.length:Int)-1)),(.row k (af v)),.o,.o,(.dec true)]] (Ki (ar af m) (ax h1) (ax h1) (ax h1) (ar af m) (ax h1) (bS h2) (ax h1) (aY af h3 h4) (ax h1) (ax h1) (ax h1))
theorem e1(m:Ws)(h1:m.length≤0):Cp 43 [aa m] (vB false) :=
 eD func43 72 [1,1,1,1,1,1,1,1,1] [.q,.aR [.o,(iI (m.length:Int)),.o,.o,.skip,.skip,.skip,.skip,.skip,.skip,.skip,(.dec false)]] (y9 (ar af m) (ay h1) (ay h1) (ay h1) (ay h1) (ay h1) (ay h1) (ay h1) (ay h1))
end jZ
namespace oW
theorem e0(of:aC)(h1:Cp 74 [vI 1] of.pv):Cp 46 [] of.pv :=
 eD func46 72 [1] [.q,.h 0 (.pv of.pv)] (y1 h1)
end oW
namespace gC
theorem e0(a:aK)(b:Bool)(c:aC)(h1:Cp 15 [a.pv] (vB b))(h2:b=false)(h3:Cp 46 [] c.pv):Cp 47 [a.pv] (.bx [(⟨false,[]⟩:aC).pv,c.pv]) :=
 eD func47 84 [1,1,1,1,1,1,1] [.q,.aR [.o,(.pv (vB b)),.o,.o,.skip,.skip,.skip,.skip,(.dec true)],.a,.h 1 (.pv c.pv)] (y7 h1 (aF h2) (aF h2) (aF h2) (aF h2) (aF h2) h3)
theorem e1(a:aK)(b:Bool)(c:aC)(h1:Cp 15 [a.pv] (vB b))(h2:b=true)(h3:a.num.length=0)(h4:Cp 46 [] c.pv):Cp 47 [a.pv] (.bx [(⟨false,[]⟩:aC).pv,c.pv]) :=
 eD func47 84 [1,1,1,1,1,1,1,1,1] [.q,.aR [.o,(.pv (vB b)),.o,.o,.o,.o,(iI (a.num.length:Int)),.o,(.dec false)],.t,.h 1 (.pv c.pv)] (y9 h1 (ae h2) (ae h2) (ae h2) (ar af a.num) (ae h2) (ae h2) (br h3) h4)
theorem e2(a:aK)(b:Bool)(h1:Cp 15 [a.pv] (vB b))(h2:b=true)(h3:a.num.length≠0):Cp 47 [a.pv] (.bx [(⟨a.neg,a.num⟩:aC).pv,(⟨false,a.den⟩:aC).pv]) :=
 eD func47 87 [1,1,1,1,1,1,1,1] [.q,.aR [.o,(.pv (vB b)),.o,.o,.o,.o,(iI (a.num.length:Int)),.o,(.dec false)],.f,dr 9 1 []] (y8 h1 (ae h2) (ae h2) (ae h2) (ar af a.num) (ae h2) (ae h2) (aT h3))
end gC
namespace oX
theorem e0(a b:aK)(c d g i j k:aC)(l:aK)(h1:Cp 47 [a.pv] (.bx [c.pv,d.pv]))(h2:Cp 47 [b.pv] (.bx [g.pv,i.pv]))(h3:Cp 93 [c.pv,g.pv] j.pv)(h4:Cp 93 [d.pv,i.pv] k.pv)(h5:Cp 73 [j.pv,k.pv] l.pv):Cp 51 [a.pv,b.pv] l.pv :=
 eD func51 84 [1,1,1,1,1] [.q,.h 1 (.pv (.bx [c.pv,d.pv])),.h 1 (.pv (.bx [g.pv,i.pv])),dr 7 1 [.none,.none,(.pv j.pv),.none,.none,(.pv k.pv),(.pv l.pv)]] (y5 h1 h2 h3 h4 h5)
end oX
namespace lx
@[reducible] def fn:Func:=Tryz.f57
theorem e0(a:aK)(b:Bool)(c:aC)(h1:Cp 34 [a.pv] (vB b))(h2:b=false)(h3:Cp 78 [] c.pv):Cp 57 [a.pv] (.bx [(⟨false,[]⟩:aC).pv,c.pv]) :=
 eD func57 84 [1,1,1,1,1,1,1] [.q,.aR [.o,(.pv (vB b)),.o,.o,.skip,.skip,.skip,.skip,(.dec true)],.a,.h 1 (.pv c.pv)] (y7 h1 (aF h2) (aF h2) (aF h2) (aF h2) (aF h2) h3)
theorem e1(a:aK)(b:Bool)(c:aC)(h1:Cp 34 [a.pv] (vB b))(h2:b=true)(h3:a.num.length=0)(h4:Cp 78 [] c.pv):Cp 57 [a.pv] (.bx [(⟨false,[]⟩:aC).pv,c.pv]) :=
 eD func57 84 [1,1,1,1,1,1,1,1,1] [.q,.aR [.o,(.pv (vB b)),.o,.o,.o,.o,(iI (a.num.length:Int)),.o,(.dec false)],.t,.h 1 (.pv c.pv)] (y9 h1 (ae h2) (ae h2) (ae h2) (ar af a.num) (ae h2) (ae h2) (br h3) h4)
theorem KY(a:aK):uX bp mr fn.ntmps (bA (focus [0,2,0,0,2,1,2,0] [.code (az fn)])) (lL (bA (focus [0,2,0,0,2,1,2,0] [.code (az fn)])) []) (jo (bA (focus [0,2,0,0,2,1,2,0] [.code (az fn)])) []) [.none,.none,.none,.none,.none,(.rq (a.num:List UInt32).length 0 ((a.num:List UInt32).map af)),.none,.none] (Ar mr fn.ntmps (bA (focus [0,2,0,0,2,1,2,0] [.code (az fn)])) [] ⟨[(1,(.ptr 1 0)),(2,(.ptr 2 0)),(3,(.ptr 3 0))],[(3,(.lit [(eB false),(.pv (.list []))])),(2,(.lit [(eB false),(.pv (.list []))])),(1,(.lit [(eB a.neg),(.pv (aa a.num)),(.pv (aa a.den))]))]⟩)=uY bp mr fn.ntmps (bA (focus [0,2,0,0,2,1,2,0] [.code (az fn)])) (lL (bA (focus [0,2,0,0,2,1,2,0] [.code (az fn)])) []) (jo (bA (focus [0,2,0,0,2,1,2,0] [.code (az fn)])) []) [.none,.none,.none,.none,.none,(.rq (a.num:List UInt32).length 0 ((a.num:List UInt32).map af)),.none,.none] (Ar mr fn.ntmps (bA (focus [0,2,0,0,2,1,2,0] [.code (az fn)])) [] ⟨[(1,(.ptr 1 0)),(2,(.ptr 2 0)),(3,(.ptr 3 0))],[(3,(.lit [(eB false),(.pv (.list []))])),(2,(.lit [(eB false),(.pv (.list []))])),(1,(.lit [(eB a.neg),(.pv (aa a.num)),(.pv (aa a.den))]))]⟩):=by kernel_rfl
theorem KZ(a:aK):uX bp mr fn.ntmps (bA (focus [0,2,0,0,2,1,2,0,2,0] [.code (az fn)])) (lL (bA (focus [0,2,0,0,2,1,2,0,2,0] [.code (az fn)])) []) (jo (bA (focus [0,2,0,0,2,1,2,0,2,0] [.code (az fn)])) []) [.none,.none,.none,.none,(.rq (a.den:List UInt32).length 0 ((a.den:List UInt32).map af)),.none,.none,.none] (Ar mr fn.ntmps (bA (focus [0,2,0,0,2,1,2,0,2,0] [.code (az fn)])) [] ⟨[(1,(.ptr 1 0)),(2,(.ptr 2 0)),(3,(.ptr 3 0))],[(3,(.lit [(eB false),(.pv (.list []))])),(2,(.lit [(eB a.neg),(.pv (aa a.num))])),(1,(.lit [(eB a.neg),(.pv (aa a.num)),(.pv (aa a.den))]))]⟩)=uY bp mr fn.ntmps (bA (focus [0,2,0,0,2,1,2,0,2,0] [.code (az fn)])) (lL (bA (focus [0,2,0,0,2,1,2,0,2,0] [.code (az fn)])) []) (jo (bA (focus [0,2,0,0,2,1,2,0,2,0] [.code (az fn)])) []) [.none,.none,.none,.none,(.rq (a.den:List UInt32).length 0 ((a.den:List UInt32).map af)),.none,.none,.none] (Ar mr fn.ntmps (bA (focus [0,2,0,0,2,1,2,0,2,0] [.code (az fn)])) [] ⟨[(1,(.ptr 1 0)),(2,(.ptr 2 0)),(3,(.ptr 3 0))],[(3,(.lit [(eB false),(.pv (.list []))])),(2,(.lit [(eB a.neg),(.pv (aa a.num))])),(1,(.lit [(eB a.neg),(.pv (aa a.num)),(.pv (aa a.den))]))]⟩):=by kernel_rfl
theorem e2(a:aK)(b:Bool)(h1:Cp 34 [a.pv] (vB b))(h2:b=true)(h3:a.num.length≠0)(h4:(([]:Ws)++a.num:Ws).length*4≤140737488355328)(h5:(([]:Ws)++a.den:Ws).length*4≤140737488355328):Cp 57 [a.pv] (.bx [(⟨a.neg,a.num⟩:aC).pv,(⟨false,a.den⟩:aC).pv]) :=
 eD func57 93 [1,1,1,1,1,1,1,1,6,3,1,6,3,1] [.q,.aR [.o,(.pv (vB b)),.o,.o,.o,.o,(iI (a.num.length:Int)),.o,(.dec false)],.f,.aN [1,2,3],.any [] [.none,.none,.none,.none,.none,(.rq (a.num:Ws).length 0 ((a.num:Ws).map af)),.none,.none],.aN [1,2,3],.any [] [.none,.none,.none,.none,(.rq (a.den:Ws).length 0 ((a.den:Ws).map af)),.none,.none,.none]] (G9 h1 (ae h2) (ae h2) (ae h2) (ar af a.num) (ae h2) (ae h2) (aT h3) (rX bm ([]:Ws) (a.num:Ws) 4 (Eq.refl ([]:Ws).length) h4 rfl) (eM bm (a.num:Ws) (Eq.refl (a.num:Ws).length)) (KY a) (rX bm ([]:Ws) (a.den:Ws) 4 (Eq.refl ([]:Ws).length) h5 rfl) (eM bm (a.den:Ws) (Eq.refl (a.den:Ws).length)) (KZ a))
end lx
namespace iG
theorem e0(n d:aC)(a:Int)(h1:Cp 79 [n.pv] (vI a))(h2:a=0):Cp 58 [n.pv,d.pv] ((⟨false,[],[]⟩:aK).pv) :=
 eD func58 84 [1,1] [.q,.h 1 (.pv (vI a)),.t,.q] (y2 h1 (aP h2))
theorem e1(n d:aC)(a b:Int)(c g i:aC)(j:Int)(k l m:aC)(o:Option Int)(p s:aC)(u:Option Int)(h1:Cp 79 [n.pv] (vI a))(h2:a≠0)(h3:Cp 79 [d.pv] (vI b))(h4:b<0)(h5:Cp 99 [n.pv] c.pv)(h6:Cp 99 [d.pv] g.pv)(h7:Cp 77 [c.pv,g.pv] i.pv)(h8:Cp 79 [c.pv] (vI j))(h9:j<0)(bg:Cp 99 [c.pv] k.pv)(cR:Cp 100 [k.pv,i.pv] (.bx [l.pv,m.pv,bL o]))(cw:Cp 100 [g.pv,i.pv] (.bx [p.pv,s.pv,bL u])):Cp 58 [n.pv,d.pv] ((⟨(decide (j<0)),l.cP,p.cP⟩:aK).pv) :=
 eD func58 141 [1,1,1,1,1,1,1,1,1,1,1,1] [.q,.h 1 (.pv (vI a)),.f,.h 1 (.pv (vI b)),.t,dr 4 2 [.none,(.pv c.pv),.none,(.pv g.pv)],.h 2 (.pv i.pv),.h 1 (.pv (vI j)),.q,.t,.h 1 (.pv k.pv),.h 2 (.pv (.bx [l.pv,m.pv,bL o])),.h 2 (.pv (.bx [p.pv,s.pv,bL u])),.q] (Ki h1 (bP h2) h3 (bd h4) h5 h6 h7 h8 (bd h9) bg cR cw)
theorem e2(n d:aC)(a b:Int)(c g i:aC)(j:Int)(k l:aC)(m:Option Int)(o p:aC)(s:Option Int)(h1:Cp 79 [n.pv] (vI a))(h2:a≠0)(h3:Cp 79 [d.pv] (vI b))(h4:b<0)(h5:Cp 99 [n.pv] c.pv)(h6:Cp 99 [d.pv] g.pv)(h7:Cp 77 [c.pv,g.pv] i.pv)(h8:Cp 79 [c.pv] (vI j))(h9:0≤j)(bg:Cp 100 [c.pv,i.pv] (.bx [k.pv,l.pv,bL m]))(cR:Cp 100 [g.pv,i.pv] (.bx [o.pv,p.pv,bL s])):Cp 58 [n.pv,d.pv] ((⟨(decide (j<0)),k.cP,o.cP⟩:aK).pv) :=
 eD func58 141 [1,1,1,1,1,1,1,1,1,1,1] [.q,.h 1 (.pv (vI a)),.f,.h 1 (.pv (vI b)),.t,dr 4 2 [.none,(.pv c.pv),.none,(.pv g.pv)],.h 2 (.pv i.pv),.h 1 (.pv (vI j)),.q,.f,.h 2 (.pv (.bx [k.pv,l.pv,bL m])),.h 2 (.pv (.bx [o.pv,p.pv,bL s])),.q] (Fb h1 (bP h2) h3 (bd h4) h5 h6 h7 h8 (ba h9) bg cR)
theorem e3(n d:aC)(a b:Int)(c:aC)(g:Int)(i j k:aC)(l:Option Int)(m o:aC)(p:Option Int)(h1:Cp 79 [n.pv] (vI a))(h2:a≠0)(h3:Cp 79 [d.pv] (vI b))(h4:0≤b)(h5:Cp 77 [n.pv,d.pv] c.pv)(h6:Cp 79 [n.pv] (vI g))(h7:g<0)(h8:Cp 99 [n.pv] i.pv)(h9:Cp 100 [i.pv,c.pv] (.bx [j.pv,k.pv,bL l]))(bg:Cp 100 [d.pv,c.pv] (.bx [m.pv,o.pv,bL p])):Cp 58 [n.pv,d.pv] ((⟨(decide (g<0)),j.cP,m.cP⟩:aK).pv) :=
 eD func58 141 [1,1,1,1,1,1,1,1,1,1] [.q,.h 1 (.pv (vI a)),.f,.h 1 (.pv (vI b)),.f,.h 2 (.pv c.pv),.h 1 (.pv (vI g)),.q,.t,.h 1 (.pv i.pv),.h 2 (.pv (.bx [j.pv,k.pv,bL l])),.h 2 (.pv (.bx [m.pv,o.pv,bL p])),.q] (CM h1 (bP h2) h3 (ba h4) h5 h6 (bd h7) h8 h9 bg)
theorem e4(n d:aC)(a b:Int)(c:aC)(g:Int)(i j:aC)(k:Option Int)(l m:aC)(o:Option Int)(h1:Cp 79 [n.pv] (vI a))(h2:a≠0)(h3:Cp 79 [d.pv] (vI b))(h4:0≤b)(h5:Cp 77 [n.pv,d.pv] c.pv)(h6:Cp 79 [n.pv] (vI g))(h7:0≤g)(h8:Cp 100 [n.pv,c.pv] (.bx [i.pv,j.pv,bL k]))(h9:Cp 100 [d.pv,c.pv] (.bx [l.pv,m.pv,bL o])):Cp 58 [n.pv,d.pv] ((⟨(decide (g<0)),i.cP,l.cP⟩:aK).pv) :=
 eD func58 141 [1,1,1,1,1,1,1,1,1] [.q,.h 1 (.pv (vI a)),.f,.h 1 (.pv (vI b)),.f,.h 2 (.pv c.pv),.h 1 (.pv (vI g)),.q,.f,.h 2 (.pv (.bx [i.pv,j.pv,bL k])),.h 2 (.pv (.bx [l.pv,m.pv,bL o])),.q] (y9 h1 (bP h2) h3 (ba h4) h5 h6 (ba h7) h8 h9)
end iG
namespace il
theorem e0(n d:aC)(a:Int)(h1:Cp 48 [n.pv] (vI a))(h2:a=0):Cp 73 [n.pv,d.pv] ((⟨false,[],[]⟩:aK).pv) :=
 eD func73 84 [1,1] [.q,.h 1 (.pv (vI a)),.t,.q] (y2 h1 (aP h2))
theorem e1(n d:aC)(a b:Int)(c g i j k:aC)(l:Int)(m o:aC)(p:Int)(h1:Cp 48 [n.pv] (vI a))(h2:a≠0)(h3:Cp 48 [d.pv] (vI b))(h4:b<0)(h5:Cp 115 [n.pv] c.pv)(h6:Cp 115 [d.pv] g.pv)(h7:Cp 45 [c.pv,g.pv] i.pv)(h8:Cp 116 [c.pv,i.pv] (.bx [j.pv,k.pv,vI l]))(h9:Cp 116 [g.pv,i.pv] (.bx [m.pv,o.pv,vI p])):Cp 73 [n.pv,d.pv] ((⟨j.neg,j.cP,m.cP⟩:aK).pv) :=
 eD func73 120 [1,1,1,1,1,1,1,1,1] [.q,.h 1 (.pv (vI a)),.f,.h 1 (.pv (vI b)),.t,dr 4 2 [.none,(.pv c.pv),.none,(.pv g.pv)],.h 2 (.pv i.pv),.h 2 (.pv (.bx [j.pv,k.pv,vI l])),.h 2 (.pv (.bx [m.pv,o.pv,vI p])),.q] (y9 h1 (bP h2) h3 (bd h4) h5 h6 h7 h8 h9)
theorem e2(n d:aC)(a b:Int)(c g i:aC)(j:Int)(k l:aC)(m:Int)(h1:Cp 48 [n.pv] (vI a))(h2:a≠0)(h3:Cp 48 [d.pv] (vI b))(h4:0≤b)(h5:Cp 45 [n.pv,d.pv] c.pv)(h6:Cp 116 [n.pv,c.pv] (.bx [g.pv,i.pv,vI j]))(h7:Cp 116 [d.pv,c.pv] (.bx [k.pv,l.pv,vI m])):Cp 73 [n.pv,d.pv] ((⟨g.neg,g.cP,k.cP⟩:aK).pv) :=
 eD func73 120 [1,1,1,1,1,1,1] [.q,.h 1 (.pv (vI a)),.f,.h 1 (.pv (vI b)),.f,.h 2 (.pv c.pv),.h 2 (.pv (.bx [g.pv,i.pv,vI j])),.h 2 (.pv (.bx [k.pv,l.pv,vI m])),.q] (y7 h1 (bP h2) h3 (ba h4) h5 h6 h7)
end il
namespace vc
theorem e0(of:aC)(h1:Cp 119 [vI 1] of.pv):Cp 78 [] of.pv :=
 eD func78 72 [1] [.q,.h 0 (.pv of.pv)] (y1 h1)
end vc
namespace vd
theorem e0(a:aK)(b c d:aC)(g:aK)(h1:Cp 57 [a.pv] (.bx [b.pv,c.pv]))(h2:Cp 99 [b.pv] d.pv)(h3:Cp 58 [d.pv,c.pv] g.pv):Cp 82 [a.pv] g.pv :=
 eD func82 78 [1,1,1] [.q,.h 1 (.pv (.bx [b.pv,c.pv])),dr 4 1 [.none,(.pv d.pv),.none,(.pv g.pv)]] (y3 h1 h2 h3)
end vd
namespace oY
theorem e0(a b c d:aK)(h1:Cp 135 [b.pv] c.pv)(h2:Cp 95 [a.pv,c.pv] d.pv):Cp 94 [a.pv,b.pv] d.pv :=
 eD func94 72 [1,1] [.q,dr 4 1 [.none,.none,(.pv c.pv),(.pv d.pv)]] (y2 h1 h2)
end oY
namespace oZ
theorem e0(a b:aK)(c d g i j k l m:aC)(n:aK)(h1:Cp 47 [a.pv] (.bx [c.pv,d.pv]))(h2:Cp 47 [b.pv] (.bx [g.pv,i.pv]))(h3:Cp 93 [c.pv,i.pv] j.pv)(h4:Cp 93 [g.pv,d.pv] k.pv)(h5:Cp 126 [j.pv,k.pv] l.pv)(h6:Cp 93 [d.pv,i.pv] m.pv)(h7:Cp 73 [l.pv,m.pv] n.pv):Cp 95 [a.pv,b.pv] n.pv :=
 eD func95 84 [1,1,1,1,1,1,1] [.q,.h 1 (.pv (.bx [c.pv,d.pv])),.h 1 (.pv (.bx [g.pv,i.pv])),dr 11 1 [.none,.none,(.pv j.pv),.none,.none,(.pv k.pv),(.pv l.pv),.none,.none,(.pv m.pv),(.pv n.pv)]] (y7 h1 h2 h3 h4 h5 h6 h7)
end oZ
namespace ve
theorem e0(a b:aK)(c d g i j k:aC)(l:Int)(h1:Cp 57 [a.pv] (.bx [c.pv,d.pv]))(h2:Cp 57 [b.pv] (.bx [g.pv,i.pv]))(h3:Cp 59 [c.pv,i.pv] j.pv)(h4:Cp 59 [g.pv,d.pv] k.pv)(h5:Cp 76 [j.pv,k.pv] (vI l)):Cp 113 [a.pv,b.pv] (vI l) :=
 eD func113 84 [1,1,1,1,1] [.q,.h 1 (.pv (.bx [c.pv,d.pv])),.h 1 (.pv (.bx [g.pv,i.pv])),dr 7 1 [.none,.none,(.pv j.pv),.none,.none,(.pv k.pv),(.pv (vI l))]] (y5 h1 h2 h3 h4 h5)
end ve
namespace o0
theorem e0(a b c:aK)(d:Int)(h1:Cp 94 [a.pv,b.pv] c.pv)(h2:Cp 16 [c.pv] (vI d)):Cp 125 [a.pv,b.pv] (vI d) :=
 eD func125 72 [1,1] [.q,.aR [.o,.o,(.pv c.pv),(.pv (vI d))]] (y2 h1 h2)
end o0
namespace o3
theorem e0(a:aK)(b c d:aC)(g:aK)(h1:Cp 47 [a.pv] (.bx [b.pv,c.pv]))(h2:Cp 115 [b.pv] d.pv)(h3:Cp 73 [d.pv,c.pv] g.pv):Cp 135 [a.pv] g.pv :=
 eD func135 78 [1,1,1] [.q,.h 1 (.pv (.bx [b.pv,c.pv])),dr 4 1 [.none,(.pv d.pv),.none,(.pv g.pv)]] (y3 h1 h2 h3)
end o3
end Go.Proofs.YtfjfekodeplcoaaGreat.Sym.Path
end
