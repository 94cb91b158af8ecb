/- Lemmas for the statements of this seat. -/
import Derived.Test.YtfjfekodeplcoaaGreatT0
noncomputable section
namespace Go.Proofs.YtfjfekodeplcoaaGreat.Sym.Path
open Go Tryz
set_option maxRecDepth 20000
set_option linter.unusedVariables false
namespace ee
theorem e0(b:Nat)(h1:65≤b)(h2:b≤90):Cp 122 [(.int .u8 (b:Int))] (vB true) :=
 eD func122 72 [1,1,1,1,1,1,1,1] [.q,.aQ [.o,.o,.o,.o,.o,(.dec true),.o,.skip,.skip,.skip,.skip,.skip,.skip,(.dec true)]] (y8 (bw h1) (bw h1) (bw h1) (bw h2) (bw h2) (bw h2) (bw h2) (bw h2))
theorem e1(b:Nat)(h1:65≤b)(h2:90<b)(h3:97≤b):Cp 122 [(.int .u8 (b:Int))] (vB (decide ((b:Int)≤122))) :=
 eD func122 72 [1,1,1,1,1,1,1,1,1,1,1] [.q,.aQ [.o,.o,.o,.o,.o,(.dec true),.o,.o,.o,.o,.o,.o,(.dec true),(.dec false)]] (A8 (bw h1) (bw h1) (bw h1) (aX h2) (aX h2) (aX h2) (bw h3) (bw h3) (aX h2) (bw h3) (aX h2))
theorem e2(b:Nat)(h1:65≤b)(h2:90<b)(h3:b<97):Cp 122 [(.int .u8 (b:Int))] (vB false) :=
 eD func122 72 [1,1,1,1,1,1,1,1,1,1,1] [.q,.aQ [.o,.o,.o,.o,.o,(.dec true),.o,.o,.o,.o,.skip,.skip,(.dec false),(.dec false)]] (A8 (bw h1) (bw h1) (bw h1) (aX h2) (aX h2) (aX h2) (aX h3) (aX h3) (aX h2) (aX h3) (aX h2))
theorem e4(b:Nat)(h1:b<65)(h2:b<97):Cp 122 [(.int .u8 (b:Int))] (vB false) :=
 eD func122 72 [1,1,1,1,1,1,1,1,1,1] [.q,.aQ [.o,.o,.o,.skip,.skip,(.dec false),.o,.o,.o,.o,.skip,.skip,(.dec false)]] (wh (aX h1) (aX h1) (aX h1) (Eq.refl false) (Eq.refl false) (Eq.refl false) (aX h2) (aX h2) (Eq.refl false) (aX h2))
end ee
namespace iC
theorem e0(b:Nat)(h1:48≤b):Cp 124 [(.int .u8 (b:Int))] (vB (decide ((b:Int)≤57))) :=
 eD func124 72 [1,1,1] [.q,.h 5 (.dec true)] (y3 (bw h1) (bw h1) (bw h1))
theorem e1(b:Nat)(h1:b<48):Cp 124 [(.int .u8 (b:Int))] (vB false) :=
 eD func124 72 [1,1,1] [.q,.aQ [.o,.o,.o,.skip,.skip,(.dec false)]] (y3 (aX h1) (aX h1) (aX h1))
end iC
namespace gI
theorem e0(s:ByteArray)(i:Int)(k b:Nat)(h1:i<(s.size:Int))(h2:i=(k:Int))(h3:(s.data.toList[k]?).map (fun b=>(b.toNat:Int))=some (b:Int)):Cp 123 [(.str s),vI i] (.int .u8 (b:Int)) :=
 eD func123 84 [1,1,2] [.q,.h 2 (iI (s.size:Int)),.t,.h 2 (.row k [.int .u8 (b:Int)])] (y3 (Eq.refl ((s.size:Nat):Int)) (bf h1) (cj h2 h3))
theorem e1(s:ByteArray)(i:Int)(h1:(s.size:Int)≤i):Cp 123 [(.str s),vI i] (.int .u8 0) :=
 eD func123 87 [1,1] [.q,.h 2 (iI (s.size:Int)),.f,.q] (y2 (Eq.refl ((s.size:Nat):Int)) (bp h1))
end gI
namespace bU
@[reducible] def fn:Func:=Tryz.f84
def br:List dI:=focus [0,2,0,0,2,1,2,0,0,0] [.code (aA fn)]
def inv1(s:ByteArray)(Q3:Int):St:=⟨[(0,(.pv (.str s))),(1,(eI Q3))],[]⟩
@[reducible] def ar(s:ByteArray)(Q3:Int)(r:PV):Prop:=L a7 fn br (inv1 s Q3) r
theorem e0(s:ByteArray)(i:Int)(a:Nat)(b:Bool)(h1:Cp 123 [(.str s),vI i] (.int .u8 (a:Int)))(h2:Cp 122 [(.int .u8 (a:Int))] (vB b))(h3:b=false):Cp 84 [(.str s),vI i] (vI i) :=
 eD func84 84 [1,1,1] [.q,.aQ [.o,.o,(.pv (.int .u8 (a:Int))),(.pv (vB b))],.t,.q] (y3 h1 h2 (aD h3))
theorem e1(s:ByteArray)(i:Int)(a:Nat)(b:Bool){r:PV}(h1:Cp 123 [(.str s),vI i] (.int .u8 (a:Int)))(h2:Cp 122 [(.int .u8 (a:Int))] (vB b))(h3:b=true)(hL:ar s i r):Cp 84 [(.str s),vI i] r :=
 eG func84 90 [1,1,1] [.q,.aQ [.o,.o,(.pv (.int .u8 (a:Int))),(.pv (vB b))],.f,.aH [0,1]] (y3 h1 h2 (ah h3)) hL
theorem dC(s:ByteArray)(b:Int)(c:Nat)(d:Bool){r:PV}(h1:Cp 123 [(.str s),vI b] (.int .u8 (c:Int)))(h2:Cp 122 [(.int .u8 (c:Int))] (vB d))(h3:d=true)(h4:aK (b+1))(hL:ar s (b+1) r):ar s b r :=
 lG 117 [1,1,1,1,1,1,1,1,1,1,1,1] [.a,.aQ [.o,.o,(.pv (.int .u8 (c:Int))),(.pv (vB d)),.o,.skip,.skip,.skip,.skip,(.dec true),.o,.skip,.skip,.skip,.skip],.a,.h 1 (iI (b+1)),.aH [0,1]] (Jl h1 h2 h3 h3 h3 h3 h3 (Eq.refl true) (Eq.refl true) (Eq.refl true) (Eq.refl true) (jP h4)) hL
theorem dD(s:ByteArray)(b:Int)(c:Nat)(d:Bool)(g:Nat)(i:Bool){r:PV}(h1:Cp 123 [(.str s),vI b] (.int .u8 (c:Int)))(h2:Cp 122 [(.int .u8 (c:Int))] (vB d))(h3:d=false)(h4:Cp 123 [(.str s),vI b] (.int .u8 (g:Int)))(h5:Cp 124 [(.int .u8 (g:Int))] (vB i))(h6:i=true)(h7:aK (b+1))(hL:ar s (b+1) r):ar s b r :=
 lG 117 [1,1,1,1,1,1,1,1,1,1,1,1,1,1,1] [.a,.aQ [.o,.o,(.pv (.int .u8 (c:Int))),(.pv (vB d)),.o,.o,.o,(.pv (.int .u8 (g:Int))),(.pv (vB i)),(.dec false),.o,.skip,.skip,.skip,.skip,(.dec true)],.a,.h 1 (iI (b+1)),.aH [0,1]] (J9 h1 h2 h3 h3 h3 h4 h3 h5 h3 h6 h6 h6 h6 h6 (jP h7)) hL
theorem kM(s:ByteArray)(b:Int)(c:Nat)(d:Bool)(g:Nat)(i:Bool)(j:Nat){r:PV}(h1:Cp 123 [(.str s),vI b] (.int .u8 (c:Int)))(h2:Cp 122 [(.int .u8 (c:Int))] (vB d))(h3:d=false)(h4:Cp 123 [(.str s),vI b] (.int .u8 (g:Int)))(h5:Cp 124 [(.int .u8 (g:Int))] (vB i))(h6:i=false)(h7:Cp 123 [(.str s),vI b] (.int .u8 (j:Int)))(h8:j=95)(h9:aK (b+1))(hL:ar s (b+1) r):ar s b r :=
 lG 117 [1,1,1,1,1,1,1,1,1,1,1,1,1,1,1,1,1] [.a,.aQ [.o,.o,(.pv (.int .u8 (c:Int))),(.pv (vB d)),.o,.o,.o,(.pv (.int .u8 (g:Int))),(.pv (vB i)),(.dec false),.o,.o,.o,(.pv (.int .u8 (j:Int))),.o,(.dec false)],.t,.h 1 (iI (b+1)),.aH [0,1]] (NA h1 h2 h3 h3 h3 h4 h3 h5 h3 h6 h6 h6 h7 h6 h6 (bd h8) (jP h9)) hL
theorem An(s:ByteArray)(b:Int)(c:Nat)(d:Bool)(g:Nat)(i:Bool)(j:Nat)(h1:Cp 123 [(.str s),vI b] (.int .u8 (c:Int)))(h2:Cp 122 [(.int .u8 (c:Int))] (vB d))(h3:d=false)(h4:Cp 123 [(.str s),vI b] (.int .u8 (g:Int)))(h5:Cp 124 [(.int .u8 (g:Int))] (vB i))(h6:i=false)(h7:Cp 123 [(.str s),vI b] (.int .u8 (j:Int)))(h8:j≠95):ar s b (vI b) :=
 lD 123 [1,1,1,1,1,1,1,1,1,1,1,1,1,1,1,1] [.a,.aQ [.o,.o,(.pv (.int .u8 (c:Int))),(.pv (vB d)),.o,.o,.o,(.pv (.int .u8 (g:Int))),(.pv (vB i)),(.dec false),.o,.o,.o,(.pv (.int .u8 (j:Int))),.o,(.dec false)],.f,.q] (Ka h1 h2 h3 h3 h3 h4 h3 h5 h3 h6 h6 h6 h7 h6 h6 (aR h8))
end bU
namespace ic
theorem e0(s:ByteArray)(a:Int)(h1:0<s.size)(h2:s.size≤24)(h3:Cp 84 [(.str s),vI 0] (vI a)):Cp 39 [(.str s)] (vB (a==(s.size:Int))) :=
 eD func39 72 [1,1,1,1,1,1,1,1,1,1,1,1,1,1] [.q,.aQ [.o,(iI (s.size:Int)),.o,.o,.o,(iI (s.size:Int)),.o,(.dec true),.o,.o,(.pv (vI a)),.o,(iI (s.size:Int)),.o,(.dec true)]] (Ga (Eq.refl ((s.size:Nat):Int)) (ay h1) (ay h1) (Eq.refl ((s.size:Nat):Int)) (ay h1) (ay h1) (bw h2) (bw h2) h3 (bw h2) (bw h2) (Eq.refl ((s.size:Nat):Int)) (bw h2) (bw h2))
theorem e1(s:ByteArray)(h1:0<s.size)(h2:24<s.size):Cp 39 [(.str s)] (vB false) :=
 eD func39 72 [1,1,1,1,1,1,1,1,1,1,1,1] [.q,.aQ [.o,(iI (s.size:Int)),.o,.o,.o,(iI (s.size:Int)),.o,(.dec true),.o,.skip,.skip,.skip,.skip,.skip,(.dec false)]] (Jl (Eq.refl ((s.size:Nat):Int)) (ay h1) (ay h1) (Eq.refl ((s.size:Nat):Int)) (ay h1) (ay h1) (aX h2) (aX h2) (aX h2) (aX h2) (aX h2) (aX h2))
theorem e2(s:ByteArray)(h1:s.size≤0):Cp 39 [(.str s)] (vB false) :=
 eD func39 72 [1,1,1,1,1,1,1,1,1,1] [.q,.aQ [.o,(iI (s.size:Int)),.o,.o,.skip,.skip,.skip,(.dec false),.o,.skip,.skip,.skip,.skip,.skip]] (wh (Eq.refl ((s.size:Nat):Int)) (az h1) (az h1) (az h1) (az h1) (Eq.refl false) (Eq.refl false) (Eq.refl false) (Eq.refl false) (Eq.refl false))
end ic
namespace jU
theorem e0(i n:Int)(h1:0≤i):Cp 86 [vI i,vI n] (vB (decide (i<n))) :=
 eD func86 72 [1,1,1,1] [.q,.h 6 (.dec true)] (y4 (eM h1) (eM h1) (eM h1) (eM h1))
theorem e1(i n:Int)(h1:i<0):Cp 86 [vI i,vI n] (vB false) :=
 eD func86 72 [1,1,1,1] [.q,.aQ [.o,.o,.o,.skip,.skip,.skip,(.dec false)]] (y4 (jI h1) (jI h1) (jI h1) (jI h1))
end jU
namespace bD
@[reducible] def fn:Func:=Tryz.f85
def br:List dI:=focus [0,2,0,0,2,1,2,0,0,2,0,0] [.code (aA fn)]
def inv1(vy:Nat)(b:ab):St:=⟨[(1,(.ptr 1 0)),(3,(eI (vy:Int)))],[(1,(.lit [(.pv (.str b.name)),(.pv (aZ au.cells b.points))]))]⟩
@[reducible] def ar(vy:Nat)(b:ab)(r:PV):Prop:=L a7 fn br (inv1 vy b) r
def fP:List dI:=focus [0,2,0,0,2,1,2,0,0,2,0,0,0,0,0,2,0,2,0,0,0,2,0,0,2,1,2,0,0,2,0,0] [.code (aA fn)]
def inv2(vy Q4:Nat)(b:ab)(v:au):St:=⟨[(1,(.ptr 1 0)),(3,(eI (vy:Int))),(4,(.ptr 4 0)),(5,(eI (Q4:Int)))],[(1,(.lit [(.pv (.str b.name)),(.pv (aZ au.cells b.points))])),(4,(.lit [(.pv (.str v.name)),(eB v.x.neg),(.pv (ae v.x.num)),(.pv (ae v.x.den)),(eB v.y.neg),(.pv (ae v.y.num)),(.pv (ae v.y.den))]))]⟩
@[reducible] def aJ(vy Q4:Nat)(b:ab)(v:au)(r:PV):Prop:=L a7 fn fP (inv2 vy Q4 b v) r
theorem e0(b:ab)(h1:8<b.points.length):Cp 85 [b.pv] (vI 4) :=
 eD func85 84 [1,1] [.q,.h 2 (iI (b.points.length:Int)),.t,.q] (y2 (av au.cells b.points) (ay h1))
theorem e1(b:ab){r:PV}(h1:b.points.length≤8)(hL:ar 0 b r):Cp 85 [b.pv] r :=
 eG func85 96 [1,1] [.q,.h 2 (iI (b.points.length:Int)),.f,.q,.aH [1,3]] (y2 (av au.cells b.points) (az h1)) hL
theorem dC(c:Nat)(b:ab)(v:au)(d:Bool)(h1:c<b.points.length)(h2:b.points[c]? = some v)(h3:Cp 39 [(.str v.name)] (vB d))(h4:d=false):ar c b (vI 5) :=
 lD 144 [1,1,3,1,1] [.a,.h 3 (iI (b.points.length:Int)),.t,.h 3 (.row c (au.cells v)),.h 2 (.pv (vB d)),.t,.q] (y5 (av au.cells b.points) (ay h1) (aL au.cells (Eq.refl (((c:Nat):Int):Int)) h2) h3 (aD h4))
theorem dD(c:Nat)(b:ab)(v:au)(d:Bool){r:PV}(h1:c<b.points.length)(h2:b.points[c]? = some v)(h3:Cp 39 [(.str v.name)] (vB d))(h4:d=true)(hL:aJ c 0 b v r):ar c b r :=
 lG 156 [1,1,3,1,1] [.a,.h 3 (iI (b.points.length:Int)),.t,.h 3 (.row c (au.cells v)),.h 2 (.pv (vB d)),.f,.q,.aH [1,3,4,5],.ord [1,4]] (y5 (av au.cells b.points) (ay h1) (aL au.cells (Eq.refl (((c:Nat):Int):Int)) h2) h3 (ah h4)) hL
theorem kM(c:Nat)(b:ab)(h1:b.points.length≤c):ar c b (vI 0) :=
 lD 129 [1,1] [.a,.h 3 (iI (b.points.length:Int)),.f,.q] (y2 (av au.cells b.points) (az h1))
theorem nK(c d:Nat)(b:ab)(v v1:au)(h1:d<c)(h2:b.points[d]? = some v1)(h3:v1.name=v.name):aJ c d b v (vI 6) :=
 lD 195 [1,3,1] [.a,.q,.t,dr 9 0 [.none,.none,.none,(.row d (au.cells v1))],.t,.q] (y3 (ay h1) (aL au.cells (Eq.refl (((d:Nat):Int):Int)) h2) (aM h3))
theorem nL(c d:Nat)(b:ab)(v v1:au){r:PV}(h1:d<c)(h2:b.points[d]? = some v1)(h3:v1.name≠v.name)(h4:(d+1)<9223372036854775808)(hL:aJ c (d+1) b v r):aJ c d b v r :=
 lG 198 [1,3,1,1] [.a,.q,.t,dr 9 0 [.none,.none,.none,(.row d (au.cells v1))],.f,.h 1 (iI (((d+1):Nat):Int)),.aH [1,3,4,5]] (y4 (ay h1) (aL au.cells (Eq.refl (((d:Nat):Int):Int)) h2) (bG h3) (aI h4)) hL
theorem vv(c d:Nat)(b:ab)(v:au)(g:Bool)(h1:c≤d)(h2:Cp 15 [v.x.pv] (vB g))(h3:g=false):aJ c d b v (vI 3) :=
 lD 198 [1,1,1,1,1,1,1] [.a,.q,.f,.aQ [.o,.o,(.pv (vB g)),.o,.o,.skip,.skip,.skip,.skip,(.dec true)],.a,.q] (y7 (az h1) h2 (aD h3) (aD h3) (aD h3) (aD h3) (aD h3))
theorem HY(c d:Nat)(b:ab)(v:au)(g i:Bool)(h1:c≤d)(h2:Cp 15 [v.x.pv] (vB g))(h3:g=true)(h4:Cp 15 [v.y.pv] (vB i))(h5:i=false):aJ c d b v (vI 3) :=
 lD 198 [1,1,1,1,1,1,1,1,1] [.a,.q,.f,.aQ [.o,.o,(.pv (vB g)),.o,.o,.o,.o,(.pv (vB i)),.o,(.dec false)],.t,.q] (y9 (az h1) h2 (ah h3) (ah h3) (ah h3) h4 (ah h3) (ah h3) (aD h5))
theorem NB(c d:Nat)(b:ab)(v:au)(g i:Bool){r:PV}(h1:c≤d)(h2:Cp 15 [v.x.pv] (vB g))(h3:g=true)(h4:Cp 15 [v.y.pv] (vB i))(h5:i=true)(h6:(c+1)<9223372036854775808)(hL:ar (c+1) b r):aJ c d b v r :=
 lG 201 [1,1,1,1,1,1,1,1,1,1] [.a,.q,.f,.aQ [.o,.o,(.pv (vB g)),.o,.o,.o,.o,(.pv (vB i)),.o,(.dec false)],.f,.h 1 (iI (((c+1):Nat):Int)),.aH [1,3],.drop [4]] (wh (az h1) h2 (ah h3) (ah h3) (ah h3) h4 (ah h3) (ah h3) (ah h5) (aI h6)) hL
end bD
namespace bS
@[reducible] def fn:Func:=Tryz.f40
def br:List dI:=focus [0,2,0,0,2,0,0] [.code (aA fn)]
def inv1(vy:Nat)(l:aj):St:=⟨[(1,(.ptr 1 0)),(3,(eI (vy:Int)))],[(1,(.lit [(.pv (.str l.name)),(.pv (aZ ab.cells l.aa)),(.pv (aZ ag.cells l.an)),(.pv (aZ af.cells l.ak))]))]⟩
@[reducible] def ar(vy:Nat)(l:aj)(r:PV):Prop:=L a7 fn br (inv1 vy l) r
def fP:List dI:=focus [0,2,0,0,2,0,0,0,0,0,2,0,2,0,0,0,0,2,1,2,0,0,2,0,0] [.code (aA fn)]
def inv2(vy My:Nat)(l:aj):St:=⟨[(1,(.ptr 1 0)),(3,(eI (vy:Int))),(4,(eI (My:Int)))],[(1,(.lit [(.pv (.str l.name)),(.pv (aZ ab.cells l.aa)),(.pv (aZ ag.cells l.an)),(.pv (aZ af.cells l.ak))]))]⟩
@[reducible] def aJ(vy My:Nat)(l:aj)(r:PV):Prop:=L a7 fn fP (inv2 vy My l) r
theorem e0 (l : aj) {r : PV}  (hL : ar 0 l r) : Cp 40 [l.pv] r :=
 eG func40 81 [] [.q,.q,.aH [1,3]] True.intro hL
theorem dC(b:Nat)(l:aj)(v:ab)(c:Bool)(h1:b<l.aa.length)(h2:l.aa[b]? = some v)(h3:Cp 39 [(.str v.name)] (vB c))(h4:c=false):ar b l (vI 5) :=
 lD 123 [1,1,3,1,1] [.a,.h 3 (iI (l.aa.length:Int)),.t,.aQ [.o,.o,.o,(.row b (ab.cells v)),.o,.o,(.pv (vB c))],.t,.q] (y5 (av ab.cells l.aa) (ay h1) (aL ab.cells (Eq.refl (((b:Nat):Int):Int)) h2) h3 (aD h4))
theorem dD(b:Nat)(l:aj)(v:ab)(c:Bool){r:PV}(h1:b<l.aa.length)(h2:l.aa[b]? = some v)(h3:Cp 39 [(.str v.name)] (vB c))(h4:c=true)(hL:aJ b 0 l r):ar b l r :=
 lG 135 [1,1,3,1,1] [.a,.h 3 (iI (l.aa.length:Int)),.t,.aQ [.o,.o,.o,(.row b (ab.cells v)),.o,.o,(.pv (vB c))],.f,.q,.aH [1,3,4]] (y5 (av ab.cells l.aa) (ay h1) (aL ab.cells (Eq.refl (((b:Nat):Int):Int)) h2) h3 (ah h4)) hL
theorem kM(b:Nat)(l:aj)(h1:l.aa.length≤b):ar b l (vI 0) :=
 lD 114 [1,1] [.a,.h 3 (iI (l.aa.length:Int)),.f,.q] (y2 (av ab.cells l.aa) (az h1))
theorem nK(b c:Nat)(l:aj)(v v1:ab)(h1:c<b)(h2:l.aa[c]? = some v)(h3:l.aa[b]? = some v1)(h4:v.name=v1.name):aJ b c l (vI 6) :=
 lD 174 [1,3,3,1] [.a,.q,.t,dr 13 0 [.none,.none,.none,(.row c (ab.cells v)),.none,.none,.none,.none,.none,(.row b (ab.cells v1))],.t,.q] (y4 (ay h1) (aL ab.cells (Eq.refl (((c:Nat):Int):Int)) h2) (aL ab.cells (Eq.refl (((b:Nat):Int):Int)) h3) (aM h4))
theorem nL(b c:Nat)(l:aj)(v v1:ab){r:PV}(h1:c<b)(h2:l.aa[c]? = some v)(h3:l.aa[b]? = some v1)(h4:v.name≠v1.name)(h5:(c+1)<9223372036854775808)(hL:aJ b (c+1) l r):aJ b c l r :=
 lG 177 [1,3,3,1,1] [.a,.q,.t,dr 13 0 [.none,.none,.none,(.row c (ab.cells v)),.none,.none,.none,.none,.none,(.row b (ab.cells v1))],.f,.h 1 (iI (((c+1):Nat):Int)),.aH [1,3,4]] (y5 (ay h1) (aL ab.cells (Eq.refl (((c:Nat):Int):Int)) h2) (aL ab.cells (Eq.refl (((b:Nat):Int):Int)) h3) (bG h4) (aI h5)) hL
theorem vv(b c:Nat)(l:aj)(v:ab)(d:Int)(h1:b≤c)(h2:l.aa[b]? = some v)(h3:Cp 85 [v.pv] (vI d))(h4:d≠0):aJ b c l (vI d) :=
 lD 183 [1,3,1,1] [.a,.q,.f,.aQ [.o,.o,.o,(.row b (ab.cells v)),.o,(.pv (vI d))],.q,.t,.q] (y4 (az h1) (aL ab.cells (Eq.refl (((b:Nat):Int):Int)) h2) h3 (ba h4))
theorem HY(b c:Nat)(l:aj)(v:ab)(d:Int){r:PV}(h1:b≤c)(h2:l.aa[b]? = some v)(h3:Cp 85 [v.pv] (vI d))(h4:d=0)(h5:(b+1)<9223372036854775808)(hL:ar (b+1) l r):aJ b c l r :=
 lG 186 [1,3,1,1,1] [.a,.q,.f,.aQ [.o,.o,.o,(.row b (ab.cells v)),.o,(.pv (vI d))],.q,.f,.h 1 (iI (((b+1):Nat):Int)),.aH [1,3]] (y5 (az h1) (aL ab.cells (Eq.refl (((b:Nat):Int):Int)) h2) h3 (aS h4) (aI h5)) hL
end bS
namespace ko
theorem e0(p q:au)(a b:Int)(h1:Cp 125 [p.x.pv,q.x.pv] (vI a))(h2:a=0)(h3:Cp 125 [p.y.pv,q.y.pv] (vI b)):Cp 87 [p.pv,q.pv] (vB (b==0)) :=
 eD func87 72 [1,1,1,1,1,1,1,1,1] [.q,.aQ [.o,.o,.o,.o,(.pv (vI a)),.o,.o,.o,.o,.o,.o,(.pv (vI b)),.o,(.dec true)]] (y9 h1 (bA h2) (bA h2) (bA h2) (bA h2) (bA h2) h3 (bA h2) (bA h2))
theorem e1(p q:au)(a:Int)(h1:Cp 125 [p.x.pv,q.x.pv] (vI a))(h2:a≠0):Cp 87 [p.pv,q.pv] (vB false) :=
 eD func87 72 [1,1,1,1,1,1,1,1] [.q,.aQ [.o,.o,.o,.o,(.pv (vI a)),.o,.o,.skip,.skip,.skip,.skip,.skip,.skip,(.dec false)]] (y8 h1 (bm h2) (bm h2) (bm h2) (bm h2) (bm h2) (bm h2) (bm h2))
end ko
namespace aV
@[reducible] def fn:Func:=Tryz.f41
def br:List dI:=focus [0,2,0,2,0,0,2,1,2,0,0,2,0,0] [.code (aA fn)]
def inv1(i:Int)(H4:Nat)(l:aj)(v:ag):St:=⟨[(1,(eI i)),(2,(.ptr 2 0)),(5,(.ptr 5 0)),(6,(eI (H4:Int)))],[(2,(.lit [(.pv (.str l.name)),(.pv (aZ ab.cells l.aa)),(.pv (aZ ag.cells l.an)),(.pv (aZ af.cells l.ak))])),(5,(.lit [(.pv (.str v.name)),(eI v.kind),(eI v.a),(eI v.bq),(eI v.b),(eI v.fD),(eI v.fj)]))]⟩
@[reducible] def ar(i:Int)(H4:Nat)(l:aj)(v:ag)(r:PV):Prop:=L a7 fn br (inv1 i H4 l v) r
theorem e0(l:aj)(i:Int)(k:Nat)(v:ag)(a:Bool)(h1:i=(k:Int))(h2:l.an[k]? = some v)(h3:Cp 39 [(.str v.name)] (vB a))(h4:a=false):Cp 41 [l.pv,vI i] (vI 5) :=
 eD func41 90 [3,1,1] [.q,.h 3 (.row k (ag.cells v)),.h 2 (.pv (vB a)),.t,.q] (y3 (aL ag.cells h1 h2) h3 (aD h4))
theorem e1(l:aj)(i:Int)(k:Nat)(v:ag)(a:Bool){r:PV}(h1:i=(k:Int))(h2:l.an[k]? = some v)(h3:Cp 39 [(.str v.name)] (vB a))(h4:a=true)(hL:ar i 0 l v r):Cp 41 [l.pv,vI i] r :=
 eG func41 102 [3,1,1] [.q,.h 3 (.row k (ag.cells v)),.h 2 (.pv (vB a)),.f,.q,.aH [1,2,5,6],.ord [2,5]] (y3 (aL ag.cells h1 h2) h3 (ah h4)) hL
theorem dC(i:Int)(b:Nat)(l:aj)(v v1:ag)(h1:(b:Int)<i)(h2:l.an[b]? = some v1)(h3:v1.name=v.name):ar i b l v (vI 6) :=
 lD 141 [1,3,1] [.a,.q,.t,dr 9 0 [.none,.none,.none,(.row b (ag.cells v1))],.t,.q] (y3 (bf h1) (aL ag.cells (Eq.refl (((b:Nat):Int):Int)) h2) (aM h3))
theorem dD(i:Int)(b:Nat)(l:aj)(v v1:ag){r:PV}(h1:(b:Int)<i)(h2:l.an[b]? = some v1)(h3:v1.name≠v.name)(h4:(b+1)<9223372036854775808)(hL:ar i (b+1) l v r):ar i b l v r :=
 lG 144 [1,3,1,1] [.a,.q,.t,dr 9 0 [.none,.none,.none,(.row b (ag.cells v1))],.f,.h 1 (iI (((b+1):Nat):Int)),.aH [1,2,5,6]] (y4 (bf h1) (aL ag.cells (Eq.refl (((b:Nat):Int):Int)) h2) (bG h3) (aI h4)) hL
theorem kM(i:Int)(b:Nat)(l:aj)(v:ag)(h1:i≤(b:Int))(h2:v.kind≠0)(h3:v.kind≠1):ar i b l v (vI 7) :=
 lD 147 [1,1,1,1,1,1] [.a,.q,.f,.h 7 (.dec true),.t,.q] (y6 (bp h1) (ba h2) (ba h2) (ba h2) (ba h2) (ba h3))
theorem An(i:Int)(b:Nat)(l:aj)(v:ag)(c:Bool)(h1:i≤(b:Int))(h2:v.kind≠0)(h3:v.kind=1)(h4:Cp 86 [vI v.a,(vI (l.aa.length:Int))] (vB c))(h5:c=false):ar i b l v (vI 9) :=
 lD 162 [1,1,1,1,1,1,1,1,1,1,1,1,1,1,1,1] [.a,.q,.f,.h 7 (.dec true),.f,.aQ [.o,.o,.o,.o,(iI (l.aa.length:Int)),(.pv (vB c)),.o,.o,.skip,.skip,.skip,.skip,.skip,.skip,.skip,(.dec true)],.a,.q] (Ka (bp h1) (ba h2) (ba h2) (ba h2) (ba h2) (aS h3) (av ab.cells l.aa) h4 (aD h5) (aD h5) (aD h5) (aD h5) (aD h5) (aD h5) (aD h5) (aD h5))
theorem OA(i:Int)(c:Nat)(l:aj)(v:ag)(d g:Bool)(h1:i≤(c:Int))(h2:v.kind≠0)(h3:v.kind=1)(h4:Cp 86 [vI v.a,(vI (l.aa.length:Int))] (vB d))(h5:d=true)(h6:Cp 86 [vI v.b,(vI (l.aa.length:Int))] (vB g))(h7:g=false):ar i c l v (vI 9) :=
 lD 162 [1,1,1,1,1,1,1,1,1,1,1,1,1,1,1,1,1,1,1] [.a,.q,.f,.h 7 (.dec true),.f,.aQ [.o,.o,.o,.o,(iI (l.aa.length:Int)),(.pv (vB d)),.o,.o,.o,.o,.o,.o,(iI (l.aa.length:Int)),(.pv (vB g)),.o,(.dec false)],.t,.q] (Ot (bp h1) (ba h2) (ba h2) (ba h2) (ba h2) (aS h3) (av ab.cells l.aa) h4 (ah h5) (ah h5) (ah h5) (ah h5) (ah h5) (av ab.cells l.aa) (ah h5) h6 (ah h5) (ah h5) (aD h7))
theorem Um(i:Int)(c:Nat)(l:aj)(v:ag)(d g:Bool)(h1:i≤(c:Int))(h2:v.kind≠0)(h3:v.kind=1)(h4:Cp 86 [vI v.a,(vI (l.aa.length:Int))] (vB d))(h5:d=true)(h6:Cp 86 [vI v.b,(vI (l.aa.length:Int))] (vB g))(h7:g=true)(h8:v.a=v.b):ar i c l v (vI 13) :=
 lD 177 [1,1,1,1,1,1,1,1,1,1,1,1,1,1,1,1,1,1,1,1] [.a,.q,.f,.h 7 (.dec true),.f,.aQ [.o,.o,.o,.o,(iI (l.aa.length:Int)),(.pv (vB d)),.o,.o,.o,.o,.o,.o,(iI (l.aa.length:Int)),(.pv (vB g)),.o,(.dec false)],.f,.q,.t,.q] (Pw (bp h1) (ba h2) (ba h2) (ba h2) (ba h2) (aS h3) (av ab.cells l.aa) h4 (ah h5) (ah h5) (ah h5) (ah h5) (ah h5) (av ab.cells l.aa) (ah h5) h6 (ah h5) (ah h5) (ah h7) (bA h8))
theorem Un(i:Int)(c:Nat)(l:aj)(v:ag)(d g:Bool)(k:Nat)(v1:ab)(k1:Nat)(v2:ab)(j:Bool)(h1:i≤(c:Int))(h2:v.kind≠0)(h3:v.kind=1)(h4:Cp 86 [vI v.a,(vI (l.aa.length:Int))] (vB d))(h5:d=true)(h6:Cp 86 [vI v.b,(vI (l.aa.length:Int))] (vB g))(h7:g=true)(h8:v.a≠v.b)(h9:v.a=(k:Int))(bQ:l.aa[k]? = some v1)(cW:v.b=(k1:Int))(cP:l.aa[k1]? = some v2)(cD:Cp 86 [vI v.bq,(vI (v1.points.length:Int))] (vB j))(en:j=false):ar i c l v (vI 9) :=
 lD 198 [1,1,1,1,1,1,1,1,1,1,1,1,1,1,1,1,1,1,1,1,3,3,1,1,1,1,1,1,1,1,1] [.a,.q,.f,.h 7 (.dec true),.f,.aQ [.o,.o,.o,.o,(iI (l.aa.length:Int)),(.pv (vB d)),.o,.o,.o,.o,.o,.o,(iI (l.aa.length:Int)),(.pv (vB g)),.o,(.dec false)],.f,.q,.f,dr 15 1 [.none,.none,.none,.none,(.row k (ab.cells v1)),.none,.none,.none,.none,.none,.none,(.row k1 (ab.cells v2))],.aQ [.o,.o,.o,(iI (v1.points.length:Int)),(.pv (vB j)),.o,.o,.skip,.skip,.skip,.skip,.skip,.skip,(.dec true)],.a,.q] (Pz (bp h1) (ba h2) (ba h2) (ba h2) (ba h2) (aS h3) (av ab.cells l.aa) h4 (ah h5) (ah h5) (ah h5) (ah h5) (ah h5) (av ab.cells l.aa) (ah h5) h6 (ah h5) (ah h5) (ah h7) (bm h8) (aL ab.cells h9 bQ) (aL ab.cells cW cP) (av au.cells v1.points) cD (aD en) (aD en) (aD en) (aD en) (aD en) (aD en) (aD en))
theorem Uo(i:Int)(c:Nat)(l:aj)(v:ag)(d g:Bool)(k:Nat)(v1:ab)(k1:Nat)(v2:ab)(j m:Bool)(h1:i≤(c:Int))(h2:v.kind≠0)(h3:v.kind=1)(h4:Cp 86 [vI v.a,(vI (l.aa.length:Int))] (vB d))(h5:d=true)(h6:Cp 86 [vI v.b,(vI (l.aa.length:Int))] (vB g))(h7:g=true)(h8:v.a≠v.b)(h9:v.a=(k:Int))(bQ:l.aa[k]? = some v1)(cW:v.b=(k1:Int))(cP:l.aa[k1]? = some v2)(cD:Cp 86 [vI v.bq,(vI (v1.points.length:Int))] (vB j))(en:j=true)(jw:Cp 86 [vI v.fD,(vI (v2.points.length:Int))] (vB m))(gu:m=false):ar i c l v (vI 9) :=
 lD 198 [1,1,1,1,1,1,1,1,1,1,1,1,1,1,1,1,1,1,1,1,3,3,1,1,1,1,1,1,1,1,1,1,1,1] [.a,.q,.f,.h 7 (.dec true),.f,.aQ [.o,.o,.o,.o,(iI (l.aa.length:Int)),(.pv (vB d)),.o,.o,.o,.o,.o,.o,(iI (l.aa.length:Int)),(.pv (vB g)),.o,(.dec false)],.f,.q,.f,dr 15 1 [.none,.none,.none,.none,(.row k (ab.cells v1)),.none,.none,.none,.none,.none,.none,(.row k1 (ab.cells v2))],.aQ [.o,.o,.o,(iI (v1.points.length:Int)),(.pv (vB j)),.o,.o,.o,.o,.o,(iI (v2.points.length:Int)),(.pv (vB m)),.o,(.dec false)],.t,.q] (PA (bp h1) (ba h2) (ba h2) (ba h2) (ba h2) (aS h3) (av ab.cells l.aa) h4 (ah h5) (ah h5) (ah h5) (ah h5) (ah h5) (av ab.cells l.aa) (ah h5) h6 (ah h5) (ah h5) (ah h7) (bm h8) (aL ab.cells h9 bQ) (aL ab.cells cW cP) (av au.cells v1.points) cD (ah en) (ah en) (ah en) (ah en) (av au.cells v2.points) (ah en) jw (ah en) (ah en) (aD gu))
theorem Q5(i:Int)(c:Nat)(l:aj)(v:ag)(d g:Bool)(k:Nat)(v1:ab)(k1:Nat)(v2:ab)(j m n:Bool)(h1:i≤(c:Int))(h2:v.kind≠0)(h3:v.kind=1)(h4:Cp 86 [vI v.a,(vI (l.aa.length:Int))] (vB d))(h5:d=true)(h6:Cp 86 [vI v.b,(vI (l.aa.length:Int))] (vB g))(h7:g=true)(h8:v.a≠v.b)(h9:v.a=(k:Int))(bQ:l.aa[k]? = some v1)(cW:v.b=(k1:Int))(cP:l.aa[k1]? = some v2)(cD:Cp 86 [vI v.bq,(vI (v1.points.length:Int))] (vB j))(en:j=true)(jw:Cp 86 [vI v.fD,(vI (v2.points.length:Int))] (vB m))(gu:m=true)(pC:Cp 86 [vI v.fj,(vI (v2.points.length:Int))] (vB n))(rL:n=false):ar i c l v (vI 9) :=
 lD 228 [1,1,1,1,1,1,1,1,1,1,1,1,1,1,1,1,1,1,1,1,3,3,1,1,1,1,1,1,1,1,1,1,1,1,1,1,1,1] [.a,.q,.f,.h 7 (.dec true),.f,.aQ [.o,.o,.o,.o,(iI (l.aa.length:Int)),(.pv (vB d)),.o,.o,.o,.o,.o,.o,(iI (l.aa.length:Int)),(.pv (vB g)),.o,(.dec false)],.f,.q,.f,dr 15 1 [.none,.none,.none,.none,(.row k (ab.cells v1)),.none,.none,.none,.none,.none,.none,(.row k1 (ab.cells v2))],.aQ [.o,.o,.o,(iI (v1.points.length:Int)),(.pv (vB j)),.o,.o,.o,.o,.o,(iI (v2.points.length:Int)),(.pv (vB m)),.o,(.dec false)],.f,.q,.f,.aQ [.o,.o,.o,(iI (v2.points.length:Int)),(.pv (vB n))],.t,.q] (Ua (bp h1) (ba h2) (ba h2) (ba h2) (ba h2) (aS h3) (av ab.cells l.aa) h4 (ah h5) (ah h5) (ah h5) (ah h5) (ah h5) (av ab.cells l.aa) (ah h5) h6 (ah h5) (ah h5) (ah h7) (bm h8) (aL ab.cells h9 bQ) (aL ab.cells cW cP) (av au.cells v1.points) cD (ah en) (ah en) (ah en) (ah en) (av au.cells v2.points) (ah en) jw (ah en) (ah en) (ah gu) (bm h2) (av au.cells v2.points) pC (aD rL))
theorem Q6(i:Int)(c:Nat)(l:aj)(v:ag)(d g:Bool)(k:Nat)(v1:ab)(k1:Nat)(v2:ab)(j m n:Bool)(k2:Nat)(v3:au)(k3:Nat)(v4:au)(p:Bool)(h1:i≤(c:Int))(h2:v.kind≠0)(h3:v.kind=1)(h4:Cp 86 [vI v.a,(vI (l.aa.length:Int))] (vB d))(h5:d=true)(h6:Cp 86 [vI v.b,(vI (l.aa.length:Int))] (vB g))(h7:g=true)(h8:v.a≠v.b)(h9:v.a=(k:Int))(bQ:l.aa[k]? = some v1)(cW:v.b=(k1:Int))(cP:l.aa[k1]? = some v2)(cD:Cp 86 [vI v.bq,(vI (v1.points.length:Int))] (vB j))(en:j=true)(jw:Cp 86 [vI v.fD,(vI (v2.points.length:Int))] (vB m))(gu:m=true)(pC:Cp 86 [vI v.fj,(vI (v2.points.length:Int))] (vB n))(rL:n=true)(pw:v.fD=(k2:Int))(sX:v2.points[k2]? = some v3)(Bi:v.fj=(k3:Int))(Bj:v2.points[k3]? = some v4)(uy:Cp 87 [v3.pv,v4.pv] (vB p))(Fi:p=true):ar i c l v (vI 8) :=
 lD 243 [1,1,1,1,1,1,1,1,1,1,1,1,1,1,1,1,1,1,1,1,3,3,1,1,1,1,1,1,1,1,1,1,1,1,1,1,1,1,3,3,1,1] [.a,.q,.f,.h 7 (.dec true),.f,.aQ [.o,.o,.o,.o,(iI (l.aa.length:Int)),(.pv (vB d)),.o,.o,.o,.o,.o,.o,(iI (l.aa.length:Int)),(.pv (vB g)),.o,(.dec false)],.f,.q,.f,dr 15 1 [.none,.none,.none,.none,(.row k (ab.cells v1)),.none,.none,.none,.none,.none,.none,(.row k1 (ab.cells v2))],.aQ [.o,.o,.o,(iI (v1.points.length:Int)),(.pv (vB j)),.o,.o,.o,.o,.o,(iI (v2.points.length:Int)),(.pv (vB m)),.o,(.dec false)],.f,.q,.f,.aQ [.o,.o,.o,(iI (v2.points.length:Int)),(.pv (vB n))],.f,dr 11 0 [.none,.none,.none,(.row k2 (au.cells v3)),.none,.none,.none,.none,(.row k3 (au.cells v4)),.none,(.pv (vB p))],.t,.q] (cj (bp h1) (cj (ba h2) (Kc (ba h2) (ba h2) (ba h2) (aS h3) (av ab.cells l.aa) h4 (ah h5) (ah h5) (ah h5) (ah h5) (ah h5) (av ab.cells l.aa) (ah h5) h6 (ah h5) (ah h5) (ah h7) (bm h8) (aL ab.cells h9 bQ) (aL ab.cells cW cP) (av au.cells v1.points) cD (ah en) (ah en) (ah en) (ah en) (av au.cells v2.points) (ah en) jw (ah en) (ah en) (ah gu) (bm h2) (av au.cells v2.points) pC (ah rL) (aL au.cells pw sX) (aL au.cells Bi Bj) uy Fi)))
theorem Q7(i:Int)(c:Nat)(l:aj)(v:ag)(d g:Bool)(k:Nat)(v1:ab)(k1:Nat)(v2:ab)(j m n:Bool)(k2:Nat)(v3:au)(k3:Nat)(v4:au)(p:Bool)(h1:i≤(c:Int))(h2:v.kind≠0)(h3:v.kind=1)(h4:Cp 86 [vI v.a,(vI (l.aa.length:Int))] (vB d))(h5:d=true)(h6:Cp 86 [vI v.b,(vI (l.aa.length:Int))] (vB g))(h7:g=true)(h8:v.a≠v.b)(h9:v.a=(k:Int))(bQ:l.aa[k]? = some v1)(cW:v.b=(k1:Int))(cP:l.aa[k1]? = some v2)(cD:Cp 86 [vI v.bq,(vI (v1.points.length:Int))] (vB j))(en:j=true)(jw:Cp 86 [vI v.fD,(vI (v2.points.length:Int))] (vB m))(gu:m=true)(pC:Cp 86 [vI v.fj,(vI (v2.points.length:Int))] (vB n))(rL:n=true)(pw:v.fD=(k2:Int))(sX:v2.points[k2]? = some v3)(Bi:v.fj=(k3:Int))(Bj:v2.points[k3]? = some v4)(uy:Cp 87 [v3.pv,v4.pv] (vB p))(Fi:p=false):ar i c l v (vI 0) :=
 lD 246 [1,1,1,1,1,1,1,1,1,1,1,1,1,1,1,1,1,1,1,1,3,3,1,1,1,1,1,1,1,1,1,1,1,1,1,1,1,1,3,3,1,1] [.a,.q,.f,.h 7 (.dec true),.f,.aQ [.o,.o,.o,.o,(iI (l.aa.length:Int)),(.pv (vB d)),.o,.o,.o,.o,.o,.o,(iI (l.aa.length:Int)),(.pv (vB g)),.o,(.dec false)],.f,.q,.f,dr 15 1 [.none,.none,.none,.none,(.row k (ab.cells v1)),.none,.none,.none,.none,.none,.none,(.row k1 (ab.cells v2))],.aQ [.o,.o,.o,(iI (v1.points.length:Int)),(.pv (vB j)),.o,.o,.o,.o,.o,(iI (v2.points.length:Int)),(.pv (vB m)),.o,(.dec false)],.f,.q,.f,.aQ [.o,.o,.o,(iI (v2.points.length:Int)),(.pv (vB n))],.f,dr 11 0 [.none,.none,.none,(.row k2 (au.cells v3)),.none,.none,.none,.none,(.row k3 (au.cells v4)),.none,(.pv (vB p))],.f,.q] (cj (bp h1) (cj (ba h2) (Kc (ba h2) (ba h2) (ba h2) (aS h3) (av ab.cells l.aa) h4 (ah h5) (ah h5) (ah h5) (ah h5) (ah h5) (av ab.cells l.aa) (ah h5) h6 (ah h5) (ah h5) (ah h7) (bm h8) (aL ab.cells h9 bQ) (aL ab.cells cW cP) (av au.cells v1.points) cD (ah en) (ah en) (ah en) (ah en) (av au.cells v2.points) (ah en) jw (ah en) (ah en) (ah gu) (bm h2) (av au.cells v2.points) pC (ah rL) (aL au.cells pw sX) (aL au.cells Bi Bj) uy Fi)))
theorem Q8(i:Int)(b:Nat)(l:aj)(v:ag)(c:Bool)(h1:i≤(b:Int))(h2:v.kind=0)(h3:Cp 86 [vI v.a,(vI (l.aa.length:Int))] (vB c))(h4:c=false):ar i b l v (vI 9) :=
 lD 162 [1,1,1,1,1,1,1,1,1,1,1,1,1,1,1] [.a,.q,.f,.aQ [.o,.o,.o,.o,.skip,.skip,.skip,(.dec false)],.a,.aQ [.o,.o,.o,.o,(iI (l.aa.length:Int)),(.pv (vB c)),.o,.o,.skip,.skip,.skip,.skip,.skip,.skip,.skip,(.dec true)],.a,.q] (J9 (bp h1) (aS h2) (aS h2) (aS h2) (aS h2) (av ab.cells l.aa) h3 (aD h4) (aD h4) (aD h4) (aD h4) (aD h4) (aD h4) (aD h4) (aD h4))
theorem Q9(i:Int)(c:Nat)(l:aj)(v:ag)(d g:Bool)(h1:i≤(c:Int))(h2:v.kind=0)(h3:Cp 86 [vI v.a,(vI (l.aa.length:Int))] (vB d))(h4:d=true)(h5:Cp 86 [vI v.b,(vI (l.aa.length:Int))] (vB g))(h6:g=false):ar i c l v (vI 9) :=
 lD 162 [1,1,1,1,1,1,1,1,1,1,1,1,1,1,1,1,1,1] [.a,.q,.f,.aQ [.o,.o,.o,.o,.skip,.skip,.skip,(.dec false)],.a,.aQ [.o,.o,.o,.o,(iI (l.aa.length:Int)),(.pv (vB d)),.o,.o,.o,.o,.o,.o,(iI (l.aa.length:Int)),(.pv (vB g)),.o,(.dec false)],.t,.q] (Jm (bp h1) (aS h2) (aS h2) (aS h2) (aS h2) (av ab.cells l.aa) h3 (ah h4) (ah h4) (ah h4) (ah h4) (ah h4) (av ab.cells l.aa) (ah h4) h5 (ah h4) (ah h4) (aD h6))
theorem Ra(i:Int)(c:Nat)(l:aj)(v:ag)(d g:Bool)(h1:i≤(c:Int))(h2:v.kind=0)(h3:Cp 86 [vI v.a,(vI (l.aa.length:Int))] (vB d))(h4:d=true)(h5:Cp 86 [vI v.b,(vI (l.aa.length:Int))] (vB g))(h6:g=true)(h7:v.a=v.b):ar i c l v (vI 13) :=
 lD 177 [1,1,1,1,1,1,1,1,1,1,1,1,1,1,1,1,1,1,1] [.a,.q,.f,.aQ [.o,.o,.o,.o,.skip,.skip,.skip,(.dec false)],.a,.aQ [.o,.o,.o,.o,(iI (l.aa.length:Int)),(.pv (vB d)),.o,.o,.o,.o,.o,.o,(iI (l.aa.length:Int)),(.pv (vB g)),.o,(.dec false)],.f,.q,.t,.q] (Ot (bp h1) (aS h2) (aS h2) (aS h2) (aS h2) (av ab.cells l.aa) h3 (ah h4) (ah h4) (ah h4) (ah h4) (ah h4) (av ab.cells l.aa) (ah h4) h5 (ah h4) (ah h4) (ah h6) (bA h7))
theorem Rb(i:Int)(c:Nat)(l:aj)(v:ag)(d g:Bool)(k:Nat)(v1:ab)(k1:Nat)(v2:ab)(j:Bool)(h1:i≤(c:Int))(h2:v.kind=0)(h3:Cp 86 [vI v.a,(vI (l.aa.length:Int))] (vB d))(h4:d=true)(h5:Cp 86 [vI v.b,(vI (l.aa.length:Int))] (vB g))(h6:g=true)(h7:v.a≠v.b)(h8:v.a=(k:Int))(h9:l.aa[k]? = some v1)(bQ:v.b=(k1:Int))(cW:l.aa[k1]? = some v2)(cP:Cp 86 [vI v.bq,(vI (v1.points.length:Int))] (vB j))(cD:j=false):ar i c l v (vI 9) :=
 lD 198 [1,1,1,1,1,1,1,1,1,1,1,1,1,1,1,1,1,1,1,3,3,1,1,1,1,1,1,1,1,1] [.a,.q,.f,.aQ [.o,.o,.o,.o,.skip,.skip,.skip,(.dec false)],.a,.aQ [.o,.o,.o,.o,(iI (l.aa.length:Int)),(.pv (vB d)),.o,.o,.o,.o,.o,.o,(iI (l.aa.length:Int)),(.pv (vB g)),.o,(.dec false)],.f,.q,.f,dr 15 1 [.none,.none,.none,.none,(.row k (ab.cells v1)),.none,.none,.none,.none,.none,.none,(.row k1 (ab.cells v2))],.aQ [.o,.o,.o,(iI (v1.points.length:Int)),(.pv (vB j)),.o,.o,.skip,.skip,.skip,.skip,.skip,.skip,(.dec true)],.a,.q] (SA (bp h1) (aS h2) (aS h2) (aS h2) (aS h2) (av ab.cells l.aa) h3 (ah h4) (ah h4) (ah h4) (ah h4) (ah h4) (av ab.cells l.aa) (ah h4) h5 (ah h4) (ah h4) (ah h6) (bm h7) (aL ab.cells h8 h9) (aL ab.cells bQ cW) (av au.cells v1.points) cP (aD cD) (aD cD) (aD cD) (aD cD) (aD cD) (aD cD) (aD cD))
theorem Rc(i:Int)(c:Nat)(l:aj)(v:ag)(d g:Bool)(k:Nat)(v1:ab)(k1:Nat)(v2:ab)(j m:Bool)(h1:i≤(c:Int))(h2:v.kind=0)(h3:Cp 86 [vI v.a,(vI (l.aa.length:Int))] (vB d))(h4:d=true)(h5:Cp 86 [vI v.b,(vI (l.aa.length:Int))] (vB g))(h6:g=true)(h7:v.a≠v.b)(h8:v.a=(k:Int))(h9:l.aa[k]? = some v1)(bQ:v.b=(k1:Int))(cW:l.aa[k1]? = some v2)(cP:Cp 86 [vI v.bq,(vI (v1.points.length:Int))] (vB j))(cD:j=true)(en:Cp 86 [vI v.fD,(vI (v2.points.length:Int))] (vB m))(jw:m=false):ar i c l v (vI 9) :=
 lD 198 [1,1,1,1,1,1,1,1,1,1,1,1,1,1,1,1,1,1,1,3,3,1,1,1,1,1,1,1,1,1,1,1,1] [.a,.q,.f,.aQ [.o,.o,.o,.o,.skip,.skip,.skip,(.dec false)],.a,.aQ [.o,.o,.o,.o,(iI (l.aa.length:Int)),(.pv (vB d)),.o,.o,.o,.o,.o,.o,(iI (l.aa.length:Int)),(.pv (vB g)),.o,(.dec false)],.f,.q,.f,dr 15 1 [.none,.none,.none,.none,(.row k (ab.cells v1)),.none,.none,.none,.none,.none,.none,(.row k1 (ab.cells v2))],.aQ [.o,.o,.o,(iI (v1.points.length:Int)),(.pv (vB j)),.o,.o,.o,.o,.o,(iI (v2.points.length:Int)),(.pv (vB m)),.o,(.dec false)],.t,.q] (SB (bp h1) (aS h2) (aS h2) (aS h2) (aS h2) (av ab.cells l.aa) h3 (ah h4) (ah h4) (ah h4) (ah h4) (ah h4) (av ab.cells l.aa) (ah h4) h5 (ah h4) (ah h4) (ah h6) (bm h7) (aL ab.cells h8 h9) (aL ab.cells bQ cW) (av au.cells v1.points) cP (ah cD) (ah cD) (ah cD) (ah cD) (av au.cells v2.points) (ah cD) en (ah cD) (ah cD) (aD jw))
theorem Re(i:Int)(c:Nat)(l:aj)(v:ag)(d g:Bool)(k:Nat)(v1:ab)(k1:Nat)(v2:ab)(j m:Bool)(h1:i≤(c:Int))(h2:v.kind=0)(h3:Cp 86 [vI v.a,(vI (l.aa.length:Int))] (vB d))(h4:d=true)(h5:Cp 86 [vI v.b,(vI (l.aa.length:Int))] (vB g))(h6:g=true)(h7:v.a≠v.b)(h8:v.a=(k:Int))(h9:l.aa[k]? = some v1)(bQ:v.b=(k1:Int))(cW:l.aa[k1]? = some v2)(cP:Cp 86 [vI v.bq,(vI (v1.points.length:Int))] (vB j))(cD:j=true)(en:Cp 86 [vI v.fD,(vI (v2.points.length:Int))] (vB m))(jw:m=true)(gu:v.fj≠0):ar i c l v (vI 2) :=
 lD 225 [1,1,1,1,1,1,1,1,1,1,1,1,1,1,1,1,1,1,1,3,3,1,1,1,1,1,1,1,1,1,1,1,1,1,1] [.a,.q,.f,.aQ [.o,.o,.o,.o,.skip,.skip,.skip,(.dec false)],.a,.aQ [.o,.o,.o,.o,(iI (l.aa.length:Int)),(.pv (vB d)),.o,.o,.o,.o,.o,.o,(iI (l.aa.length:Int)),(.pv (vB g)),.o,(.dec false)],.f,.q,.f,dr 15 1 [.none,.none,.none,.none,(.row k (ab.cells v1)),.none,.none,.none,.none,.none,.none,(.row k1 (ab.cells v2))],.aQ [.o,.o,.o,(iI (v1.points.length:Int)),(.pv (vB j)),.o,.o,.o,.o,.o,(iI (v2.points.length:Int)),(.pv (vB m)),.o,(.dec false)],.f,.q,.t,.q,.t,.q] (QT (bp h1) (aS h2) (aS h2) (aS h2) (aS h2) (av ab.cells l.aa) h3 (ah h4) (ah h4) (ah h4) (ah h4) (ah h4) (av ab.cells l.aa) (ah h4) h5 (ah h4) (ah h4) (ah h6) (bm h7) (aL ab.cells h8 h9) (aL ab.cells bQ cW) (av au.cells v1.points) cP (ah cD) (ah cD) (ah cD) (ah cD) (av au.cells v2.points) (ah cD) en (ah cD) (ah cD) (ah jw) (bA h2) (ba gu))
theorem Rf(i:Int)(c:Nat)(l:aj)(v:ag)(d g:Bool)(k:Nat)(v1:ab)(k1:Nat)(v2:ab)(j m:Bool)(h1:i≤(c:Int))(h2:v.kind=0)(h3:Cp 86 [vI v.a,(vI (l.aa.length:Int))] (vB d))(h4:d=true)(h5:Cp 86 [vI v.b,(vI (l.aa.length:Int))] (vB g))(h6:g=true)(h7:v.a≠v.b)(h8:v.a=(k:Int))(h9:l.aa[k]? = some v1)(bQ:v.b=(k1:Int))(cW:l.aa[k1]? = some v2)(cP:Cp 86 [vI v.bq,(vI (v1.points.length:Int))] (vB j))(cD:j=true)(en:Cp 86 [vI v.fD,(vI (v2.points.length:Int))] (vB m))(jw:m=true)(gu:v.fj=0):ar i c l v (vI 0) :=
 lD 228 [1,1,1,1,1,1,1,1,1,1,1,1,1,1,1,1,1,1,1,3,3,1,1,1,1,1,1,1,1,1,1,1,1,1,1] [.a,.q,.f,.aQ [.o,.o,.o,.o,.skip,.skip,.skip,(.dec false)],.a,.aQ [.o,.o,.o,.o,(iI (l.aa.length:Int)),(.pv (vB d)),.o,.o,.o,.o,.o,.o,(iI (l.aa.length:Int)),(.pv (vB g)),.o,(.dec false)],.f,.q,.f,dr 15 1 [.none,.none,.none,.none,(.row k (ab.cells v1)),.none,.none,.none,.none,.none,.none,(.row k1 (ab.cells v2))],.aQ [.o,.o,.o,(iI (v1.points.length:Int)),(.pv (vB j)),.o,.o,.o,.o,.o,(iI (v2.points.length:Int)),(.pv (vB m)),.o,(.dec false)],.f,.q,.t,.q,.f,.q] (QT (bp h1) (aS h2) (aS h2) (aS h2) (aS h2) (av ab.cells l.aa) h3 (ah h4) (ah h4) (ah h4) (ah h4) (ah h4) (av ab.cells l.aa) (ah h4) h5 (ah h4) (ah h4) (ah h6) (bm h7) (aL ab.cells h8 h9) (aL ab.cells bQ cW) (av au.cells v1.points) cP (ah cD) (ah cD) (ah cD) (ah cD) (av au.cells v2.points) (ah cD) en (ah cD) (ah cD) (ah jw) (bA h2) (aS gu))
end aV
namespace bE
@[reducible] def fn:Func:=Tryz.f42
def br:List dI:=focus [0,2,0,2,0,0,2,1,2,0,0,2,0,0] [.code (aA fn)]
def inv1(i:Int)(H4:Nat)(l:aj)(v:af):St:=⟨[(1,(eI i)),(2,(.ptr 2 0)),(5,(.ptr 5 0)),(6,(eI (H4:Int)))],[(2,(.lit [(.pv (.str l.name)),(.pv (aZ ab.cells l.aa)),(.pv (aZ ag.cells l.an)),(.pv (aZ af.cells l.ak))])),(5,(.lit [(.pv (.str v.name)),(eI v.body)]))]⟩
@[reducible] def ar(i:Int)(H4:Nat)(l:aj)(v:af)(r:PV):Prop:=L a7 fn br (inv1 i H4 l v) r
def fP:List dI:=focus [0,2,0,2,0,0,2,1,2,0,0,2,0,0,0,0,0,2,1,2,2,2,2,0,0,2,1,2,0,0,2,1,2,0,0,2,0,0] [.code (aA fn)]
def inv2(i:Int)(Rg:Nat)(l:aj)(v:af):St:=⟨[(1,(eI i)),(2,(.ptr 2 0)),(5,(.ptr 5 0)),(7,(eI (Rg:Int)))],[(2,(.lit [(.pv (.str l.name)),(.pv (aZ ab.cells l.aa)),(.pv (aZ ag.cells l.an)),(.pv (aZ af.cells l.ak))])),(5,(.lit [(.pv (.str v.name)),(eI v.body)]))]⟩
@[reducible] def aJ(i:Int)(Rg:Nat)(l:aj)(v:af)(r:PV):Prop:=L a7 fn fP (inv2 i Rg l v) r
theorem e0(l:aj)(i:Int)(k:Nat)(v:af)(a:Bool)(h1:i=(k:Int))(h2:l.ak[k]? = some v)(h3:Cp 39 [(.str v.name)] (vB a))(h4:a=false):Cp 42 [l.pv,vI i] (vI 5) :=
 eD func42 90 [3,1,1] [.q,.h 3 (.row k (af.cells v)),.h 2 (.pv (vB a)),.t,.q] (y3 (aL af.cells h1 h2) h3 (aD h4))
theorem e1(l:aj)(i:Int)(k:Nat)(v:af)(a:Bool){r:PV}(h1:i=(k:Int))(h2:l.ak[k]? = some v)(h3:Cp 39 [(.str v.name)] (vB a))(h4:a=true)(hL:ar i 0 l v r):Cp 42 [l.pv,vI i] r :=
 eG func42 102 [3,1,1] [.q,.h 3 (.row k (af.cells v)),.h 2 (.pv (vB a)),.f,.q,.aH [1,2,5,6],.ord [2,5]] (y3 (aL af.cells h1 h2) h3 (ah h4)) hL
theorem dC(i:Int)(b:Nat)(l:aj)(v v1:af)(h1:(b:Int)<i)(h2:l.ak[b]? = some v1)(h3:v1.name=v.name):ar i b l v (vI 6) :=
 lD 141 [1,3,1] [.a,.q,.t,dr 9 0 [.none,.none,.none,(.row b (af.cells v1))],.t,.q] (y3 (bf h1) (aL af.cells (Eq.refl (((b:Nat):Int):Int)) h2) (aM h3))
theorem dD(i:Int)(b:Nat)(l:aj)(v v1:af){r:PV}(h1:(b:Int)<i)(h2:l.ak[b]? = some v1)(h3:v1.name≠v.name)(h4:(b+1)<9223372036854775808)(hL:ar i (b+1) l v r):ar i b l v r :=
 lG 144 [1,3,1,1] [.a,.q,.t,dr 9 0 [.none,.none,.none,(.row b (af.cells v1))],.f,.h 1 (iI (((b+1):Nat):Int)),.aH [1,2,5,6]] (y4 (bf h1) (aL af.cells (Eq.refl (((b:Nat):Int):Int)) h2) (bG h3) (aI h4)) hL
theorem kM(i:Int)(b:Nat)(l:aj)(v:af)(c:Bool)(h1:i≤(b:Int))(h2:Cp 86 [vI v.body,(vI (l.aa.length:Int))] (vB c))(h3:c=false):ar i b l v (vI 9) :=
 lD 147 [1,1,1,1] [.a,.q,.f,.aQ [.o,.o,.o,.o,(iI (l.aa.length:Int)),(.pv (vB c))],.t,.q] (y4 (bp h1) (av ab.cells l.aa) h2 (aD h3))
theorem An(i:Int)(b:Nat)(l:aj)(v:af)(c:Bool)(h1:i≤(b:Int))(h2:Cp 86 [vI v.body,(vI (l.aa.length:Int))] (vB c))(h3:c=true)(h4:v.body=0):ar i b l v (vI 7) :=
 lD 162 [1,1,1,1,1] [.a,.q,.f,.aQ [.o,.o,.o,.o,(iI (l.aa.length:Int)),(.pv (vB c))],.f,.q,.t,.q] (y5 (bp h1) (av ab.cells l.aa) h2 (ah h3) (bA h4))
theorem OA(i:Int)(b:Nat)(l:aj)(v:af)(c:Bool){r:PV}(h1:i≤(b:Int))(h2:Cp 86 [vI v.body,(vI (l.aa.length:Int))] (vB c))(h3:c=true)(h4:v.body≠0)(hL:aJ i 0 l v r):ar i b l v r :=
 lG 174 [1,1,1,1,1] [.a,.q,.f,.aQ [.o,.o,.o,.o,(iI (l.aa.length:Int)),(.pv (vB c))],.f,.q,.f,.q,.aH [1,2,5,7]] (y5 (bp h1) (av ab.cells l.aa) h2 (ah h3) (bm h4)) hL
theorem nK(i:Int)(b:Nat)(l:aj)(v v1:af)(h1:(b:Int)<i)(h2:l.ak[b]? = some v1)(h3:v1.body=v.body):aJ i b l v (vI 6) :=
 lD 213 [1,3,1] [.a,.q,.t,dr 9 0 [.none,.none,.none,(.row b (af.cells v1))],.t,.q] (y3 (bf h1) (aL af.cells (Eq.refl (((b:Nat):Int):Int)) h2) (bA h3))
theorem nL(i:Int)(b:Nat)(l:aj)(v v1:af){r:PV}(h1:(b:Int)<i)(h2:l.ak[b]? = some v1)(h3:v1.body≠v.body)(h4:(b+1)<9223372036854775808)(hL:aJ i (b+1) l v r):aJ i b l v r :=
 lG 216 [1,3,1,1] [.a,.q,.t,dr 9 0 [.none,.none,.none,(.row b (af.cells v1))],.f,.h 1 (iI (((b+1):Nat):Int)),.aH [1,2,5,7]] (y4 (bf h1) (aL af.cells (Eq.refl (((b:Nat):Int):Int)) h2) (bm h3) (aI h4)) hL
theorem vv(i:Int)(b:Nat)(l:aj)(v:af)(h1:i≤(b:Int)):aJ i b l v (vI 0) :=
 lD 207 [1] [.a,.q,.f,.q] (y1 (bp h1))
end bE
namespace bj
@[reducible] def fn:Func:=Tryz.f14
def br:List dI:=focus [0,2,0,0,2,1,2,0,0,2,1,2,0,0,2,1,2,0,0,2,0,2,1,2,0,0,2,1,2,0,0,2,0,0] [.code (aA fn)]
def inv1(yB:Nat)(l:aj):St:=⟨[(1,(.ptr 1 0)),(4,(eI (yB:Int)))],[(1,(.lit [(.pv (.str l.name)),(.pv (aZ ab.cells l.aa)),(.pv (aZ ag.cells l.an)),(.pv (aZ af.cells l.ak))]))]⟩
@[reducible] def ar(yB:Nat)(l:aj)(r:PV):Prop:=L a7 fn br (inv1 yB l) r
def fP:List dI:=focus [0,2,0,0,2,1,2,0,0,2,1,2,0,0,2,1,2,0,0,2,0,2,1,2,0,0,2,1,2,0,0,2,0,0,0,0,0,2,1,2,2,2,2,0,0,2,1,2,0,0,2,0,0] [.code (aA fn)]
def inv2(Ba:Nat)(l:aj):St:=⟨[(1,(.ptr 1 0)),(6,(eI (Ba:Int)))],[(1,(.lit [(.pv (.str l.name)),(.pv (aZ ab.cells l.aa)),(.pv (aZ ag.cells l.an)),(.pv (aZ af.cells l.ak))]))]⟩
@[reducible] def aJ(Ba:Nat)(l:aj)(r:PV):Prop:=L a7 fn fP (inv2 Ba l) r
theorem e0(l:aj)(a:Bool)(h1:Cp 39 [(.str l.name)] (vB a))(h2:a=false):Cp 14 [l.pv] (vI 5) :=
 eD func14 84 [1,1] [.q,.h 2 (.pv (vB a)),.t,.q] (y2 h1 (aD h2))
theorem e1(l:aj)(a:Bool)(h1:Cp 39 [(.str l.name)] (vB a))(h2:a=true)(h3:l.aa.length=0):Cp 14 [l.pv] (vI 10) :=
 eD func14 99 [1,1,1,1] [.q,.h 2 (.pv (vB a)),.f,.h 2 (iI (l.aa.length:Int)),.t,.q] (y4 h1 (ah h2) (av ab.cells l.aa) (bd h3))
theorem e2(l:aj)(a:Bool)(h1:Cp 39 [(.str l.name)] (vB a))(h2:a=true)(h3:l.aa.length≠0)(h4:8<l.aa.length):Cp 14 [l.pv] (vI 4) :=
 eD func14 114 [1,1,1,1,1,1] [.q,.h 2 (.pv (vB a)),.f,.h 2 (iI (l.aa.length:Int)),.f,.h 2 (iI (l.aa.length:Int)),.t,.q] (y6 h1 (ah h2) (av ab.cells l.aa) (aR h3) (av ab.cells l.aa) (ay h4))
theorem e3(l:aj)(a:Bool)(b:Int)(h1:Cp 39 [(.str l.name)] (vB a))(h2:a=true)(h3:l.aa.length≠0)(h4:l.aa.length≤8)(h5:Cp 40 [l.pv] (vI b))(h6:b≠0):Cp 14 [l.pv] (vI b) :=
 eD func14 135 [1,1,1,1,1,1,1,1] [.q,.h 2 (.pv (vB a)),.f,.h 2 (iI (l.aa.length:Int)),.f,.h 2 (iI (l.aa.length:Int)),.f,.h 1 (.pv (vI b)),.q,.t,.q] (y8 h1 (ah h2) (av ab.cells l.aa) (aR h3) (av ab.cells l.aa) (az h4) h5 (ba h6))
theorem e4(l:aj)(a:Bool)(b:Int)(h1:Cp 39 [(.str l.name)] (vB a))(h2:a=true)(h3:l.aa.length≠0)(h4:l.aa.length≤8)(h5:Cp 40 [l.pv] (vI b))(h6:b=0)(h7:16<l.an.length):Cp 14 [l.pv] (vI 4) :=
 eD func14 150 [1,1,1,1,1,1,1,1,1,1] [.q,.h 2 (.pv (vB a)),.f,.h 2 (iI (l.aa.length:Int)),.f,.h 2 (iI (l.aa.length:Int)),.f,.h 1 (.pv (vI b)),.q,.f,.h 2 (iI (l.an.length:Int)),.t,.q] (wh h1 (ah h2) (av ab.cells l.aa) (aR h3) (av ab.cells l.aa) (az h4) h5 (aS h6) (av ag.cells l.an) (ay h7))
theorem e5(l:aj)(a:Bool)(b:Int){r:PV}(h1:Cp 39 [(.str l.name)] (vB a))(h2:a=true)(h3:l.aa.length≠0)(h4:l.aa.length≤8)(h5:Cp 40 [l.pv] (vI b))(h6:b=0)(h7:l.an.length≤16)(hL:ar 0 l r):Cp 14 [l.pv] r :=
 eG func14 162 [1,1,1,1,1,1,1,1,1,1] [.q,.h 2 (.pv (vB a)),.f,.h 2 (iI (l.aa.length:Int)),.f,.h 2 (iI (l.aa.length:Int)),.f,.h 1 (.pv (vI b)),.q,.f,.h 2 (iI (l.an.length:Int)),.f,.q,.aH [1,4]] (wh h1 (ah h2) (av ab.cells l.aa) (aR h3) (av ab.cells l.aa) (az h4) h5 (aS h6) (av ag.cells l.an) (az h7)) hL
theorem dC(b:Nat)(l:aj)(c:Int)(h1:b<l.an.length)(h2:Cp 41 [l.pv,(vI (b:Int))] (vI c))(h3:c≠0):ar b l (vI c) :=
 lD 207 [1,1,1,1] [.a,.h 3 (iI (l.an.length:Int)),.t,.h 2 (.pv (vI c)),.q,.t,.q] (y4 (av ag.cells l.an) (ay h1) h2 (ba h3))
theorem dD(b:Nat)(l:aj)(c:Int){r:PV}(h1:b<l.an.length)(h2:Cp 41 [l.pv,(vI (b:Int))] (vI c))(h3:c=0)(h4:(b+1)<9223372036854775808)(hL:ar (b+1) l r):ar b l r :=
 lG 210 [1,1,1,1,1] [.a,.h 3 (iI (l.an.length:Int)),.t,.h 2 (.pv (vI c)),.q,.f,.h 1 (iI (((b+1):Nat):Int)),.aH [1,4]] (y5 (av ag.cells l.an) (ay h1) h2 (aS h3) (aI h4)) hL
theorem kM(b:Nat)(l:aj)(h1:l.an.length≤b)(h2:2<l.ak.length):ar b l (vI 4) :=
 lD 207 [1,1,1,1] [.a,.h 3 (iI (l.an.length:Int)),.f,.h 2 (iI (l.ak.length:Int)),.t,.q] (y4 (av ag.cells l.an) (az h1) (av af.cells l.ak) (ay h2))
theorem An(b:Nat)(l:aj){r:PV}(h1:l.an.length≤b)(h2:l.ak.length≤2)(hL:aJ 0 l r):ar b l r :=
 lG 219 [1,1,1,1] [.a,.h 3 (iI (l.an.length:Int)),.f,.h 2 (iI (l.ak.length:Int)),.f,.q,.aH [1,6]] (y4 (av ag.cells l.an) (az h1) (av af.cells l.ak) (az h2)) hL
theorem nK(b:Nat)(l:aj)(c:Int)(h1:b<l.ak.length)(h2:Cp 42 [l.pv,(vI (b:Int))] (vI c))(h3:c≠0):aJ b l (vI c) :=
 lD 264 [1,1,1,1] [.a,.h 3 (iI (l.ak.length:Int)),.t,.h 2 (.pv (vI c)),.q,.t,.q] (y4 (av af.cells l.ak) (ay h1) h2 (ba h3))
theorem nL(b:Nat)(l:aj)(c:Int){r:PV}(h1:b<l.ak.length)(h2:Cp 42 [l.pv,(vI (b:Int))] (vI c))(h3:c=0)(h4:(b+1)<9223372036854775808)(hL:aJ (b+1) l r):aJ b l r :=
 lG 267 [1,1,1,1,1] [.a,.h 3 (iI (l.ak.length:Int)),.t,.h 2 (.pv (vI c)),.q,.f,.h 1 (iI (((b+1):Nat):Int)),.aH [1,6]] (y5 (av af.cells l.ak) (ay h1) h2 (aS h3) (aI h4)) hL
theorem vv(b:Nat)(l:aj)(h1:l.ak.length≤b):aJ b l (vI 0) :=
 lD 252 [1,1] [.a,.h 3 (iI (l.ak.length:Int)),.f,.q] (y2 (av af.cells l.ak) (az h1))
end bj
namespace cI
@[reducible] def fn:Func:=Tryz.f63
def br:List dI:=focus [0,2,0,0,2,0,0] [.code (aA fn)]
def inv1(name:ByteArray)(Ba:Nat)(l:aj):St:=⟨[(1,(.pv (.str name))),(2,(.ptr 2 0)),(6,(eI (Ba:Int)))],[(2,(.lit [(.pv (.str l.name)),(.pv (aZ ab.cells l.aa)),(.pv (aZ ag.cells l.an)),(.pv (aZ af.cells l.ak))]))]⟩
@[reducible] def ar(name:ByteArray)(Ba:Nat)(l:aj)(r:PV):Prop:=L a7 fn br (inv1 name Ba l) r
theorem e0 (l : aj) (a : ByteArray) {r : PV}  (hL : ar a 0 l r) : Cp 63 [l.pv, (.str a)] r :=
 eG func63 81 [] [.q,.q,.aH [1,2,6]] True.intro hL
theorem dC(b:ByteArray)(c:Nat)(l:aj)(v:ab)(h1:c<l.aa.length)(h2:l.aa[c]? = some v)(h3:v.name=b):ar b c l (.bh [(vI (c:Int)),vI 0]) :=
 lD 120 [1,1,3,1] [.a,.h 3 (iI (l.aa.length:Int)),.t,.h 3 (.row c (ab.cells v)),.t,.q] (y4 (av ab.cells l.aa) (ay h1) (aL ab.cells (Eq.refl (((c:Nat):Int):Int)) h2) (aM h3))
theorem dD(b:ByteArray)(c:Nat)(l:aj)(v:ab){r:PV}(h1:c<l.aa.length)(h2:l.aa[c]? = some v)(h3:v.name≠b)(h4:(c+1)<9223372036854775808)(hL:ar b (c+1) l r):ar b c l r :=
 lG 123 [1,1,3,1,1] [.a,.h 3 (iI (l.aa.length:Int)),.t,.h 3 (.row c (ab.cells v)),.f,.h 1 (iI (((c+1):Nat):Int)),.aH [1,2,6]] (y5 (av ab.cells l.aa) (ay h1) (aL ab.cells (Eq.refl (((c:Nat):Int):Int)) h2) (bG h3) (aI h4)) hL
theorem kM(b:ByteArray)(c:Nat)(l:aj)(h1:l.aa.length≤c):ar b c l (.bh [vI 0,vI 5]) :=
 lD 114 [1,1] [.a,.h 3 (iI (l.aa.length:Int)),.f,.q] (y2 (av ab.cells l.aa) (az h1))
end cI
namespace cS
theorem e0(a:aW)(h1:a.num.length=0)(h2:a.den.length=0):Cp 15 [a.pv] (vB (!a.neg)) :=
 eD func15 84 [1,1,1,1,1,1,1,1] [.q,.aQ [.o,.o,(iI (a.num.length:Int)),.o,.o,.o,.o,(iI (a.den.length:Int)),.o,(.dec true)],.t,.q] (y8 (av ai a.num) (bd h1) (bd h1) (bd h1) (av ai a.den) (bd h1) (bd h1) (bd h2))
theorem e3(a:aW)(b:Bool)(h1:a.num.length=0)(h2:a.den.length≠0)(h3:Cp 43 [ae a.num] (vB b))(h4:b=false):Cp 15 [a.pv] (vB false) :=
 eD func15 87 [1,1,1,1,1,1,1,1,1,1,1,1,1,1,1,1,1,1,1,1,1,1,1] [.q,.aQ [.o,.o,(iI (a.num.length:Int)),.o,.o,.o,.o,(iI (a.den.length:Int)),.o,(.dec true)],.f,.aQ [.o,.o,(.pv (vB b)),.o,.skip,.skip,.skip,(.dec false),.o,.skip,.skip,.skip,.skip,.skip,.skip,.skip,.skip,.skip,.skip]] (QR (av ai a.num) (bd h1) (bd h1) (bd h1) (av ai a.den) (bd h1) (bd h1) (aR h2) h3 h4 h4 h4 h4 (Eq.refl false) (Eq.refl false) (Eq.refl false) (Eq.refl false) (Eq.refl false) (Eq.refl false) (Eq.refl false) (Eq.refl false) (Eq.refl false) (Eq.refl false))
theorem e4(a:aW)(b c:Bool)(d g:aB)(i:Int)(h1:a.num.length≠0)(h2:Cp 43 [ae a.num] (vB b))(h3:b=true)(h4:Cp 43 [ae a.den] (vB c))(h5:c=true)(h6:Cp 45 [(⟨false,a.num⟩:aB).pv,(⟨false,a.den⟩:aB).pv] d.pv)(h7:Cp 46 [] g.pv)(h8:Cp 44 [d.pv,g.pv] (vI i)):Cp 15 [a.pv] (vB (i==0)) :=
 eD func15 87 [1,1,1,1,1,1,1,1,1,1,1,1,1,1,1,1,1,1,1,1,1,1,1,1,1,1] [.q,.aQ [.o,.o,(iI (a.num.length:Int)),.o,.o,.skip,.skip,.skip,.skip,(.dec false)],.a,.aQ [.o,.o,(.pv (vB b)),.o,.o,.o,(.pv (vB c)),(.dec true),.o,.o,.o,.o,.o,.o,.o,(.pv d.pv),(.pv g.pv),(.pv (vI i)),.o,(.dec true)]] (Py (av ai a.num) (aR h1) (aR h1) (aR h1) (aR h1) (aR h1) h2 h3 h3 h3 h4 h3 h5 h5 h5 h5 h5 h5 h5 h6 h5 h7 h5 h8 h5 h5)
theorem e5(a:aW)(b c:Bool)(h1:a.num.length≠0)(h2:Cp 43 [ae a.num] (vB b))(h3:b=true)(h4:Cp 43 [ae a.den] (vB c))(h5:c=false):Cp 15 [a.pv] (vB false) :=
 eD func15 87 [1,1,1,1,1,1,1,1,1,1,1,1,1,1,1,1,1,1,1,1,1,1,1] [.q,.aQ [.o,.o,(iI (a.num.length:Int)),.o,.o,.skip,.skip,.skip,.skip,(.dec false)],.a,.aQ [.o,.o,(.pv (vB b)),.o,.o,.o,(.pv (vB c)),(.dec true),.o,.skip,.skip,.skip,.skip,.skip,.skip,.skip,.skip,.skip,.skip,(.dec false)]] (QR (av ai a.num) (aR h1) (aR h1) (aR h1) (aR h1) (aR h1) h2 h3 h3 h3 h4 h3 h5 h5 h5 h5 h5 h5 h5 h5 h5 h5 h5)
theorem e6(a:aW)(b:Bool)(h1:a.num.length≠0)(h2:Cp 43 [ae a.num] (vB b))(h3:b=false):Cp 15 [a.pv] (vB false) :=
 eD func15 87 [1,1,1,1,1,1,1,1,1,1,1,1,1,1,1,1,1,1,1,1,1] [.q,.aQ [.o,.o,(iI (a.num.length:Int)),.o,.o,.skip,.skip,.skip,.skip,(.dec false)],.a,.aQ [.o,.o,(.pv (vB b)),.o,.skip,.skip,.skip,(.dec false),.o,.skip,.skip,.skip,.skip,.skip,.skip,.skip,.skip,.skip,.skip]] (Px (av ai a.num) (aR h1) (aR h1) (aR h1) (aR h1) (aR h1) h2 h3 h3 h3 h3 (Eq.refl false) (Eq.refl false) (Eq.refl false) (Eq.refl false) (Eq.refl false) (Eq.refl false) (Eq.refl false) (Eq.refl false) (Eq.refl false) (Eq.refl false))
end cS
namespace oh
theorem e0(a:aW)(b c:aB)(d:Int)(h1:Cp 47 [a.pv] (.bh [b.pv,c.pv]))(h2:Cp 48 [b.pv] (vI d)):Cp 16 [a.pv] (vI d) :=
 eD func16 78 [1,1] [.q,.h 1 (.pv (.bh [b.pv,c.pv])),.h 1 (.pv (vI d))] (y2 h1 h2)
end oh
namespace uz
theorem e0(a b:aW)(c d g i j k:aB)(l:aW)(h1:Cp 57 [a.pv] (.bh [c.pv,d.pv]))(h2:Cp 57 [b.pv] (.bh [g.pv,i.pv]))(h3:Cp 59 [c.pv,g.pv] j.pv)(h4:Cp 59 [d.pv,i.pv] k.pv)(h5:Cp 58 [j.pv,k.pv] l.pv):Cp 24 [a.pv,b.pv] l.pv :=
 eD func24 84 [1,1,1,1,1] [.q,.h 1 (.pv (.bh [c.pv,d.pv])),.h 1 (.pv (.bh [g.pv,i.pv])),dr 7 1 [.none,.none,(.pv j.pv),.none,.none,(.pv k.pv),(.pv l.pv)]] (y5 h1 h2 h3 h4 h5)
end uz
namespace pX
theorem e0(n:Int)(of a:aB)(b:aW)(h1:Cp 74 [vI n] of.pv)(h2:Cp 46 [] a.pv)(h3:Cp 73 [of.pv,a.pv] b.pv):Cp 33 [vI n] b.pv :=
 eD func33 72 [1,1,1] [.q,.aQ [.o,(.pv of.pv),(.pv a.pv),(.pv b.pv)]] (y3 h1 h2 h3)
end pX
namespace fU
theorem e0(a:aW)(h1:a.num.length=0)(h2:a.den.length=0):Cp 34 [a.pv] (vB (!a.neg)) :=
 eD func34 84 [1,1,1,1,1,1,1,1] [.q,.aQ [.o,.o,(iI (a.num.length:Int)),.o,.o,.o,.o,(iI (a.den.length:Int)),.o,(.dec true)],.t,.q] (y8 (av ai a.num) (bd h1) (bd h1) (bd h1) (av ai a.den) (bd h1) (bd h1) (bd h2))
theorem e1(a:aW)(h1:a.num.length=0)(h2:a.den.length≠0):Cp 34 [a.pv] (vB false) :=
 eD func34 105 [1,1,1,1,1,1,1,1,1,1,1,1,1,1,1,1,1,1,1,1] [.q,.aQ [.o,.o,(iI (a.num.length:Int)),.o,.o,.o,.o,(iI (a.den.length:Int)),.o,(.dec true)],.f,dr 9 1 [],.aQ [.o,.o,(iI (a.num.length:Int)),.o,.o,.skip,.skip,.skip,.skip,(.dec true),.o,.skip,.skip,.skip,.o,.o,.skip,.skip,.skip],.a,.q] (Pw (av ai a.num) (bd h1) (bd h1) (bd h1) (av ai a.den) (bd h1) (bd h1) (aR h2) (av ai a.num) (bd h1) (bd h1) (bd h1) (bd h1) (bd h1) (Eq.refl true) (Eq.refl true) (Eq.refl true) (Eq.refl true) (Eq.refl true) (Eq.refl true))
theorem e2(a:aW)(h1:a.num.length≠0)(h2:a.den.length=0):Cp 34 [a.pv] (vB false) :=
 eD func34 105 [1,1,1,1,1,1,1,1,1,1,1,1,1,1,1,1,1,1,1,1] [.q,.aQ [.o,.o,(iI (a.num.length:Int)),.o,.o,.skip,.skip,.skip,.skip,(.dec false)],.a,dr 9 1 [],.aQ [.o,.o,(iI (a.num.length:Int)),.o,.o,.o,.o,(iI (a.den.length:Int)),.o,(.dec false),.o,.skip,.skip,.skip,(.dec true),.o,.skip,.skip,.skip],.a,.q] (Pw (av ai a.num) (aR h1) (aR h1) (aR h1) (aR h1) (aR h1) (av ai a.num) (aR h1) (aR h1) (aR h1) (av ai a.den) (aR h1) (aR h1) (bd h2) (bd h2) (bd h2) (bd h2) (Eq.refl true) (Eq.refl true) (Eq.refl true))
theorem e3(a:aW)(b:Bool)(h1:a.num.length≠0)(h2:a.den.length≠0)(h3:Cp 75 [(⟨false,a.num⟩:aB).pv] (vB b))(h4:b=false):Cp 34 [a.pv] (vB false) :=
 eD func34 105 [1,1,1,1,1,1,1,1,1,1,1,1,1,1,1,1,1,1,1,1,1,1] [.q,.aQ [.o,.o,(iI (a.num.length:Int)),.o,.o,.skip,.skip,.skip,.skip,(.dec false)],.a,dr 9 1 [],.aQ [.o,.o,(iI (a.num.length:Int)),.o,.o,.o,.o,(iI (a.den.length:Int)),.o,(.dec false),.o,.o,(.pv (vB b)),.o,(.dec false),.o,.skip,.skip,.skip,(.dec true)],.a,.q] (Kb (av ai a.num) (aR h1) (aR h1) (aR h1) (aR h1) (aR h1) (av ai a.num) (aR h1) (aR h1) (aR h1) (av ai a.den) (aR h1) (aR h1) (aR h2) (aR h2) h3 (aR h2) (aR h2) (aD h4) (aD h4) (aD h4) (aD h4))
theorem e4(a:aW)(b c:Bool)(h1:a.num.length≠0)(h2:a.den.length≠0)(h3:Cp 75 [(⟨false,a.num⟩:aB).pv] (vB b))(h4:b=true)(h5:Cp 75 [(⟨false,a.den⟩:aB).pv] (vB c))(h6:c=false):Cp 34 [a.pv] (vB false) :=
 eD func34 105 [1,1,1,1,1,1,1,1,1,1,1,1,1,1,1,1,1,1,1,1,1,1,1,1] [.q,.aQ [.o,.o,(iI (a.num.length:Int)),.o,.o,.skip,.skip,.skip,.skip,(.dec false)],.a,dr 9 1 [],.aQ [.o,.o,(iI (a.num.length:Int)),.o,.o,.o,.o,(iI (a.den.length:Int)),.o,(.dec false),.o,.o,(.pv (vB b)),.o,(.dec false),.o,.o,(.pv (vB c)),.o,(.dec false)],.t,.q] (Sx (av ai a.num) (aR h1) (aR h1) (aR h1) (aR h1) (aR h1) (av ai a.num) (aR h1) (aR h1) (aR h1) (av ai a.den) (aR h1) (aR h1) (aR h2) (aR h2) h3 (aR h2) (aR h2) (ah h4) (ah h4) h5 (ah h4) (ah h4) (aD h6))
theorem e5(a:aW)(b c:Bool)(d g:aB)(i:Int)(h1:a.num.length≠0)(h2:a.den.length≠0)(h3:Cp 75 [(⟨false,a.num⟩:aB).pv] (vB b))(h4:b=true)(h5:Cp 75 [(⟨false,a.den⟩:aB).pv] (vB c))(h6:c=true)(h7:Cp 77 [(⟨false,a.num⟩:aB).pv,(⟨false,a.den⟩:aB).pv] d.pv)(h8:Cp 78 [] g.pv)(h9:Cp 76 [d.pv,g.pv] (vI i)):Cp 34 [a.pv] (vB (i==0)) :=
 eD func34 108 [1,1,1,1,1,1,1,1,1,1,1,1,1,1,1,1,1,1,1,1,1,1,1,1,1,1,1] [.q,.aQ [.o,.o,(iI (a.num.length:Int)),.o,.o,.skip,.skip,.skip,.skip,(.dec false)],.a,dr 9 1 [],.aQ [.o,.o,(iI (a.num.length:Int)),.o,.o,.o,.o,(iI (a.den.length:Int)),.o,(.dec false),.o,.o,(.pv (vB b)),.o,(.dec false),.o,.o,(.pv (vB c)),.o,(.dec false)],.f,.aQ [.o,.o,(.pv d.pv),(.pv g.pv),(.pv (vI i))]] (T8 (av ai a.num) (aR h1) (aR h1) (aR h1) (aR h1) (aR h1) (av ai a.num) (aR h1) (aR h1) (aR h1) (av ai a.den) (aR h1) (aR h1) (aR h2) (aR h2) h3 (aR h2) (aR h2) (ah h4) (ah h4) h5 (ah h4) (ah h4) (ah h6) h7 h8 h9)
end fU
namespace uA
theorem e0(a b c d:aW)(h1:Cp 82 [b.pv] c.pv)(h2:Cp 38 [a.pv,c.pv] d.pv):Cp 37 [a.pv,b.pv] d.pv :=
 eD func37 72 [1,1] [.q,dr 4 1 [.none,.none,(.pv c.pv),(.pv d.pv)]] (y2 h1 h2)
end uA
namespace uB
theorem e0(a b:aW)(c d g i j k l m:aB)(n:aW)(h1:Cp 57 [a.pv] (.bh [c.pv,d.pv]))(h2:Cp 57 [b.pv] (.bh [g.pv,i.pv]))(h3:Cp 59 [c.pv,i.pv] j.pv)(h4:Cp 59 [g.pv,d.pv] k.pv)(h5:Cp 83 [j.pv,k.pv] l.pv)(h6:Cp 59 [d.pv,i.pv] m.pv)(h7:Cp 58 [l.pv,m.pv] n.pv):Cp 38 [a.pv,b.pv] n.pv :=
 eD func38 84 [1,1,1,1,1,1,1] [.q,.h 1 (.pv (.bh [c.pv,d.pv])),.h 1 (.pv (.bh [g.pv,i.pv])),dr 11 1 [.none,.none,(.pv j.pv),.none,.none,(.pv k.pv),(.pv l.pv),.none,.none,(.pv m.pv),(.pv n.pv)]] (y7 h1 h2 h3 h4 h5 h6 h7)
end uB
namespace jV
theorem e0(m:Ws)(k:Nat)(v:UInt32)(h1:0<m.length)(h2:aK ((m.length:Int)-1))(h3:((m.length:Int)-1)=(k:Int))(h4:m[k]? = some v):Cp 43 [ae m] (vB ((v.toNat:Int) != 0)) :=
 eD func43 72 [1,1,1,1,1,1,1,1,3,1,1,1] [.q,.aQ [.o,(iI (m.length:Int)),.o,.o,.o,.o,(iI (m.length:Int)),(iI ((m.length:Int)-1)),(.row k (ai v)),.o,.o,(.dec true)]] (Jl (av ai m) (ay h1) (ay h1) (ay h1) (av ai m) (ay h1) (bu h2) (ay h1) (aL ai h3 h4) (ay h1) (ay h1) (ay h1))
theorem e1(m:Ws)(h1:m.length≤0):Cp 43 [ae m] (vB false) :=
 eD func43 72 [1,1,1,1,1,1,1,1,1] [.q,.aQ [.o,(iI (m.length:Int)),.o,.o,.skip,.skip,.skip,.skip,.skip,.skip,.skip,(.dec false)]] (y9 (av ai m) (az h1) (az h1) (az h1) (az h1) (az h1) (az h1) (az h1) (az h1))
end jV
namespace oW
theorem e0(of:aB)(h1:Cp 74 [vI 1] of.pv):Cp 46 [] of.pv :=
 eD func46 72 [1] [.q,.h 0 (.pv of.pv)] (y1 h1)
end oW
namespace gE
theorem e0(a:aW)(b:Bool)(c:aB)(h1:Cp 15 [a.pv] (vB b))(h2:b=false)(h3:Cp 46 [] c.pv):Cp 47 [a.pv] (.bh [(⟨false,[]⟩:aB).pv,c.pv]) :=
 eD func47 84 [1,1,1,1,1,1,1] [.q,.aQ [.o,(.pv (vB b)),.o,.o,.skip,.skip,.skip,.skip,(.dec true)],.a,.h 1 (.pv c.pv)] (y7 h1 (aD h2) (aD h2) (aD h2) (aD h2) (aD h2) h3)
theorem e1(a:aW)(b:Bool)(c:aB)(h1:Cp 15 [a.pv] (vB b))(h2:b=true)(h3:a.num.length=0)(h4:Cp 46 [] c.pv):Cp 47 [a.pv] (.bh [(⟨false,[]⟩:aB).pv,c.pv]) :=
 eD func47 84 [1,1,1,1,1,1,1,1,1] [.q,.aQ [.o,(.pv (vB b)),.o,.o,.o,.o,(iI (a.num.length:Int)),.o,(.dec false)],.t,.h 1 (.pv c.pv)] (y9 h1 (ah h2) (ah h2) (ah h2) (av ai a.num) (ah h2) (ah h2) (bd h3) h4)
theorem e2(a:aW)(b:Bool)(h1:Cp 15 [a.pv] (vB b))(h2:b=true)(h3:a.num.length≠0):Cp 47 [a.pv] (.bh [(⟨a.neg,a.num⟩:aB).pv,(⟨false,a.den⟩:aB).pv]) :=
 eD func47 87 [1,1,1,1,1,1,1,1] [.q,.aQ [.o,(.pv (vB b)),.o,.o,.o,.o,(iI (a.num.length:Int)),.o,(.dec false)],.f,dr 9 1 []] (y8 h1 (ah h2) (ah h2) (ah h2) (av ai a.num) (ah h2) (ah h2) (aR h3))
end gE
namespace lz
@[reducible] def fn:Func:=Tryz.f57
theorem e0(a:aW)(b:Bool)(c:aB)(h1:Cp 34 [a.pv] (vB b))(h2:b=false)(h3:Cp 78 [] c.pv):Cp 57 [a.pv] (.bh [(⟨false,[]⟩:aB).pv,c.pv]) :=
 eD func57 84 [1,1,1,1,1,1,1] [.q,.aQ [.o,(.pv (vB b)),.o,.o,.skip,.skip,.skip,.skip,(.dec true)],.a,.h 1 (.pv c.pv)] (y7 h1 (aD h2) (aD h2) (aD h2) (aD h2) (aD h2) h3)
theorem e1(a:aW)(b:Bool)(c:aB)(h1:Cp 34 [a.pv] (vB b))(h2:b=true)(h3:a.num.length=0)(h4:Cp 78 [] c.pv):Cp 57 [a.pv] (.bh [(⟨false,[]⟩:aB).pv,c.pv]) :=
 eD func57 84 [1,1,1,1,1,1,1,1,1] [.q,.aQ [.o,(.pv (vB b)),.o,.o,.o,.o,(iI (a.num.length:Int)),.o,(.dec false)],.t,.h 1 (.pv c.pv)] (y9 h1 (ah h2) (ah h2) (ah h2) (av ai a.num) (ah h2) (ah h2) (bd h3) h4)
theorem Kg(a:aW):wN a7 nr fn.ntmps (bP (focus [0,2,0,0,2,1,2,0] [.code (aA fn)])) (nq (bP (focus [0,2,0,0,2,1,2,0] [.code (aA fn)])) []) (kZ (bP (focus [0,2,0,0,2,1,2,0] [.code (aA fn)])) []) [.none,.none,.none,.none,.none,(.q8 (a.num:List UInt32).length 0 ((a.num:List UInt32).map ai)),.none,.none] (BY nr fn.ntmps (bP (focus [0,2,0,0,2,1,2,0] [.code (aA fn)])) [] ⟨[(1,(.ptr 1 0)),(2,(.ptr 2 0)),(3,(.ptr 3 0))],[(3,(.lit [(eB false),(.pv (.list []))])),(2,(.lit [(eB false),(.pv (.list []))])),(1,(.lit [(eB a.neg),(.pv (ae a.num)),(.pv (ae a.den))]))]⟩)=wO a7 nr fn.ntmps (bP (focus [0,2,0,0,2,1,2,0] [.code (aA fn)])) (nq (bP (focus [0,2,0,0,2,1,2,0] [.code (aA fn)])) []) (kZ (bP (focus [0,2,0,0,2,1,2,0] [.code (aA fn)])) []) [.none,.none,.none,.none,.none,(.q8 (a.num:List UInt32).length 0 ((a.num:List UInt32).map ai)),.none,.none] (BY nr fn.ntmps (bP (focus [0,2,0,0,2,1,2,0] [.code (aA fn)])) [] ⟨[(1,(.ptr 1 0)),(2,(.ptr 2 0)),(3,(.ptr 3 0))],[(3,(.lit [(eB false),(.pv (.list []))])),(2,(.lit [(eB false),(.pv (.list []))])),(1,(.lit [(eB a.neg),(.pv (ae a.num)),(.pv (ae a.den))]))]⟩):=by kernel_rfl
theorem Kh(a:aW):wN a7 nr fn.ntmps (bP (focus [0,2,0,0,2,1,2,0,2,0] [.code (aA fn)])) (nq (bP (focus [0,2,0,0,2,1,2,0,2,0] [.code (aA fn)])) []) (kZ (bP (focus [0,2,0,0,2,1,2,0,2,0] [.code (aA fn)])) []) [.none,.none,.none,.none,(.q8 (a.den:List UInt32).length 0 ((a.den:List UInt32).map ai)),.none,.none,.none] (BY nr fn.ntmps (bP (focus [0,2,0,0,2,1,2,0,2,0] [.code (aA fn)])) [] ⟨[(1,(.ptr 1 0)),(2,(.ptr 2 0)),(3,(.ptr 3 0))],[(3,(.lit [(eB false),(.pv (.list []))])),(2,(.lit [(eB a.neg),(.pv (ae a.num))])),(1,(.lit [(eB a.neg),(.pv (ae a.num)),(.pv (ae a.den))]))]⟩)=wO a7 nr fn.ntmps (bP (focus [0,2,0,0,2,1,2,0,2,0] [.code (aA fn)])) (nq (bP (focus [0,2,0,0,2,1,2,0,2,0] [.code (aA fn)])) []) (kZ (bP (focus [0,2,0,0,2,1,2,0,2,0] [.code (aA fn)])) []) [.none,.none,.none,.none,(.q8 (a.den:List UInt32).length 0 ((a.den:List UInt32).map ai)),.none,.none,.none] (BY nr fn.ntmps (bP (focus [0,2,0,0,2,1,2,0,2,0] [.code (aA fn)])) [] ⟨[(1,(.ptr 1 0)),(2,(.ptr 2 0)),(3,(.ptr 3 0))],[(3,(.lit [(eB false),(.pv (.list []))])),(2,(.lit [(eB a.neg),(.pv (ae a.num))])),(1,(.lit [(eB a.neg),(.pv (ae a.num)),(.pv (ae a.den))]))]⟩):=by kernel_rfl
theorem e2(a:aW)(b:Bool)(h1:Cp 34 [a.pv] (vB b))(h2:b=true)(h3:a.num.length≠0)(h4:(([]:Ws)++a.num:Ws).length*4≤140737488355328)(h5:(([]:Ws)++a.den:Ws).length*4≤140737488355328):Cp 57 [a.pv] (.bh [(⟨a.neg,a.num⟩:aB).pv,(⟨false,a.den⟩:aB).pv]) :=
 eD func57 93 [1,1,1,1,1,1,1,1,6,3,1,6,3,1] [.q,.aQ [.o,(.pv (vB b)),.o,.o,.o,.o,(iI (a.num.length:Int)),.o,(.dec false)],.f,.aH [1,2,3],.any [] [.none,.none,.none,.none,.none,(.q8 (a.num:Ws).length 0 ((a.num:Ws).map ai)),.none,.none],.aH [1,2,3],.any [] [.none,.none,.none,.none,(.q8 (a.den:Ws).length 0 ((a.den:Ws).map ai)),.none,.none,.none]] (Ga h1 (ah h2) (ah h2) (ah h2) (av ai a.num) (ah h2) (ah h2) (aR h3) (rF bc ([]:Ws) (a.num:Ws) 4 (Eq.refl ([]:Ws).length) h4 rfl) (cq bc (a.num:Ws) (Eq.refl (a.num:Ws).length)) (Kg a) (rF bc ([]:Ws) (a.den:Ws) 4 (Eq.refl ([]:Ws).length) h5 rfl) (cq bc (a.den:Ws) (Eq.refl (a.den:Ws).length)) (Kh a))
end lz
namespace ix
theorem e0(n d:aB)(a:Int)(h1:Cp 79 [n.pv] (vI a))(h2:a=0):Cp 58 [n.pv,d.pv] ((⟨false,[],[]⟩:aW).pv) :=
 eD func58 84 [1,1] [.q,.h 1 (.pv (vI a)),.t,.q] (y2 h1 (bA h2))
theorem e1(n d:aB)(a b:Int)(c g i:aB)(j:Int)(k l m:aB)(o:Option Int)(p s:aB)(u:Option Int)(h1:Cp 79 [n.pv] (vI a))(h2:a≠0)(h3:Cp 79 [d.pv] (vI b))(h4:b<0)(h5:Cp 99 [n.pv] c.pv)(h6:Cp 99 [d.pv] g.pv)(h7:Cp 77 [c.pv,g.pv] i.pv)(h8:Cp 79 [c.pv] (vI j))(h9:j<0)(bQ:Cp 99 [c.pv] k.pv)(cW:Cp 100 [k.pv,i.pv] (.bh [l.pv,m.pv,di o]))(cP:Cp 100 [g.pv,i.pv] (.bh [p.pv,s.pv,di u])):Cp 58 [n.pv,d.pv] ((⟨(decide (j<0)),l.cM,p.cM⟩:aW).pv) :=
 eD func58 141 [1,1,1,1,1,1,1,1,1,1,1,1] [.q,.h 1 (.pv (vI a)),.f,.h 1 (.pv (vI b)),.t,dr 4 2 [.none,(.pv c.pv),.none,(.pv g.pv)],.h 2 (.pv i.pv),.h 1 (.pv (vI j)),.q,.t,.h 1 (.pv k.pv),.h 2 (.pv (.bh [l.pv,m.pv,di o])),.h 2 (.pv (.bh [p.pv,s.pv,di u])),.q] (Jl h1 (bm h2) h3 (bf h4) h5 h6 h7 h8 (bf h9) bQ cW cP)
theorem e2(n d:aB)(a b:Int)(c g i:aB)(j:Int)(k l:aB)(m:Option Int)(o p:aB)(s:Option Int)(h1:Cp 79 [n.pv] (vI a))(h2:a≠0)(h3:Cp 79 [d.pv] (vI b))(h4:b<0)(h5:Cp 99 [n.pv] c.pv)(h6:Cp 99 [d.pv] g.pv)(h7:Cp 77 [c.pv,g.pv] i.pv)(h8:Cp 79 [c.pv] (vI j))(h9:0≤j)(bQ:Cp 100 [c.pv,i.pv] (.bh [k.pv,l.pv,di m]))(cW:Cp 100 [g.pv,i.pv] (.bh [o.pv,p.pv,di s])):Cp 58 [n.pv,d.pv] ((⟨(decide (j<0)),k.cM,o.cM⟩:aW).pv) :=
 eD func58 141 [1,1,1,1,1,1,1,1,1,1,1] [.q,.h 1 (.pv (vI a)),.f,.h 1 (.pv (vI b)),.t,dr 4 2 [.none,(.pv c.pv),.none,(.pv g.pv)],.h 2 (.pv i.pv),.h 1 (.pv (vI j)),.q,.f,.h 2 (.pv (.bh [k.pv,l.pv,di m])),.h 2 (.pv (.bh [o.pv,p.pv,di s])),.q] (A8 h1 (bm h2) h3 (bf h4) h5 h6 h7 h8 (bp h9) bQ cW)
theorem e3(n d:aB)(a b:Int)(c:aB)(g:Int)(i j k:aB)(l:Option Int)(m o:aB)(p:Option Int)(h1:Cp 79 [n.pv] (vI a))(h2:a≠0)(h3:Cp 79 [d.pv] (vI b))(h4:0≤b)(h5:Cp 77 [n.pv,d.pv] c.pv)(h6:Cp 79 [n.pv] (vI g))(h7:g<0)(h8:Cp 99 [n.pv] i.pv)(h9:Cp 100 [i.pv,c.pv] (.bh [j.pv,k.pv,di l]))(bQ:Cp 100 [d.pv,c.pv] (.bh [m.pv,o.pv,di p])):Cp 58 [n.pv,d.pv] ((⟨(decide (g<0)),j.cM,m.cM⟩:aW).pv) :=
 eD func58 141 [1,1,1,1,1,1,1,1,1,1] [.q,.h 1 (.pv (vI a)),.f,.h 1 (.pv (vI b)),.f,.h 2 (.pv c.pv),.h 1 (.pv (vI g)),.q,.t,.h 1 (.pv i.pv),.h 2 (.pv (.bh [j.pv,k.pv,di l])),.h 2 (.pv (.bh [m.pv,o.pv,di p])),.q] (wh h1 (bm h2) h3 (bp h4) h5 h6 (bf h7) h8 h9 bQ)
theorem e4(n d:aB)(a b:Int)(c:aB)(g:Int)(i j:aB)(k:Option Int)(l m:aB)(o:Option Int)(h1:Cp 79 [n.pv] (vI a))(h2:a≠0)(h3:Cp 79 [d.pv] (vI b))(h4:0≤b)(h5:Cp 77 [n.pv,d.pv] c.pv)(h6:Cp 79 [n.pv] (vI g))(h7:0≤g)(h8:Cp 100 [n.pv,c.pv] (.bh [i.pv,j.pv,di k]))(h9:Cp 100 [d.pv,c.pv] (.bh [l.pv,m.pv,di o])):Cp 58 [n.pv,d.pv] ((⟨(decide (g<0)),i.cM,l.cM⟩:aW).pv) :=
 eD func58 141 [1,1,1,1,1,1,1,1,1] [.q,.h 1 (.pv (vI a)),.f,.h 1 (.pv (vI b)),.f,.h 2 (.pv c.pv),.h 1 (.pv (vI g)),.q,.f,.h 2 (.pv (.bh [i.pv,j.pv,di k])),.h 2 (.pv (.bh [l.pv,m.pv,di o])),.q] (y9 h1 (bm h2) h3 (bp h4) h5 h6 (bp h7) h8 h9)
end ix
namespace ie
theorem e0(n d:aB)(a:Int)(h1:Cp 48 [n.pv] (vI a))(h2:a=0):Cp 73 [n.pv,d.pv] ((⟨false,[],[]⟩:aW).pv) :=
 eD func73 84 [1,1] [.q,.h 1 (.pv (vI a)),.t,.q] (y2 h1 (bA h2))
theorem e1(n d:aB)(a b:Int)(c g i j k:aB)(l:Int)(m o:aB)(p:Int)(h1:Cp 48 [n.pv] (vI a))(h2:a≠0)(h3:Cp 48 [d.pv] (vI b))(h4:b<0)(h5:Cp 115 [n.pv] c.pv)(h6:Cp 115 [d.pv] g.pv)(h7:Cp 45 [c.pv,g.pv] i.pv)(h8:Cp 116 [c.pv,i.pv] (.bh [j.pv,k.pv,vI l]))(h9:Cp 116 [g.pv,i.pv] (.bh [m.pv,o.pv,vI p])):Cp 73 [n.pv,d.pv] ((⟨j.neg,j.cM,m.cM⟩:aW).pv) :=
 eD func73 120 [1,1,1,1,1,1,1,1,1] [.q,.h 1 (.pv (vI a)),.f,.h 1 (.pv (vI b)),.t,dr 4 2 [.none,(.pv c.pv),.none,(.pv g.pv)],.h 2 (.pv i.pv),.h 2 (.pv (.bh [j.pv,k.pv,vI l])),.h 2 (.pv (.bh [m.pv,o.pv,vI p])),.q] (y9 h1 (bm h2) h3 (bf h4) h5 h6 h7 h8 h9)
theorem e2(n d:aB)(a b:Int)(c g i:aB)(j:Int)(k l:aB)(m:Int)(h1:Cp 48 [n.pv] (vI a))(h2:a≠0)(h3:Cp 48 [d.pv] (vI b))(h4:0≤b)(h5:Cp 45 [n.pv,d.pv] c.pv)(h6:Cp 116 [n.pv,c.pv] (.bh [g.pv,i.pv,vI j]))(h7:Cp 116 [d.pv,c.pv] (.bh [k.pv,l.pv,vI m])):Cp 73 [n.pv,d.pv] ((⟨g.neg,g.cM,k.cM⟩:aW).pv) :=
 eD func73 120 [1,1,1,1,1,1,1] [.q,.h 1 (.pv (vI a)),.f,.h 1 (.pv (vI b)),.f,.h 2 (.pv c.pv),.h 2 (.pv (.bh [g.pv,i.pv,vI j])),.h 2 (.pv (.bh [k.pv,l.pv,vI m])),.q] (y7 h1 (bm h2) h3 (bp h4) h5 h6 h7)
end ie
namespace uC
theorem e0(of:aB)(h1:Cp 119 [vI 1] of.pv):Cp 78 [] of.pv :=
 eD func78 72 [1] [.q,.h 0 (.pv of.pv)] (y1 h1)
end uC
namespace uD
theorem e0(a:aW)(b c d:aB)(g:aW)(h1:Cp 57 [a.pv] (.bh [b.pv,c.pv]))(h2:Cp 99 [b.pv] d.pv)(h3:Cp 58 [d.pv,c.pv] g.pv):Cp 82 [a.pv] g.pv :=
 eD func82 78 [1,1,1] [.q,.h 1 (.pv (.bh [b.pv,c.pv])),dr 4 1 [.none,(.pv d.pv),.none,(.pv g.pv)]] (y3 h1 h2 h3)
end uD
namespace oX
theorem e0(a b c d:aW)(h1:Cp 135 [b.pv] c.pv)(h2:Cp 95 [a.pv,c.pv] d.pv):Cp 94 [a.pv,b.pv] d.pv :=
 eD func94 72 [1,1] [.q,dr 4 1 [.none,.none,(.pv c.pv),(.pv d.pv)]] (y2 h1 h2)
end oX
namespace oY
theorem e0(a b:aW)(c d g i j k l m:aB)(n:aW)(h1:Cp 47 [a.pv] (.bh [c.pv,d.pv]))(h2:Cp 47 [b.pv] (.bh [g.pv,i.pv]))(h3:Cp 93 [c.pv,i.pv] j.pv)(h4:Cp 93 [g.pv,d.pv] k.pv)(h5:Cp 126 [j.pv,k.pv] l.pv)(h6:Cp 93 [d.pv,i.pv] m.pv)(h7:Cp 73 [l.pv,m.pv] n.pv):Cp 95 [a.pv,b.pv] n.pv :=
 eD func95 84 [1,1,1,1,1,1,1] [.q,.h 1 (.pv (.bh [c.pv,d.pv])),.h 1 (.pv (.bh [g.pv,i.pv])),dr 11 1 [.none,.none,(.pv j.pv),.none,.none,(.pv k.pv),(.pv l.pv),.none,.none,(.pv m.pv),(.pv n.pv)]] (y7 h1 h2 h3 h4 h5 h6 h7)
end oY
namespace uE
theorem e0(a b:aW)(c d g i j k:aB)(l:Int)(h1:Cp 57 [a.pv] (.bh [c.pv,d.pv]))(h2:Cp 57 [b.pv] (.bh [g.pv,i.pv]))(h3:Cp 59 [c.pv,i.pv] j.pv)(h4:Cp 59 [g.pv,d.pv] k.pv)(h5:Cp 76 [j.pv,k.pv] (vI l)):Cp 113 [a.pv,b.pv] (vI l) :=
 eD func113 84 [1,1,1,1,1] [.q,.h 1 (.pv (.bh [c.pv,d.pv])),.h 1 (.pv (.bh [g.pv,i.pv])),dr 7 1 [.none,.none,(.pv j.pv),.none,.none,(.pv k.pv),(.pv (vI l))]] (y5 h1 h2 h3 h4 h5)
end uE
namespace oZ
theorem e0(a b c:aW)(d:Int)(h1:Cp 94 [a.pv,b.pv] c.pv)(h2:Cp 16 [c.pv] (vI d)):Cp 125 [a.pv,b.pv] (vI d) :=
 eD func125 72 [1,1] [.q,.aQ [.o,.o,(.pv c.pv),(.pv (vI d))]] (y2 h1 h2)
end oZ
namespace o0
theorem e0(a:aW)(b c d:aB)(g:aW)(h1:Cp 47 [a.pv] (.bh [b.pv,c.pv]))(h2:Cp 115 [b.pv] d.pv)(h3:Cp 73 [d.pv,c.pv] g.pv):Cp 135 [a.pv] g.pv :=
 eD func135 78 [1,1,1] [.q,.h 1 (.pv (.bh [b.pv,c.pv])),dr 4 1 [.none,(.pv d.pv),.none,(.pv g.pv)]] (y3 h1 h2 h3)
end o0
end Go.Proofs.YtfjfekodeplcoaaGreat.Sym.Path
end
