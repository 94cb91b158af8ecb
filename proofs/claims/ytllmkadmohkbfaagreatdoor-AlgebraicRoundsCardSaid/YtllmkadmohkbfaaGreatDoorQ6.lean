/- Lemmas for the statements of this seat. -/
import Derived.Test.YtllmkadmohkbfaaGreatDoorU0
noncomputable section
namespace Go.Proofs.YtllmkadmohkbfaaGreatDoor.Sym.Path
open Go Tryz
set_option maxRecDepth 20000
set_option linter.unusedVariables false
namespace ql
@[reducible] def fn:Func:=Tryz.f193
def a7:List eH:=focus [0,2,0,0,2,1,2,0,0,2,0,0] [.code (ay fn)]
def inv1(t:bz)(vA:Nat):St:=⟨[(1,(.ptr 1 0)),(13,(.pv (dj (aC af.cells) t.roots))),(14,(eI (t.roots.length:Int))),(15,(eI (vA:Int)))],[(1,(.lit [(.pv (dj (aC af.cells) t.roots))]))]⟩
@[reducible] def ah(t:bz)(vA:Nat)(r:PV):Prop:=L bp fn a7 (inv1 t vA) r
theorem e1(t:bz){r:PV}(h1:t.roots.length≤5)(hL:ah t 0 r):Cp 193 [t.pv] r :=
 eG func193 96 [1,1,1] [.q,.h 2 (iI (t.roots.length:Int)),.f,.h 2 (iI (t.roots.length:Int)),.aF [1,13,14,15]] (y3 (an (aC af.cells) t.roots) (ar h1) (an (aC af.cells) t.roots)) hL
theorem kM(t:bz)(b:Nat)(v:Rs)(c:Int){r:PV}(h1:b<t.roots.length)(h2:t.roots[b]? = some v)(h3:b≤64)(h4:(1*2^b)<9223372036854775808)(h5:v.length=(1*2^b))(h6:b≤t.roots.length)(h7:Cp 194 [(⟨(t.roots.take b)⟩:bz).pv,ae v] .az)(h8:Cp 119 [(⟨(t.roots.take b)⟩:bz).pv,ae v] (vI c))(h9:0≤c)(dh:(b+1)<9223372036854775808)(hL:ah t (b+1) r):ah t b r :=
 lG 186 [1,3,1,1,1,6,1,1,1,1] [.a,.q,.t,.h 1 (.row b ((aC af.cells) v)),.aR [.o,(iI (v.length:Int)),.o,(iI (((1*2^b):Nat):Int))],.f,.h 3 (.js 0 b (((t.roots.take b):List (Rs)).map (aC af.cells))),.h 2 (.pv .az),.q,.a,.h 2 (.pv (vI c)),.f,.h 0 (iI (((b+1):Nat):Int)),.aF [1,13,14,15],.drop [5]] (F8 (aj h1) (bT (aC af.cells) (Eq.refl (((b:Nat):Int):Int)) h2) (an af.cells v) (fU (k := .i64) h3 h4) (iJ h5) (wL (rO af.cells) (t.roots:List (Rs)) (Eq.refl (((b:Nat):Int):Int)) h6) h7 h8 (bf h9) (aM dh)) hL
theorem Ew(t:bz)(b:Nat)(h1:t.roots.length≤b):ah t b .az :=
 lD 129 [1] [.a,.q,.f,.q] (y1 (ar h1))
end ql
namespace gO
@[reducible] def fn:Func:=Tryz.f115
def a7:List eH:=focus [0,2,0,0,2,0,2,1,2,0,0,2,0,0] [.code (ay fn)]
def inv1(list:List (List af))(Rz:Nat)(t:bz):St:=⟨[(2,(.ptr 2 0)),(14,(.pv (dj (aC af.cells) list))),(15,(eI (list.length:Int))),(16,(eI (Rz:Int)))],[(2,(.lit [(.pv (dj (aC af.cells) t.roots))]))]⟩
@[reducible] def ah(list:List (List af))(Rz:Nat)(t:bz)(r:PV):Prop:=L bp fn a7 (inv1 list Rz t) r
theorem e0(t:bz)(b:List (Rs)){r:PV}(h1:Cp 193 [t.pv] .az)(hL:ah b 0 t r):Cp 115 [t.pv,(dj (aC af.cells) b)] r :=
 eG func115 102 [1,1] [.q,.h 1 (.pv .az),.q,.a,.h 1 (iI (b.length:Int)),.aF [2,14,15,16]] (y2 h1 (an (aC af.cells) b)) hL
theorem l10(b:List (Rs))(c:Nat)(t:bz)(v:Rs){r:PV}(h1:c<b.length)(h2:b[c]? = some v)(h3:Cp 194 [t.pv,ae v] .az)(h4:(c+1)<9223372036854775808)(hL:ah b (c+1) t r):ah b c t r :=
 lG 156 [1,3,1,1] [.a,.q,.t,.h 0 (.row c ((aC af.cells) v)),.h 2 (.pv .az),.q,.a,.h 0 (iI (((c+1):Nat):Int)),.aF [2,14,15,16]] (y4 (aj h1) (bT (aC af.cells) (Eq.refl (((c:Nat):Int):Int)) h2) h3 (aM h4)) hL
theorem kM(b:List (Rs))(c:Nat)(t:bz)(h1:b.length≤c):ah b c t .az :=
 lD 135 [1] [.a,.q,.f,.q] (y1 (ar h1))
end gO
namespace j6
@[reducible] def fn:Func:=Tryz.f194
def a7:List eH:=focus [0,2,0,0,2,0,0,2,0,2,1,2,0,0,2,0,0] [.code (ay fn)]
def inv1(a:List af)(wU:Nat):St:=⟨[(23,(.pv (ae a))),(24,(eI (a.length:Int))),(25,(eI (wU:Int)))],[]⟩
@[reducible] def ah(a:List af)(wU:Nat)(r:PV):Prop:=L bp fn a7 (inv1 a wU) r
theorem e2(t:bz)(a:Rs)(b:Int){r:PV}(h1:0<a.length)(h2:Cp 195 [ae a] (vI b))(h3:0≤b)(h4:b≤(t.roots.length:Int))(hL:ah a 0 r):Cp 194 [t.pv,ae a] r :=
 eG func194 111 [1,1,1,1,1,1,1,1,1,1,1,1] [.q,.h 1 (iI (a.length:Int)),.t,.h 1 (.pv (vI b)),.aR [.o,.o,.o,.o,.o,.o,(iI (t.roots.length:Int)),.o,(.dec false)],.f,.h 1 (iI (a.length:Int)),.aF [23,24,25],.drop [2]] (KK (an af.cells a) (aj h1) h2 (bf h3) (bf h3) (bf h3) (bf h3) (an (aC af.cells) t.roots) (bf h3) (bf h3) (bf h4) (an af.cells a)) hL
theorem e3(t:bz)(a:Rs){r:PV}(h1:a.length≤0)(hL:ah a 0 r):Cp 194 [t.pv,ae a] r :=
 eG func194 96 [1,1,1] [.q,.h 1 (iI (a.length:Int)),.f,.h 1 (iI (a.length:Int)),.aF [23,24,25],.drop [2]] (y3 (an af.cells a) (ar h1) (an af.cells a)) hL
theorem cR(a:Rs)(b:Nat)(v:af)(c:Bool){r:PV}(h1:b<a.length)(h2:a[b]? = some v)(h3:Cp 164 [v.pv] (vB c))(h4:c=true)(h5:(b+1)<9223372036854775808)(hL:ah a (b+1) r):ah a b r :=
 lG 159 [1,3,1,1,1] [.a,.q,.t,.h 0 (.row b (af.cells v)),.h 1 (.pv (vB c)),.f,.h 0 (iI (((b+1):Nat):Int)),.aF [23,24,25],.drop [7]] (y5 (aj h1) (bT af.cells (Eq.refl (((b:Nat):Int):Int)) h2) h3 (aO h4) (aM h5)) hL
theorem kM(a:Rs)(b:Nat)(h1:a.length≤b):ah a b .az :=
 lD 144 [1] [.a,.q,.f,.q] (y1 (ar h1))
end j6
namespace jK
@[reducible] def fn:Func:=Tryz.f195
def a7:List eH:=focus [0,2,0,2,0,0,0] [.code (ay fn)]
def inv1(a:List af)(WO:Nat):St:=⟨[(0,(.pv (ae a))),(3,(eI (WO:Int)))],[]⟩
@[reducible] def ah(a:List af)(WO:Nat)(r:PV):Prop:=L bp fn a7 (inv1 a WO) r
theorem e0 (a : Rs) {r : PV}  (hL : ah a 0 r) : Cp 195 [ae a] r :=
 eG func195 81 [] [.q,.q,.aF [0,3]] True.intro hL
theorem l10(a:Rs)(b:Nat){r:PV}(h1:b≤64)(h2:(1*2^b)<9223372036854775808)(h3:(1*2^b)<a.length)(h4:(b+1)<9223372036854775808)(hL:ah a (b+1) r):ah a b r :=
 lG 108 [1,1,1,1] [.a,.aR [.o,(iI (((1*2^b):Nat):Int)),.o,(iI (a.length:Int))],.t,.h 1 (iI (((b+1):Nat):Int)),.aF [0,3]] (y4 (fU (k := .i64) h1 h2) (an af.cells a) (aj h3) (aM h4)) hL
theorem cR(a:Rs)(b:Nat)(h1:b≤64)(h2:(1*2^b)<9223372036854775808)(h3:a.length≤(1*2^b))(h4:(1*2^b)≠a.length):ah a b (vI (-1)) :=
 lD 126 [1,1,1,1,1,1] [.a,.aR [.o,(iI (((1*2^b):Nat):Int)),.o,(iI (a.length:Int))],.f,.aR [.o,(iI (((1*2^b):Nat):Int)),.o,(iI (a.length:Int))],.t,.q] (y6 (fU (k := .i64) h1 h2) (an af.cells a) (ar h3) (fU (k := .i64) h1 h2) (an af.cells a) (ko h4))
theorem kM(a:Rs)(b:Nat)(h1:b≤64)(h2:(1*2^b)<9223372036854775808)(h3:a.length≤(1*2^b))(h4:(1*2^b)=a.length):ah a b (vI (b:Int)) :=
 lD 129 [1,1,1,1,1,1] [.a,.aR [.o,(iI (((1*2^b):Nat):Int)),.o,(iI (a.length:Int))],.f,.aR [.o,(iI (((1*2^b):Nat):Int)),.o,(iI (a.length:Int))],.f,.q] (y6 (fU (k := .i64) h1 h2) (an af.cells a) (ar h3) (fU (k := .i64) h1 h2) (an af.cells a) (iJ h4))
end jK
namespace BE
theorem e1(t:bz)(a b:Rs)(v:af)(c:Int)(h1:Cp 116 [ae a] (ae b))(h2:b.length≠0)(h3:b.length=1)(h4:b[0]? = some v)(h5:Cp 33 [v.pv] (vI c)):Cp 119 [t.pv,ae a] (vI c) :=
 eD func119 105 [1,1,1,1,1,3,1] [.q,.h 1 (.pv (ae b)),.h 1 (iI (b.length:Int)),.f,.h 1 (iI (b.length:Int)),.t,.aR [.o,(.row 0 (af.cells v)),.o,(.pv (vI c))]] (y7 h1 (an af.cells b) (aA h2) (an af.cells b) (aN h3) (bT af.cells (Eq.refl (0:Int)) h4) h5)
end BE
namespace gP
@[reducible] def fn:Func:=Tryz.f116
def a7:List eH:=focus [0,2,0,0,2,0,2,1,2,0,2,0,0,0] [.code (ay fn)]
def inv1(a:List af)(WQ:Nat):St:=⟨[(0,(.pv (ae a))),(4,(eI (WQ:Int)))],[]⟩
@[reducible] def ah(a:List af)(WQ:Nat)(r:PV):Prop:=L bp fn a7 (inv1 a WQ) r
theorem e2(a:Rs)(b:Int){r:PV}(h1:Cp 195 [ae a] (vI b))(h2:0<a.length)(h3:0≤b)(h4:b≤5)(hL:ah a a.length r):Cp 116 [ae a] r :=
 eG func116 102 [1,1,1,1,1,1,1,1,1,1,1,1] [.q,.h 1 (.pv (vI b)),.aR [.o,(iI (a.length:Int)),.o,.o,.o,.o,.o,.o,.o,(.dec false),(.dec true)],.f,.h 1 (iI (a.length:Int)),.aF [0,4]] (KK h1 (an af.cells a) (aj h2) (aj h2) (aj h2) (bf h3) (bf h3) (aj h2) (bf h3) (aj h2) (bf h4) (an af.cells a)) hL
theorem e3(a:Rs)(b:Int){r:PV}(h1:Cp 195 [ae a] (vI b))(h2:a.length≤0)(hL:ah a a.length r):Cp 116 [ae a] r :=
 eG func116 102 [1,1,1,1,1,1,1,1] [.q,.h 1 (.pv (vI b)),.aR [.o,(iI (a.length:Int)),.o,.o,.skip,.skip,.skip,.skip,.skip,.skip,(.dec false)],.a,.h 1 (iI (a.length:Int)),.aF [0,4]] (y8 h1 (an af.cells a) (ar h2) (ar h2) (ar h2) (ar h2) (ar h2) (an af.cells a)) hL
theorem l10(a:Rs)(b:Nat)(c:Bool){r:PV}(h1:1<b)(h2:b<9223372036854775808)(h3:b≤a.length)(h4:(b/2)≤b)(h5:Cp 196 [(ae ((a.take b).drop (b/2)))] (vB c))(h6:c=true)(hL:ah a (b/2) r):ah a b r :=
 lG 129 [1,1,1,1,1,1,6,1,1,1,1,1] [.a,.aR [.o,.o,.o,.o,.o,(iI (((b/2):Nat):Int)),.o,(.js (b/2) b ((((a.take b).drop (b/2)):Rs).map af.cells)),(.pv (vB c)),(.dec true)],.t,.h 1 (iI (((b/2):Nat):Int)),.aF [0,4]] (KK (aj h1) (aj h1) (aj h1) (wJ (y:=2) (by decide) h2) (aj h1) (aj h1) (TM aX (a:Rs) (Eq.refl ((((b/2):Nat):Int):Int)) (Eq.refl (((b:Nat):Int):Int)) h4 h3) (aj h1) h5 (aj h1) h6 (wJ (y:=2) (by decide) h2)) hL
theorem tq(a:Rs)(b:Nat)(c:Bool)(d:Rs)(h1:1<b)(h2:b<9223372036854775808)(h3:b≤a.length)(h4:(b/2)≤b)(h5:Cp 196 [(ae ((a.take b).drop (b/2)))] (vB c))(h6:c=false)(h7:b≠1)(h8:Cp 178 [(ae (a.take b))] (ae d)):ah a b (ae d) :=
 lD 150 [1,1,1,1,1,1,6,1,1,1,1,1,1,1,1,6,1] [.a,.aR [.o,.o,.o,.o,.o,(iI (((b/2):Nat):Int)),.o,(.js (b/2) b ((((a.take b).drop (b/2)):Rs).map af.cells)),(.pv (vB c)),(.dec true)],.f,.aR [.o,.o,.o,.skip,.skip,.skip,(.dec false)],.a,.aR [.o,.o,(.js 0 b (((a.take b):Rs).map af.cells)),(.pv (ae d))]] (P4 (aj h1) (aj h1) (aj h1) (wJ (y:=2) (by decide) h2) (aj h1) (aj h1) (TM aX (a:Rs) (Eq.refl ((((b/2):Nat):Int):Int)) (Eq.refl (((b:Nat):Int):Int)) h4 h3) (aj h1) h5 (aj h1) h6 (aA h7) (aA h7) (aA h7) (aA h7) (wL aX (a:Rs) (Eq.refl (((b:Nat):Int):Int)) h3) h8)
theorem Ew(a:Rs)(b:Nat)(c:Bool)(h1:b≤1)(h2:b=1)(h3:1≤a.length)(h4:Cp 196 [(ae (a.take 1))] (vB c))(h5:c=true):ah a b (ae []) :=
 lD 147 [1,1,1,1,1,1,1,1,1,6,1,1,1,1] [.a,.aR [.o,.o,.o,.skip,.skip,.skip,.skip,.skip,.skip,(.dec false)],.a,.aR [.o,.o,.o,.o,(.js 0 1 (((a.take 1):Rs).map af.cells)),(.pv (vB c)),(.dec true)],.t,.q] (Lk (ar h1) (ar h1) (ar h1) (ar h1) (ar h1) (ar h1) (ar h1) (aN h2) (aN h2) (wL aX (a:Rs) (Eq.refl (1:Int)) h3) (aN h2) h4 (aN h2) h5)
theorem TW(a:Rs)(b:Nat)(c:Bool)(d:Rs)(h1:b≤1)(h2:b=1)(h3:1≤a.length)(h4:Cp 196 [(ae (a.take 1))] (vB c))(h5:c=false)(h6:b≤a.length)(h7:Cp 178 [(ae (a.take b))] (ae d)):ah a b (ae d) :=
 lD 150 [1,1,1,1,1,1,1,1,1,6,1,1,1,1,6,1] [.a,.aR [.o,.o,.o,.skip,.skip,.skip,.skip,.skip,.skip,(.dec false)],.a,.aR [.o,.o,.o,.o,(.js 0 1 (((a.take 1):Rs).map af.cells)),(.pv (vB c)),(.dec true)],.f,.aR [.o,.o,(.js 0 b (((a.take b):Rs).map af.cells)),(.pv (ae d))]] (Hq (ar h1) (ar h1) (ar h1) (ar h1) (ar h1) (ar h1) (ar h1) (aN h2) (aN h2) (wL aX (a:Rs) (Eq.refl (1:Int)) h3) (aN h2) h4 (aN h2) h5 (wL aX (a:Rs) (Eq.refl (((b:Nat):Int):Int)) h6) h7)
theorem WM(a:Rs)(b:Nat)(c:Rs)(h1:b≤1)(h2:b≠1)(h3:b≤a.length)(h4:Cp 178 [(ae (a.take b))] (ae c)):ah a b (ae c) :=
 lD 150 [1,1,1,1,1,1,1,1,1,1,1,6,1] [.a,.aR [.o,.o,.o,.skip,.skip,.skip,.skip,.skip,.skip,(.dec false)],.a,.aR [.o,.o,.o,.skip,.skip,.skip,(.dec false)],.a,.aR [.o,.o,(.js 0 b (((a.take b):Rs).map af.cells)),(.pv (ae c))]] (Js (ar h1) (ar h1) (ar h1) (ar h1) (ar h1) (ar h1) (ar h1) (aA h2) (aA h2) (aA h2) (aA h2) (wL aX (a:Rs) (Eq.refl (((b:Nat):Int):Int)) h3) h4)
end gP
namespace iE
@[reducible] def fn:Func:=Tryz.f196
def a7:List eH:=focus [0,2,0,0,2,0,0] [.code (ay fn)]
def inv1(a:List af)(My:Nat):St:=⟨[(5,(.pv (ae a))),(6,(eI (a.length:Int))),(7,(eI (My:Int)))],[]⟩
@[reducible] def ah(a:List af)(My:Nat)(r:PV):Prop:=L bp fn a7 (inv1 a My) r
theorem e0 (a : Rs) {r : PV}  (hL : ah a 0 r) : Cp 196 [ae a] r :=
 eG func196 81 [1] [.q,.h 1 (iI (a.length:Int)),.aF [5,6,7]] (y1 (an af.cells a)) hL
theorem l10(a:Rs)(b:Nat)(v:af)(h1:b<a.length)(h2:a[b]? = some v)(h3:v.neg=true):ah a b (vB false) :=
 lD 126 [1,3,1,1,1,1,1,1,1,1,1] [.a,.q,.t,.h 0 (.row b (af.cells v)),.aR [.o,.o,.o,.skip,.skip,.skip,.skip,(.dec true),.o,.skip,.skip,.skip,.skip],.a,.q] (Dg (aj h1) (bT af.cells (Eq.refl (((b:Nat):Int):Int)) h2) h3 h3 h3 h3 h3 (Eq.refl true) (Eq.refl true) (Eq.refl true) (Eq.refl true))
theorem cR(a:Rs)(b:Nat)(v:af)(h1:b<a.length)(h2:a[b]? = some v)(h3:v.neg=false)(h4:0<v.num.length):ah a b (vB false) :=
 lD 126 [1,3,1,1,1,1,1,1,1,1,1,1,1] [.a,.q,.t,.h 0 (.row b (af.cells v)),.aR [.o,.o,.o,.o,.o,(iI (v.num.length:Int)),.o,(.dec false),.o,.skip,.skip,.skip,.skip,(.dec true)],.a,.q] (Js (aj h1) (bT af.cells (Eq.refl (((b:Nat):Int):Int)) h2) h3 h3 h3 (an ag v.num) h3 h3 (aj h4) (aj h4) (aj h4) (aj h4) (aj h4))
theorem kM(a:Rs)(b:Nat)(v:af)(h1:b<a.length)(h2:a[b]? = some v)(h3:v.neg=false)(h4:v.num.length≤0)(h5:0<v.den.length):ah a b (vB false) :=
 lD 126 [1,3,1,1,1,1,1,1,1,1,1,1,1,1,1] [.a,.q,.t,.h 0 (.row b (af.cells v)),.aR [.o,.o,.o,.o,.o,(iI (v.num.length:Int)),.o,(.dec false),.o,.o,.o,(iI (v.den.length:Int)),.o,(.dec false)],.t,.q] (KL (aj h1) (bT af.cells (Eq.refl (((b:Nat):Int):Int)) h2) h3 h3 h3 (an ag v.num) h3 h3 (ar h4) (ar h4) (ar h4) (an ag v.den) (ar h4) (ar h4) (aj h5))
theorem tq(a:Rs)(b:Nat)(v:af){r:PV}(h1:b<a.length)(h2:a[b]? = some v)(h3:v.neg=false)(h4:v.num.length≤0)(h5:v.den.length≤0)(h6:(b+1)<9223372036854775808)(hL:ah a (b+1) r):ah a b r :=
 lG 129 [1,3,1,1,1,1,1,1,1,1,1,1,1,1,1,1] [.a,.q,.t,.h 0 (.row b (af.cells v)),.aR [.o,.o,.o,.o,.o,(iI (v.num.length:Int)),.o,(.dec false),.o,.o,.o,(iI (v.den.length:Int)),.o,(.dec false)],.f,.h 0 (iI (((b+1):Nat):Int)),.aF [5,6,7],.drop [4]] (Hq (aj h1) (bT af.cells (Eq.refl (((b:Nat):Int):Int)) h2) h3 h3 h3 (an ag v.num) h3 h3 (ar h4) (ar h4) (ar h4) (an ag v.den) (ar h4) (ar h4) (ar h5) (aM h6)) hL
theorem Ew(a:Rs)(b:Nat)(h1:a.length≤b):ah a b (vB true) :=
 lD 114 [1] [.a,.q,.f,.q] (y1 (ar h1))
end iE
namespace me
@[reducible] def fn:Func:=Tryz.f178
def a7:List eH:=focus [0,2,0,2,0,0,2,0,0] [.code (ay fn)]
def inv1(j7 a:List af)(sK:Nat):St:=⟨[(3,(.row 25 0 j7.length 3)),(6,(.pv (ae a))),(7,(eI (a.length:Int))),(8,(eI (sK:Int)))],[(25,(.pure ((j7:List af).map af.cells).flatten))]⟩
@[reducible] def ah(j7 a:List af)(sK:Nat)(r:PV):Prop:=L bp fn a7 (inv1 j7 a sK) r
theorem e0 (a : Rs) {r : PV}  (hL : ah [] a 0 r) : Cp 178 [ae a] r :=
 eG func178 87 [1] [.q,.h 0 .nil,.kx 3 25 3,.h 1 (iI (a.length:Int)),.aF [3,6,7,8]] (y1 (an af.cells a)) hL
theorem BF(j7 a:List af)(sK:Nat)(v:af):xZ bp oh fn.ntmps (bM (focus [0,2,0,2,0,0,2,0,0,0,0,2,0,0,2,0,0,0,2] [.code (ay fn)])) (np (bM (focus [0,2,0,2,0,0,2,0,0,0,0,2,0,0,2,0,0,0,2] [.code (ay fn)])) [0]) (ky (bM (focus [0,2,0,2,0,0,2,0,0,0,0,2,0,0,2,0,0,0,2] [.code (ay fn)])) [0]) [.none,.none,.none,.none,.none,.none,(.js (v.num:List UInt32).length 0 ((v.num:List UInt32).map ag)),.none,.none,.none,(.js (v.den:List UInt32).length 0 ((v.den:List UInt32).map ag)),.none,.none,(.app ((j7++[v]):List af).length (((j7++[v]):List af).map af.cells).flatten),.none] (Dd oh fn.ntmps (bM (focus [0,2,0,2,0,0,2,0,0,0,0,2,0,0,2,0,0,0,2] [.code (ay fn)])) [0] ⟨[(3,(.row 25 0 j7.length 3)),(5,(.ptr 5 0)),(6,(.pv (ae a))),(7,(eI (a.length:Int))),(8,(eI (sK:Int)))],[(5,(.lit [(eB v.neg),(.pv (aa v.num)),(.pv (aa v.den))])),(25,(.pure ((j7:List af).map af.cells).flatten))]⟩)=x5 bp oh fn.ntmps (bM (focus [0,2,0,2,0,0,2,0,0,0,0,2,0,0,2,0,0,0,2] [.code (ay fn)])) (np (bM (focus [0,2,0,2,0,0,2,0,0,0,0,2,0,0,2,0,0,0,2] [.code (ay fn)])) [0]) (ky (bM (focus [0,2,0,2,0,0,2,0,0,0,0,2,0,0,2,0,0,0,2] [.code (ay fn)])) [0]) [.none,.none,.none,.none,.none,.none,(.js (v.num:List UInt32).length 0 ((v.num:List UInt32).map ag)),.none,.none,.none,(.js (v.den:List UInt32).length 0 ((v.den:List UInt32).map ag)),.none,.none,(.app ((j7++[v]):List af).length (((j7++[v]):List af).map af.cells).flatten),.none] (Dd oh fn.ntmps (bM (focus [0,2,0,2,0,0,2,0,0,0,0,2,0,0,2,0,0,0,2] [.code (ay fn)])) [0] ⟨[(3,(.row 25 0 j7.length 3)),(5,(.ptr 5 0)),(6,(.pv (ae a))),(7,(eI (a.length:Int))),(8,(eI (sK:Int)))],[(5,(.lit [(eB v.neg),(.pv (aa v.num)),(.pv (aa v.den))])),(25,(.pure ((j7:List af).map af.cells).flatten))]⟩):=by kernel_rfl
theorem l10(b a:Rs)(c:Nat)(v:af){r:PV}(h1:c<a.length)(h2:a[c]? = some v)(h3:(([]:Ws)++v.num:Ws).length*4≤140737488355328)(h4:(([]:Ws)++v.den:Ws).length*4≤140737488355328)(h5:((b++[v]):Rs).length*56≤140737488355328)(h6:(c+1)<9223372036854775808)(hL:ah (b++[v]) a (c+1) r):ah b a c r :=
 lG 126 [1,3,6,3,6,3,6,1,1] [.a,.q,.t,.h 0 (.row c (af.cells v)),.aF [3,5,6,7,8],.any [0] [.none,.none,.none,.none,.none,.none,(.js (v.num:Ws).length 0 ((v.num:Ws).map ag)),.none,.none,.none,(.js (v.den:Ws).length 0 ((v.den:Ws).map ag)),.none,.none,(.app ((b++[v]):Rs).length (((b++[v]):Rs).map af.cells).flatten),.none],.h 0 (iI (((c+1):Nat):Int)),.aF [3,6,7,8],.drop [24,5]] (y9 (aj h1) (bT af.cells (Eq.refl (((c:Nat):Int):Int)) h2) (rQ aW ([]:Ws) (v.num:Ws) 4 (Eq.refl ([]:Ws).length) h3 rfl) (df aW (v.num:Ws) (Eq.refl (v.num:Ws).length)) (rQ aW ([]:Ws) (v.den:Ws) 4 (Eq.refl ([]:Ws).length) h4 rfl) (df aW (v.den:Ws) (Eq.refl (v.den:Ws).length)) (iK aX (b:Rs) ([v]:Rs) 56 (Eq.refl (b:Rs).length) (Eq.refl ([v]:Rs).length) h5 rfl) (BF b a c v) (aM h6)) hL
theorem cR(b a:Rs)(c:Nat)(h1:a.length≤c):ah b a c (ae b) :=
 lD 120 [1,3] [.a,.q,.f,.q,.fW 2 ((b:Rs).map af.cells)] (y2 (ar h1) (df aX (b:Rs) (Eq.refl (b:Rs).length)))
end me
namespace lE
theorem e0(t:bz)(a b:Rs)(c:Bool)(h1:a.length<b.length)(h2:Cp 197 [ae b] (vB c))(h3:c=true):Cp 117 [t.pv,ae a,ae b] (ae []) :=
 eD func117 102 [1,1,1,1,1,1,1] [.q,.aR [.o,(iI (a.length:Int)),.o,(iI (b.length:Int))],.t,.q,.aR [.o,(.pv (vB c)),.o,.skip,.skip,(.dec true)],.a,.q] (y7 (an af.cells a) (an af.cells b) (aj h1) h2 h3 h3 h3)
theorem e1(t:bz)(a b:Rs)(c d:Bool)(h1:a.length<b.length)(h2:Cp 197 [ae b] (vB c))(h3:c=false)(h4:Cp 197 [ae a] (vB d))(h5:d=true):Cp 117 [t.pv,ae a,ae b] (ae []) :=
 eD func117 102 [1,1,1,1,1,1,1,1,1] [.q,.aR [.o,(iI (a.length:Int)),.o,(iI (b.length:Int))],.t,.q,.aR [.o,(.pv (vB c)),.o,.o,(.pv (vB d)),(.dec false)],.t,.q] (y9 (an af.cells a) (an af.cells b) (aj h1) h2 h3 h3 h4 h3 h5)
theorem e5(t:bz)(a b:Rs)(c:Bool)(h1:b.length≤a.length)(h2:Cp 197 [ae a] (vB c))(h3:c=true):Cp 117 [t.pv,ae a,ae b] (ae []) :=
 eD func117 102 [1,1,1,1,1,1,1] [.q,.aR [.o,(iI (a.length:Int)),.o,(iI (b.length:Int))],.f,.aR [.o,(.pv (vB c)),.o,.skip,.skip,(.dec true)],.a,.q] (y7 (an af.cells a) (an af.cells b) (ar h1) h2 h3 h3 h3)
theorem e6(t:bz)(a b:Rs)(c d:Bool)(h1:b.length≤a.length)(h2:Cp 197 [ae a] (vB c))(h3:c=false)(h4:Cp 197 [ae b] (vB d))(h5:d=true):Cp 117 [t.pv,ae a,ae b] (ae []) :=
 eD func117 102 [1,1,1,1,1,1,1,1,1] [.q,.aR [.o,(iI (a.length:Int)),.o,(iI (b.length:Int))],.f,.aR [.o,(.pv (vB c)),.o,.o,(.pv (vB d)),(.dec false)],.t,.q] (y9 (an af.cells a) (an af.cells b) (ar h1) h2 h3 h3 h4 h3 h5)
theorem e7(t:bz)(a b:Rs)(c d:Bool)(v v1 g:af)(h1:b.length≤a.length)(h2:Cp 197 [ae a] (vB c))(h3:c=false)(h4:Cp 197 [ae b] (vB d))(h5:d=false)(h6:a.length=1)(h7:a[0]? = some v)(h8:b[0]? = some v1)(h9:Cp 198 [v.pv,v1.pv] g.pv):Cp 117 [t.pv,ae a,ae b] (ae [g]) :=
 eD func117 111 [1,1,1,1,1,1,1,1,1,1,1,3,3,1,3] [.q,.aR [.o,(iI (a.length:Int)),.o,(iI (b.length:Int))],.f,.aR [.o,(.pv (vB c)),.o,.o,(.pv (vB d)),(.dec false)],.f,.h 1 (iI (a.length:Int)),.t,dr 8 1 [.none,(.row 0 (af.cells v)),.none,.none,(.row 0 (af.cells v1)),.none,(.pv g.pv)],.fW 6 (([g]:Rs).map af.cells)] (KL (an af.cells a) (an af.cells b) (ar h1) h2 h3 h3 h4 h3 h5 (an af.cells a) (aN h6) (bT af.cells (Eq.refl (0:Int)) h7) (bT af.cells (Eq.refl (0:Int)) h8) h9 (df aX ([g]:Rs) (Eq.refl ([g]:Rs).length)))
end lE
namespace mQ
@[reducible] def fn:Func:=Tryz.f197
def a7:List eH:=focus [0,2,0,0,2,0,0] [.code (ay fn)]
def inv1(a:List af)(My:Nat):St:=⟨[(5,(.pv (ae a))),(6,(eI (a.length:Int))),(7,(eI (My:Int)))],[]⟩
@[reducible] def ah(a:List af)(My:Nat)(r:PV):Prop:=L bp fn a7 (inv1 a My) r
theorem e0 (a : Rs) {r : PV}  (hL : ah a 0 r) : Cp 197 [ae a] r :=
 eG func197 81 [1] [.q,.h 1 (iI (a.length:Int)),.aF [5,6,7]] (y1 (an af.cells a)) hL
theorem l10(a:Rs)(b:Nat)(v:af)(c:Int)(h1:b<a.length)(h2:a[b]? = some v)(h3:Cp 33 [v.pv] (vI c))(h4:c≠0):ah a b (vB false) :=
 lD 126 [1,3,1,1] [.a,.q,.t,.h 0 (.row b (af.cells v)),.h 1 (.pv (vI c)),.t,.q] (y4 (aj h1) (bT af.cells (Eq.refl (((b:Nat):Int):Int)) h2) h3 (lx h4))
theorem cR(a:Rs)(b:Nat)(v:af)(c:Int){r:PV}(h1:b<a.length)(h2:a[b]? = some v)(h3:Cp 33 [v.pv] (vI c))(h4:c=0)(h5:(b+1)<9223372036854775808)(hL:ah a (b+1) r):ah a b r :=
 lG 129 [1,3,1,1,1] [.a,.q,.t,.h 0 (.row b (af.cells v)),.h 1 (.pv (vI c)),.f,.h 0 (iI (((b+1):Nat):Int)),.aF [5,6,7],.drop [4]] (y5 (aj h1) (bT af.cells (Eq.refl (((b:Nat):Int):Int)) h2) h3 (gf h4) (aM h5)) hL
theorem kM(a:Rs)(b:Nat)(h1:a.length≤b):ah a b (vB true) :=
 lD 114 [1] [.a,.q,.f,.q] (y1 (ar h1))
end mQ
namespace o8
@[reducible] def fn:Func:=Tryz.f118
def a7:List eH:=focus [0,2,0,2,0,2,0,0,2,0,0] [.code (ay fn)]
def inv1(n:Nat)(wid:List af)(RA:Nat)(lY:List af):St:=⟨[(0,(.row 14 0 n 3)),(1,(.pv (ae wid))),(19,(eI (n:Int))),(20,(eI (RA:Int)))],[(14,(.pure ((lY:List af).map af.cells).flatten))]⟩
@[reducible] def ah(n:Nat)(wid:List af)(RA:Nat)(lY:List af)(r:PV):Prop:=L bp fn a7 (inv1 n wid RA lY) r
theorem e0(a b z:Rs)(n:Nat)(c:Rs){r:PV}(h1:av bp 177 [.pv (ae a),.pv (vI (((max a.length b.length):Nat):Int))] [] (.row 0 0 n 3) [(0,(.pure ((z:Rs).map af.cells).flatten))])(h2:Cp 177 [ae b,(vI (((max a.length b.length):Nat):Int))] (ae c))(hL:ah n c 0 z r):Cp 118 [ae a,ae b] r :=
 eG func118 93 [1,1,1,1,1] [.q,.aR [.o,(iI (a.length:Int)),.o,(iI (b.length:Int)),(iI (((max a.length b.length):Nat):Int))],.aR [.o,.o,(.bO [] (some (0,14)) (.row 0 0 n 3) [(0,(.pure ((z:Rs).map af.cells).flatten))]),.o,.o,(.pv (ae c))],.q,.aF [0,1,19,20]] (y5 (an af.cells a) (an af.cells b) (vv a.length b.length) h1 h2) hL
theorem l10(n:Nat)(b:Rs)(c:Nat)(d:Rs)(v v1 g:af){r:PV}(h1:c<n)(h2:d[c]? = some v)(h3:b[c]? = some v1)(h4:Cp 91 [v.pv,v1.pv] g.pv)(h5:c<d.length)(h6:(c+1)<9223372036854775808)(hL:ah n b (c+1) (d.set c g) r):ah n b c d r :=
 lG 132 [1,2,2,3,1,2,2,1] [.a,.q,.t,.q,dr 12 1 [.none,.none,.none,.none,(.nat c),(.Hv [vB v.neg,aa v.num,aa v.den]),.none,.none,(.row c (af.cells v1)),.none,(.pv g.pv),(.nat c),(.cells (.pure (((d.set c g):Rs).map af.cells).flatten))],.h 0 (iI (((c+1):Nat):Int)),.aF [0,1,19,20]] (y8 (aj h1) (cj (Eq.refl (((c:Nat):Int):Int)) h1) (sI aX h2) (bT af.cells (Eq.refl (((c:Nat):Int):Int)) h3) h4 (cj (Eq.refl (((c:Nat):Int):Int)) h1) (hJ aX (d:Rs) g h5) (aM h6)) hL
theorem cR(n:Nat)(b:Rs)(c:Nat)(d:Rs)(h1:n≤c)(h2:n=d.length):ah n b c d (ae d) :=
 lD 126 [1,3] [.a,.q,.f,.q,.fW 4 ((d:Rs).map af.cells)] (y2 (ar h1) (df aX (d:Rs) h2))
end o8
namespace BG
theorem e0(a:Rs)(n:Int)(m:Nat)(h1:n=(m:Int))(h2:56*m≤140737488355328)(h3:(min a.length m)≤(List.replicate m (⟨false,[],[]⟩:af):Rs).length)(h4:m=(a.take (min a.length m)++(List.replicate m (⟨false,[],[]⟩:af)).drop (min a.length m)).length):Cp 177 [ae a,vI n] (ae (a.take (min a.length m)++(List.replicate m (⟨false,[],[]⟩:af)).drop (min a.length m))) :=
 eD func177 84 [5,4,3] [.q,.h 1 (.app m ((List.replicate m (⟨false,[],[]⟩:af):Rs).map af.cells).flatten),.h 2 (.app (min a.length m) (((a.take (min a.length m)++(List.replicate m (⟨false,[],[]⟩:af)).drop (min a.length m)):Rs).map af.cells).flatten),.q,.fW 4 (((a.take (min a.length m)++(List.replicate m (⟨false,[],[]⟩:af)).drop (min a.length m)):Rs).map af.cells)] (y3 (sR af.cells (⟨false,[],[]⟩:af) 56 m h1 h2 rfl) (Mn aX (List.replicate m (⟨false,[],[]⟩:af):Rs) (a:Rs) (Eq.refl (min a.length m)) h3) (df aX ((a.take (min a.length m)++(List.replicate m (⟨false,[],[]⟩:af)).drop (min a.length m)):Rs) h4))
end BG
namespace zd
theorem e0(a:Rs)(n:Int)(m:Nat)(h1:n=(m:Int))(h2:56*m≤140737488355328)(h3:(min a.length m)≤(List.replicate m (⟨false,[],[]⟩:af):Rs).length):av bp 177 [(.pv (ae a)),eI n] [] (.row 0 0 m 3) [(0,(.pure ((((a.take (min a.length m)++(List.replicate m (⟨false,[],[]⟩:af)).drop (min a.length m)).take m):Rs).map af.cells).flatten))] :=
 KJ func177 84 [5,4,1] [.q,.h 1 (.app m ((List.replicate m (⟨false,[],[]⟩:af):Rs).map af.cells).flatten),.h 2 (.app (min a.length m) (((a.take (min a.length m)++(List.replicate m (⟨false,[],[]⟩:af)).drop (min a.length m)):Rs).map af.cells).flatten),.q,.sV 7 0,.cut 0 (m*3) ((((a.take (min a.length m)++(List.replicate m (⟨false,[],[]⟩:af)).drop (min a.length m)).take m):Rs).map af.cells).flatten,.ord [0]] (y3 (sR af.cells (⟨false,[],[]⟩:af) 56 m h1 h2 rfl) (Mn aX (List.replicate m (⟨false,[],[]⟩:af):Rs) (a:Rs) (Eq.refl (min a.length m)) h3) (uW aX ((a.take (min a.length m)++(List.replicate m (⟨false,[],[]⟩:af)).drop (min a.length m)):Rs) m))
end zd
namespace nD
@[reducible] def fn:Func:=Tryz.f120
def a7:List eH:=focus [0,2,0,2,0,0,2,0,0] [.code (ay fn)]
def inv1(a:List af)(BD:Nat)(cU:List af):St:=⟨[(0,(.pv (ae a))),(3,(.row 7 0 a.length 3)),(9,(eI (a.length:Int))),(10,(eI (BD:Int)))],[(7,(.pure ((cU:List af).map af.cells).flatten))]⟩
@[reducible] def ah(a:List af)(BD:Nat)(cU:List af)(r:PV):Prop:=L bp fn a7 (inv1 a BD cU) r
theorem e0(a:Rs){r:PV}(h1:56*a.length≤140737488355328)(hL:ah a 0 (List.replicate a.length (⟨false,[],[]⟩:af)) r):Cp 120 [ae a] r :=
 eG func120 87 [1,5,1] [.q,.aR [.o,(iI (a.length:Int)),(.app a.length ((List.replicate a.length (⟨false,[],[]⟩:af):Rs).map af.cells).flatten)],.h 1 (iI (a.length:Int)),.aF [0,3,9,10]] (y3 (an af.cells a) (sR af.cells (⟨false,[],[]⟩:af) 56 a.length (Eq.refl (((a.length:Nat):Int):Int)) h1 rfl) (an af.cells a)) hL
theorem l10(a:Rs)(b:Nat)(c:Rs)(v d:af){r:PV}(h1:b<a.length)(h2:a[b]? = some v)(h3:Cp 87 [v.pv] d.pv)(h4:b<c.length)(h5:(b+1)<9223372036854775808)(hL:ah a (b+1) (c.set b d) r):ah a b c r :=
 lG 126 [1,3,1,2,2,1] [.a,.q,.t,.q,.aR [.o,.o,.o,.o,(.row b (af.cells v)),.o,(.pv d.pv),(.nat b),(.cells (.pure (((c.set b d):Rs).map af.cells).flatten))],.h 0 (iI (((b+1):Nat):Int)),.aF [0,3,9,10]] (y6 (aj h1) (bT af.cells (Eq.refl (((b:Nat):Int):Int)) h2) h3 (cj (Eq.refl (((b:Nat):Int):Int)) h1) (hJ aX (c:Rs) d h4) (aM h5)) hL
theorem cR(a:Rs)(b:Nat)(c:Rs)(h1:a.length≤b)(h2:a.length=c.length):ah a b c (ae c) :=
 lD 120 [1,3] [.a,.q,.f,.q,.fW 2 ((c:Rs).map af.cells)] (y2 (ar h1) (df aX (c:Rs) h2))
end nD
namespace Dj
theorem e0(t:bz)(a b c:Rs)(h1:Cp 115 [t.pv,(dj (aC af.cells) [a])] .az)(h2:Cp 120 [ae a] (ae b))(h3:Cp 116 [ae b] (ae c)):Cp 179 [t.pv,ae a] (.aB [ae c,.az]) :=
 eD func179 93 [3,1,1,1] [.q,.aR [.o,.o,(.js 0 0 (([a]:List (Rs)).map (aC af.cells))),(.pv .az)],.q,.a,.aR [.o,(.pv (ae b)),(.pv (ae c))]] (y4 (jY (rO af.cells) ([a]:List (Rs))) h1 h2 h3)
end Dj
namespace Dk
theorem e0(t:bz)(a b c d:Rs)(h1:Cp 115 [t.pv,(dj (aC af.cells) [a,b])] .az)(h2:Cp 117 [t.pv,ae a,ae b] (ae c))(h3:Cp 116 [ae c] (ae d)):Cp 47 [t.pv,ae a,ae b] (.aB [ae d,.az]) :=
 eD func47 93 [3,1,1,1] [.q,.aR [.o,.o,.o,(.js 0 0 (([a,b]:List (Rs)).map (aC af.cells))),(.pv .az)],.q,.a,.aR [.o,.o,.o,(.pv (ae c)),(.pv (ae d))]] (y4 (jY (rO af.cells) ([a,b]:List (Rs))) h1 h2 h3)
end Dk
namespace Dl
theorem e0(t:bz)(a b c d g:Rs)(h1:Cp 115 [t.pv,(dj (aC af.cells) [a,b])] .az)(h2:Cp 120 [ae b] (ae c))(h3:Cp 118 [ae a,ae c] (ae d))(h4:Cp 116 [ae d] (ae g)):Cp 251 [t.pv,ae a,ae b] (.aB [ae g,.az]) :=
 eD func251 93 [3,1,1,1,1] [.q,.aR [.o,.o,.o,(.js 0 0 (([a,b]:List (Rs)).map (aC af.cells))),(.pv .az)],.q,.a,.aR [.o,.o,(.pv (ae c)),(.pv (ae d)),(.pv (ae g))]] (y5 (jY (rO af.cells) ([a,b]:List (Rs))) h1 h2 h3 h4)
end Dl
namespace Dm
theorem e0(t:bz)(a b c d:Rs)(h1:Cp 115 [t.pv,(dj (aC af.cells) [a,b])] .az)(h2:Cp 118 [ae a,ae b] (ae c))(h3:Cp 116 [ae c] (ae d)):Cp 48 [t.pv,ae a,ae b] (.aB [ae d,.az]) :=
 eD func48 93 [3,1,1,1] [.q,.aR [.o,.o,.o,(.js 0 0 (([a,b]:List (Rs)).map (aC af.cells))),(.pv .az)],.q,.a,.aR [.o,.o,(.pv (ae c)),(.pv (ae d))]] (y4 (jY (rO af.cells) ([a,b]:List (Rs))) h1 h2 h3)
end Dm
namespace Dn
theorem e2(t:bz)(a:Rs)(b:Bool)(c:Rs)(v:af)(h1:Cp 252 [t.pv,ae a] (vB b))(h2:b=true)(h3:Cp 116 [ae a] (ae c))(h4:c.length≠0)(h5:c.length=1)(h6:c[0]? = some v):Cp 181 [t.pv,ae a] (.aB [v.pv,vB true]) :=
 eD func181 123 [1,1,1,1,1,1,3] [.q,.h 2 (.pv (vB b)),.f,.h 1 (.pv (ae c)),.h 1 (iI (c.length:Int)),.q,.f,.q,.t,.h 1 (.row 0 (af.cells v))] (y7 h1 (aO h2) h3 (an af.cells c) (aA h4) (aN h5) (bT af.cells (Eq.refl (0:Int)) h6))
end Dn
namespace ze
theorem e0(t:bz)(a:Rs)(h1:Cp 115 [t.pv,(dj (aC af.cells) [a])] .az):Cp 252 [t.pv,ae a] (vB true) :=
 eD func252 72 [3,1] [.q,.aR [.o,.o,(.js 0 0 (([a]:List (Rs)).map (aC af.cells))),(.pv .az)]] (y2 (jY (rO af.cells) ([a]:List (Rs))) h1)
end ze
namespace BH
theorem e0(t:bz)(a b c:Rs)(h1:Cp 115 [t.pv,(dj (aC af.cells) [a])] .az)(h2:Cp 178 [ae a] (ae b))(h3:t.roots.length≤64)(h4:(1*2^t.roots.length)<9223372036854775808)(h5:Cp 177 [ae b,(vI (((1*2^t.roots.length):Nat):Int))] (ae c)):Cp 97 [t.pv,ae a] (.aB [ae c,.az]) :=
 eD func97 93 [3,1,1,1,1,1] [.q,.aR [.o,.o,(.js 0 0 (([a]:List (Rs)).map (aC af.cells))),(.pv .az)],.q,.a,dr 7 2 [.none,(.pv (ae b)),.none,.none,(iI (t.roots.length:Int)),(iI (((1*2^t.roots.length):Nat):Int)),(.pv (ae c))]] (y6 (jY (rO af.cells) ([a]:List (Rs))) h1 h2 (an (aC af.cells) t.roots) (fU (k := .i64) h3 h4) h5)
end BH
namespace Gf
theorem e0(x a:af)(b:Rs)(h1:Cp 91 [x.pv,(⟨false,[],[]⟩:af).pv] a.pv)(h2:Cp 116 [(ae [a])] (ae b)):Cp 49 [x.pv] (ae b) :=
 eD func49 72 [1,3,1] [.q,.aR [.o,.o,(.pv a.pv),(.js 0 0 (([a]:Rs).map af.cells)),(.pv (ae b))]] (y3 h1 (jY aX ([a]:Rs)) h2)
end Gf
namespace cN
@[reducible] def fn:Func:=Tryz.f98
def a7:List eH:=focus [0,2,0,2,0,2,0,0,0] [.code (ay fn)]
def inv1(WR:List af)(EB:Nat)(t:bz):St:=⟨[(2,(.ptr 2 0)),(6,(.pv (ae WR))),(7,(eI (EB:Int)))],[(2,(.lit [(.pv (dj (aC af.cells) t.roots))]))]⟩
@[reducible] def ah(WR:List af)(EB:Nat)(t:bz)(r:PV):Prop:=L bp fn a7 (inv1 WR EB t) r
def oN:List eH:=focus [0,2,0,2,0,2,0,0,0,0,0,0,2,1,2,2,2,2,0,2,0,0,2,1,2,0,2,0,0,2,0,0] [.code (ay fn)]
def inv2(RC:List (List af))(RD:Int)(t:bz):St:=⟨[(2,(.ptr 2 0)),(10,(.pv (dj (aC af.cells) RC))),(11,(eI RD))],[(2,(.lit [(.pv (dj (aC af.cells) t.roots))]))]⟩
@[reducible] def bK(RC:List (List af))(RD:Int)(t:bz)(r:PV):Prop:=L bp fn oN (inv2 RC RD t) r
def Mu:List eH:=focus [0,2,0,2,0,2,0,0,0,0,0,0,2,1,2,2,2,2,0,2,0,0,2,1,2,0,2,0,0,2,0,0,0,0,0,2,1,2,2,2,2,0,2,0,0,2,0,0] [.code (ay fn)]
def Mv(Aj:List af)(RF:List (List af))(RG RH:Nat)(t:bz):St:=⟨[(2,(.ptr 2 0)),(12,(.row 72 0 Aj.length 3)),(54,(.pv (dj (aC af.cells) RF))),(55,(eI (RG:Int))),(56,(eI (RH:Int)))],[(2,(.lit [(.pv (dj (aC af.cells) t.roots))])),(72,(.pure ((Aj:List af).map af.cells).flatten))]⟩
@[reducible] def mB(Aj:List af)(RF:List (List af))(RG RH:Nat)(t:bz)(r:PV):Prop:=L bp fn Mu (Mv Aj RF RG RH t) r
theorem e0(t:bz)(x a:Rs){r:PV}(h1:Cp 116 [ae x] (ae a))(hL:ah a 0 t r):Cp 98 [t.pv,ae x] r :=
 eG func98 87 [1] [.q,.h 1 (.pv (ae a)),.q,.aF [2,6,7]] (y1 h1) hL
theorem l10(b:Rs)(c:Nat)(t:bz){r:PV}(h1:c≤64)(h2:(1*2^c)<9223372036854775808)(h3:(1*2^c)<b.length)(h4:(c+1)<9223372036854775808)(hL:ah b (c+1) t r):ah b c t r :=
 lG 114 [1,1,1,1] [.a,.aR [.o,(iI (((1*2^c):Nat):Int)),.o,(iI (b.length:Int))],.t,.h 1 (iI (((c+1):Nat):Int)),.aF [2,6,7]] (y4 (fU (k := .i64) h1 h2) (an af.cells b) (aj h3) (aM h4)) hL
theorem cR(b:Rs)(c:Nat)(t:bz)(d:Rs)(of:af)(g:Rs){r:PV}(h1:c≤64)(h2:(1*2^c)<9223372036854775808)(h3:b.length≤(1*2^c))(h4:Cp 179 [t.pv,ae b] (.aB [ae d,.az]))(h5:Cp 46 [vI 1] of.pv)(h6:Cp 49 [of.pv] (ae g))(hL:bK [d,g] (c:Int) t r):ah b c t r :=
 lG 156 [1,1,1,1,1,1,3] [.a,.aR [.o,(iI (((1*2^c):Nat):Int)),.o,(iI (b.length:Int))],.f,.h 2 (.pv (.aB [ae d,.az])),.q,.a,.aR [.o,(.pv of.pv),(.pv (ae g))],.q,.fW 10 (([d,g]:List (Rs)).map (aC af.cells)),.aF [2,10,11]] (y7 (fU (k := .i64) h1 h2) (an af.cells b) (ar h3) h4 h5 h6 (df (rO af.cells) ([d,g]:List (Rs)) (Eq.refl ([d,g]:List (Rs)).length))) hL
theorem Ac(b:List (Rs))(c:Int)(t:bz)(d:List (Rs)){r:PV}(h1:0<c)(h2:Cp 180 [t.pv,(dj (aC af.cells) b),vI c] (.aB [(dj (aC af.cells) d),.az]))(h3:ax (c-1))(hL:bK d (c-1) t r):bK b c t r :=
 lG 204 [1,1,1] [.a,.q,.t,.h 3 (.pv (.aB [(dj (aC af.cells) d),.az])),.q,.a,.h 1 (iI (c-1)),.aF [2,10,11]] (y3 (bR h1) h2 (aT h3)) hL
theorem Mt(b:List (Rs))(c:Int)(t:bz){r:PV}(h1:c≤0)(hL:mB [] b b.length 0 t r):bK b c t r :=
 lG 204 [1,1] [.a,.q,.f,.h 0 .nil,.kx 12 72 3,.h 1 (iI (b.length:Int)),.aF [2,12,54,55,56],.ord [2,72]] (y2 (bf h1) (an (aC af.cells) b)) hL
theorem TV(b:Rs)(c:List (Rs))(d g:Nat)(t:bz)(v:Rs)(i:af)(j:Bool){r:PV}(h1:g<d)(h2:c[g]? = some v)(h3:Cp 181 [t.pv,ae v] (.aB [i.pv,vB j]))(h4:j=true)(h5:((b++[i]):Rs).length*56≤140737488355328)(h6:(g+1)<9223372036854775808)(hL:mB (b++[i]) c d (g+1) t r):mB b c d g t r :=
 lG 264 [1,3,1,1,6,1] [.a,.q,.t,.h 0 (.row g ((aC af.cells) v)),.h 2 (.pv (.aB [i.pv,vB j])),.q,.f,.h 3 (.app ((b++[i]):Rs).length (((b++[i]):Rs).map af.cells).flatten),.h 0 (iI (((g+1):Nat):Int)),.aF [2,12,54,55,56],.drop [71,15],.ord [2,72]] (y6 (aj h1) (bT (aC af.cells) (Eq.refl (((g:Nat):Int):Int)) h2) h3 (aO h4) (iK aX (b:Rs) ([i]:Rs) 56 (Eq.refl (b:Rs).length) (Eq.refl ([i]:Rs).length) h5 rfl) (aM h6)) hL
theorem Z7(b:Rs)(c:List (Rs))(d g:Nat)(t:bz)(i:Rs)(h1:d≤g)(h2:Cp 182 [ae b] (ae i)):mB b c d g t (.aB [ae i,.az]) :=
 lD 237 [1,3,1] [.a,.q,.f,.fW 12 ((b:Rs).map af.cells),.h 1 (.pv (ae i))] (y3 (ar h1) (df aX (b:Rs) (Eq.refl (b:Rs).length)) h2)
end cN
namespace cy
@[reducible] def fn:Func:=Tryz.f180
def a7:List eH:=focus [0,2,0,2,0,2,0,0,2,0,0] [.code (ay fn)]
def inv1(c:List (List af))(j:Int)(k:Nat)(dk dm:List (List af))(wU:Nat)(t:bz):St:=⟨[(1,(.pv (dj (aC af.cells) c))),(2,(eI j)),(3,(.ptr 3 0)),(8,(eI (((1*2^k):Nat):Int))),(9,(.row 44 0 dk.length 1)),(10,(.row 50 0 dm.length 1)),(23,(.pv (dj (aC af.cells) c))),(24,(eI (c.length:Int))),(25,(eI (wU:Int)))],[(3,(.lit [(.pv (dj (aC af.cells) t.roots))])),(44,(.pure ((dk:List (List af)).map (aC af.cells)).flatten)),(50,(.pure ((dm:List (List af)).map (aC af.cells)).flatten))]⟩
@[reducible] def ah(c:List (List af))(j:Int)(k:Nat)(dk dm:List (List af))(wU:Nat)(t:bz)(r:PV):Prop:=L bp fn a7 (inv1 c j k dk dm wU t) r
def oN:List eH:=focus [0,2,0,2,0,2,0,0,2,0,0,0,0,2,0,1,2,2,2,2,0,2,0,0,2,0,0] [.code (ay fn)]
def inv2(c:List (List af))(j:Int)(dk dm:List (List af))(m CO:Nat)(t:bz)(nc:List (List af)):St:=⟨[(1,(.pv (dj (aC af.cells) c))),(2,(eI j)),(3,(.ptr 3 0)),(9,(.row 44 0 dk.length 1)),(10,(.row 50 0 dm.length 1)),(14,(.row 56 0 m 1)),(58,(eI (c.length:Int))),(59,(eI (CO:Int)))],[(3,(.lit [(.pv (dj (aC af.cells) t.roots))])),(44,(.pure ((dk:List (List af)).map (aC af.cells)).flatten)),(50,(.pure ((dm:List (List af)).map (aC af.cells)).flatten)),(56,(.pure ((nc:List (List af)).map (aC af.cells)).flatten))]⟩
@[reducible] def bK(c:List (List af))(j:Int)(dk dm:List (List af))(m CO:Nat)(t:bz)(nc:List (List af))(r:PV):Prop:=L bp fn oN (inv2 c j dk dm m CO t nc) r
def Mu:List eH:=focus [0,2,0,2,0,2,0,0,2,0,0,0,0,2,0,1,2,2,2,2,0,2,0,0,2,0,0,0,0,2,0,0,2,0,0,0,2,0,2,0,0] [.code (ay fn)]
def Mv(c:List (List af))(j:Int)(dk dm:List (List af))(m KM CO zO:Nat)(t:bz)(nc:List (List af)):St:=⟨[(1,(.pv (dj (aC af.cells) c))),(2,(eI j)),(3,(.ptr 3 0)),(9,(.row 44 0 dk.length 1)),(10,(.row 50 0 dm.length 1)),(14,(.row 56 0 m 1)),(15,(eI (KM:Int))),(58,(eI (c.length:Int))),(59,(eI (CO:Int))),(63,(eI (c.length:Int))),(64,(eI (zO:Int)))],[(3,(.lit [(.pv (dj (aC af.cells) t.roots))])),(44,(.pure ((dk:List (List af)).map (aC af.cells)).flatten)),(50,(.pure ((dm:List (List af)).map (aC af.cells)).flatten)),(56,(.pure ((nc:List (List af)).map (aC af.cells)).flatten))]⟩
@[reducible] def mB(c:List (List af))(j:Int)(dk dm:List (List af))(m KM CO zO:Nat)(t:bz)(nc:List (List af))(r:PV):Prop:=L bp fn Mu (Mv c j dk dm m KM CO zO t nc) r
theorem e0(t:bz)(c:List (Rs))(j:Int)(k:Nat){r:PV}(h1:ax (j-1))(h2:(j-1)=(k:Int))(h3:k≤64)(h4:(1*2^k)<9223372036854775808)(hL:ah c j k [] [] 0 t r):Cp 180 [t.pv,(dj (aC af.cells) c),vI j] r :=
 eG func180 93 [1,1,1] [.q,.aR [.o,(iI (j-1)),(iI (((1*2^k):Nat):Int))],.aR [.nil,.nil],.kx 9 44 1,.kx 10 50 1,.h 1 (iI (c.length:Int)),.aF [1,2,3,8,9,10,23,24,25],.ord [3,44,50]] (y3 (aT h1) (OS h2 (fU (k := .i64) h3 h4)) (an (aC af.cells) c)) hL
theorem BF(c:List (List af))(j:Int)(k:Nat)(dk dm:List (List af))(wU:Nat)(t:bz)(v:List af)(m:Nat):xZ bp oh fn.ntmps (bM (focus [0,2,0,2,0,2,0,0,2,0,0,0,0,2,0,0,2,0,0,0,2,0,2] [.code (ay fn)])) (np (bM (focus [0,2,0,2,0,2,0,0,2,0,0,0,0,2,0,0,2,0,0,0,2,0,2] [.code (ay fn)])) [0,1,2,6,7,8]) (ky (bM (focus [0,2,0,2,0,2,0,0,2,0,0,0,0,2,0,0,2,0,0,0,2,0,2] [.code (ay fn)])) [0,1,2,6,7,8]) [.none,.none,.none,(.js 0 (1*2^k) (((((v:List af)++List.replicate m (⟨false,[],[]⟩:af)).take (1*2^k)):List af).map af.cells)),.none,(.app ((dk++[(((v:List af)++List.replicate m (⟨false,[],[]⟩:af)).take (1*2^k))]):List (List af)).length (((dk++[(((v:List af)++List.replicate m (⟨false,[],[]⟩:af)).take (1*2^k))]):List (List af)).map (aC af.cells)).flatten),.none,.none,.none,(.js (1*2^k) ((((v:List af)++List.replicate m (⟨false,[],[]⟩:af)):List af).length) (((((v:List af)++List.replicate m (⟨false,[],[]⟩:af)).drop (1*2^k)):List af).map af.cells)),.none,(.app ((dm++[(((v:List af)++List.replicate m (⟨false,[],[]⟩:af)).drop (1*2^k))]):List (List af)).length (((dm++[(((v:List af)++List.replicate m (⟨false,[],[]⟩:af)).drop (1*2^k))]):List (List af)).map (aC af.cells)).flatten),.none,.none] (Dd oh fn.ntmps (bM (focus [0,2,0,2,0,2,0,0,2,0,0,0,0,2,0,0,2,0,0,0,2,0,2] [.code (ay fn)])) [0,1,2,6,7,8] ⟨[(1,(.pv (dj (aC af.cells) c))),(2,(eI j)),(3,(.ptr 3 0)),(8,(eI (((1*2^k):Nat):Int))),(9,(.row 44 0 dk.length 1)),(10,(.row 50 0 dm.length 1)),(13,(.pv (ae ((v:List af)++List.replicate m (⟨false,[],[]⟩:af))))),(23,(.pv (dj (aC af.cells) c))),(24,(eI (c.length:Int))),(25,(eI (wU:Int)))],[(3,(.lit [(.pv (dj (aC af.cells) t.roots))])),(44,(.pure ((dk:List (List af)).map (aC af.cells)).flatten)),(50,(.pure ((dm:List (List af)).map (aC af.cells)).flatten))]⟩)=x5 bp oh fn.ntmps (bM (focus [0,2,0,2,0,2,0,0,2,0,0,0,0,2,0,0,2,0,0,0,2,0,2] [.code (ay fn)])) (np (bM (focus [0,2,0,2,0,2,0,0,2,0,0,0,0,2,0,0,2,0,0,0,2,0,2] [.code (ay fn)])) [0,1,2,6,7,8]) (ky (bM (focus [0,2,0,2,0,2,0,0,2,0,0,0,0,2,0,0,2,0,0,0,2,0,2] [.code (ay fn)])) [0,1,2,6,7,8]) [.none,.none,.none,(.js 0 (1*2^k) (((((v:List af)++List.replicate m (⟨false,[],[]⟩:af)).take (1*2^k)):List af).map af.cells)),.none,(.app ((dk++[(((v:List af)++List.replicate m (⟨false,[],[]⟩:af)).take (1*2^k))]):List (List af)).length (((dk++[(((v:List af)++List.replicate m (⟨false,[],[]⟩:af)).take (1*2^k))]):List (List af)).map (aC af.cells)).flatten),.none,.none,.none,(.js (1*2^k) ((((v:List af)++List.replicate m (⟨false,[],[]⟩:af)):List af).length) (((((v:List af)++List.replicate m (⟨false,[],[]⟩:af)).drop (1*2^k)):List af).map af.cells)),.none,(.app ((dm++[(((v:List af)++List.replicate m (⟨false,[],[]⟩:af)).drop (1*2^k))]):List (List af)).length (((dm++[(((v:List af)++List.replicate m (⟨false,[],[]⟩:af)).drop (1*2^k))]):List (List af)).map (aC af.cells)).flatten),.none,.none] (Dd oh fn.ntmps (bM (focus [0,2,0,2,0,2,0,0,2,0,0,0,0,2,0,0,2,0,0,0,2,0,2] [.code (ay fn)])) [0,1,2,6,7,8] ⟨[(1,(.pv (dj (aC af.cells) c))),(2,(eI j)),(3,(.ptr 3 0)),(8,(eI (((1*2^k):Nat):Int))),(9,(.row 44 0 dk.length 1)),(10,(.row 50 0 dm.length 1)),(13,(.pv (ae ((v:List af)++List.replicate m (⟨false,[],[]⟩:af))))),(23,(.pv (dj (aC af.cells) c))),(24,(eI (c.length:Int))),(25,(eI (wU:Int)))],[(3,(.lit [(.pv (dj (aC af.cells) t.roots))])),(44,(.pure ((dk:List (List af)).map (aC af.cells)).flatten)),(50,(.pure ((dm:List (List af)).map (aC af.cells)).flatten))]⟩):=by kernel_rfl
theorem l10(c:List (Rs))(j:Int)(k:Nat)(b d:List (Rs))(g:Nat)(t:bz)(v:Rs)(m:Nat){r:PV}(h1:g<c.length)(h2:c[g]? = some v)(h3:(([]:Rs)++v:Rs).length*56≤140737488355328)(h4:(2*(1*2^k))<9223372036854775808)(h5:ax ((((2*(1*2^k)):Nat):Int)-(v.length:Int)))(h6:(max 0 ((((2*(1*2^k)):Nat):Int)-(v.length:Int)))=(m:Int))(h7:((v:Rs)++List.replicate m (⟨false,[],[]⟩:af)).length*56≤140737488355328)(h8:(1*2^k)≤((v:Rs)++List.replicate m (⟨false,[],[]⟩:af)).length)(h9:((b++[(((v:Rs)++List.replicate m (⟨false,[],[]⟩:af)).take (1*2^k))]):List (Rs)).length*24≤140737488355328)(dh:(1*2^k)≤(((v:Rs)++List.replicate m (⟨false,[],[]⟩:af)):Rs).length)(gb:((d++[(((v:Rs)++List.replicate m (⟨false,[],[]⟩:af)).drop (1*2^k))]):List (Rs)).length*24≤140737488355328)(kh:(g+1)<9223372036854775808)(hL:ah c j k (b++[(((v:Rs)++List.replicate m (⟨false,[],[]⟩:af)).take (1*2^k))]) (d++[(((v:Rs)++List.replicate m (⟨false,[],[]⟩:af)).drop (1*2^k))]) (g+1) t r):ah c j k b d g t r :=
 lG 138 [1,3,6,1,1,1,1,6,3,6,6,6,6,1,1] [.a,.q,.t,.h 0 (.row g ((aC af.cells) v)),.aR [.o,.o,(.app (v:Rs).length ((v:Rs).map af.cells).flatten),.o,(iI (((2*(1*2^k)):Nat):Int)),.o,(iI (v.length:Int)),(iI ((((2*(1*2^k)):Nat):Int)-(v.length:Int))),(iI (max 0 ((((2*(1*2^k)):Nat):Int)-(v.length:Int)))),(.app (((v:Rs)++List.replicate m (⟨false,[],[]⟩:af)):Rs).length ((((v:Rs)++List.replicate m (⟨false,[],[]⟩:af)):Rs).map af.cells).flatten)],.fW 13 ((((v:Rs)++List.replicate m (⟨false,[],[]⟩:af)):Rs).map af.cells),.aF [1,2,3,8,9,10,13,23,24,25],.any [0,1,2,6,7,8] [.none,.none,.none,(.js 0 (1*2^k) (((((v:Rs)++List.replicate m (⟨false,[],[]⟩:af)).take (1*2^k)):Rs).map af.cells)),.none,(.app ((b++[(((v:Rs)++List.replicate m (⟨false,[],[]⟩:af)).take (1*2^k))]):List (Rs)).length (((b++[(((v:Rs)++List.replicate m (⟨false,[],[]⟩:af)).take (1*2^k))]):List (Rs)).map (aC af.cells)).flatten),.none,.none,.none,(.js (1*2^k) ((((v:Rs)++List.replicate m (⟨false,[],[]⟩:af)):Rs).length) (((((v:Rs)++List.replicate m (⟨false,[],[]⟩:af)).drop (1*2^k)):Rs).map af.cells)),.none,(.app ((d++[(((v:Rs)++List.replicate m (⟨false,[],[]⟩:af)).drop (1*2^k))]):List (Rs)).length (((d++[(((v:Rs)++List.replicate m (⟨false,[],[]⟩:af)).drop (1*2^k))]):List (Rs)).map (aC af.cells)).flatten),.none,.none],.h 0 (iI (((g+1):Nat):Int)),.aF [1,2,3,8,9,10,23,24,25],.drop [49,43],.ord [3,44,50]] (KL (aj h1) (bT (aC af.cells) (Eq.refl (((g:Nat):Int):Int)) h2) (rQ aX ([]:Rs) (v:Rs) 56 (Eq.refl ([]:Rs).length) h3 rfl) (Jq h4) (an af.cells v) (aT h5) (H8 0 ((((2*(1*2^k)):Nat):Int)-(v.length:Int))) (Rh aX (v:Rs) (⟨false,[],[]⟩:af) 56 m (Eq.refl (v:Rs).length) h6 h7 rfl) (df aX (((v:Rs)++List.replicate m (⟨false,[],[]⟩:af)):Rs) (Eq.refl (((v:Rs)++List.replicate m (⟨false,[],[]⟩:af)):Rs).length)) (wL aX (((v:Rs)++List.replicate m (⟨false,[],[]⟩:af)):Rs) (Eq.refl ((((1*2^k):Nat):Int):Int)) h8) (iK (rO af.cells) (b:List (Rs)) ([(((v:Rs)++List.replicate m (⟨false,[],[]⟩:af)).take (1*2^k))]:List (Rs)) 24 (Eq.refl (b:List (Rs)).length) (Eq.refl ([(((v:Rs)++List.replicate m (⟨false,[],[]⟩:af)).take (1*2^k))]:List (Rs)).length) h9 rfl) (TN aX (((v:Rs)++List.replicate m (⟨false,[],[]⟩:af)):Rs) (Eq.refl ((((1*2^k):Nat):Int):Int)) dh) (iK (rO af.cells) (d:List (Rs)) ([(((v:Rs)++List.replicate m (⟨false,[],[]⟩:af)).drop (1*2^k))]:List (Rs)) 24 (Eq.refl (d:List (Rs)).length) (Eq.refl ([(((v:Rs)++List.replicate m (⟨false,[],[]⟩:af)).drop (1*2^k))]:List (Rs)).length) gb rfl) (BF c j k b d g t v m) (aM kh)) hL
theorem cR(c:List (Rs))(j:Int)(k:Nat)(b d:List (Rs))(g:Nat)(t:bz)(m:Nat){r:PV}(h1:c.length≤g)(h2:(2*c.length)<9223372036854775808)(h3:ax ((((2*c.length):Nat):Int)-1))(h4:((((2*c.length):Nat):Int)-1)=(m:Int))(h5:24*m≤140737488355328)(hL:bK c j b d m 0 t (List.replicate m ([]:Rs)) r):ah c j k b d g t r :=
 lG 141 [1,1,1,1,5,1] [.a,.q,.f,.aR [.o,(iI (c.length:Int)),(iI (((2*c.length):Nat):Int)),(iI ((((2*c.length):Nat):Int)-1)),(.app m ((List.replicate m ([]:Rs):List (Rs)).map (aC af.cells)).flatten)],.h 1 (iI (c.length:Int)),.aF [1,2,3,9,10,14,58,59],.ord [3,44,50,56]] (y6 (ar h1) (an (aC af.cells) c) (Jq h2) (aT h3) (sR (aC af.cells) [] 24 m h4 h5 rfl) (an (aC af.cells) c)) hL
theorem Ac(c:List (Rs))(j:Int)(b d:List (Rs))(m g:Nat)(t:bz)(i:List (Rs)){r:PV}(h1:g<c.length)(hL:mB c j b d m g g 0 t i r):bK c j b d m g t i r :=
 lG 183 [1,1] [.a,.q,.t,.q,.h 1 (iI (c.length:Int)),.aF [1,2,3,9,10,14,15,58,59,63,64]] (y2 (aj h1) (an (aC af.cells) c)) hL
theorem CN(c:List (Rs))(j:Int)(b d:List (Rs))(m g:Nat)(t:bz)(i:List (Rs))(h1:c.length≤g)(h2:m=i.length):bK c j b d m g t i (.aB [(dj (aC af.cells) i),.az]) :=
 lD 174 [1,3] [.a,.q,.f,.q,.fW 6 ((i:List (Rs)).map (aC af.cells))] (y2 (ar h1) (df (rO af.cells) (i:List (Rs)) h2))
theorem Mz(c:List (List af))(j:Int)(dk dm:List (List af))(m KM CO zO:Nat)(t:bz)(nc:List (List af))(mul TY:List af)(k:Nat)(v4 TZ:List af):xZ bp oh fn.ntmps (bM (focus [0,2,0,2,0,2,0,0,2,0,0,0,0,2,0,1,2,2,2,2,0,2,0,0,2,0,0,0,0,2,0,0,2,0,0,0,2,0,2,0,0,0,0,2,0,0,2,0,0,0,2,0,2,0,0,2,1,2,0,2,0,0,2,1,2,0,0] [.code (ay fn)])) (np (bM (focus [0,2,0,2,0,2,0,0,2,0,0,0,0,2,0,1,2,2,2,2,0,2,0,0,2,0,0,0,0,2,0,0,2,0,0,0,2,0,2,0,0,0,0,2,0,0,2,0,0,0,2,0,2,0,0,2,1,2,0,2,0,0,2,1,2,0,0] [.code (ay fn)])) [1,4]) (ky (bM (focus [0,2,0,2,0,2,0,0,2,0,0,0,0,2,0,1,2,2,2,2,0,2,0,0,2,0,0,0,0,2,0,0,2,0,0,0,2,0,2,0,0,0,0,2,0,0,2,0,0,0,2,0,2,0,0,2,1,2,0,2,0,0,2,1,2,0,0] [.code (ay fn)])) [1,4]) [.none,.none,.none,.none,.none,(iI (j-1)),(.row k ((aC af.cells) v4)),.none,(.pv (.aB [(ae TZ),.az])),.none,.none,.none,.none,.none] (Dd oh fn.ntmps (bM (focus [0,2,0,2,0,2,0,0,2,0,0,0,0,2,0,1,2,2,2,2,0,2,0,0,2,0,0,0,0,2,0,0,2,0,0,0,2,0,2,0,0,0,0,2,0,0,2,0,0,0,2,0,2,0,0,2,1,2,0,2,0,0,2,1,2,0,0] [.code (ay fn)])) [1,4] ⟨[(1,(.pv (dj (aC af.cells) c))),(2,(eI j)),(3,(.ptr 3 0)),(9,(.row 44 0 dk.length 1)),(10,(.row 50 0 dm.length 1)),(14,(.row 56 0 m 1)),(15,(eI (KM:Int))),(16,(eI (zO:Int))),(17,(.pv (ae mul))),(19,(.pv (ae TY))),(58,(eI (c.length:Int))),(59,(eI (CO:Int))),(63,(eI (c.length:Int))),(64,(eI (zO:Int)))],[(3,(.lit [(.pv (dj (aC af.cells) t.roots))])),(44,(.pure ((dk:List (List af)).map (aC af.cells)).flatten)),(50,(.pure ((dm:List (List af)).map (aC af.cells)).flatten)),(56,(.pure ((nc:List (List af)).map (aC af.cells)).flatten))]⟩)=x5 bp oh fn.ntmps (bM (focus [0,2,0,2,0,2,0,0,2,0,0,0,0,2,0,1,2,2,2,2,0,2,0,0,2,0,0,0,0,2,0,0,2,0,0,0,2,0,2,0,0,0,0,2,0,0,2,0,0,0,2,0,2,0,0,2,1,2,0,2,0,0,2,1,2,0,0] [.code (ay fn)])) (np (bM (focus [0,2,0,2,0,2,0,0,2,0,0,0,0,2,0,1,2,2,2,2,0,2,0,0,2,0,0,0,0,2,0,0,2,0,0,0,2,0,2,0,0,0,0,2,0,0,2,0,0,0,2,0,2,0,0,2,1,2,0,2,0,0,2,1,2,0,0] [.code (ay fn)])) [1,4]) (ky (bM (focus [0,2,0,2,0,2,0,0,2,0,0,0,0,2,0,1,2,2,2,2,0,2,0,0,2,0,0,0,0,2,0,0,2,0,0,0,2,0,2,0,0,0,0,2,0,0,2,0,0,0,2,0,2,0,0,2,1,2,0,2,0,0,2,1,2,0,0] [.code (ay fn)])) [1,4]) [.none,.none,.none,.none,.none,(iI (j-1)),(.row k ((aC af.cells) v4)),.none,(.pv (.aB [(ae TZ),.az])),.none,.none,.none,.none,.none] (Dd oh fn.ntmps (bM (focus [0,2,0,2,0,2,0,0,2,0,0,0,0,2,0,1,2,2,2,2,0,2,0,0,2,0,0,0,0,2,0,0,2,0,0,0,2,0,2,0,0,0,0,2,0,0,2,0,0,0,2,0,2,0,0,2,1,2,0,2,0,0,2,1,2,0,0] [.code (ay fn)])) [1,4] ⟨[(1,(.pv (dj (aC af.cells) c))),(2,(eI j)),(3,(.ptr 3 0)),(9,(.row 44 0 dk.length 1)),(10,(.row 50 0 dm.length 1)),(14,(.row 56 0 m 1)),(15,(eI (KM:Int))),(16,(eI (zO:Int))),(17,(.pv (ae mul))),(19,(.pv (ae TY))),(58,(eI (c.length:Int))),(59,(eI (CO:Int))),(63,(eI (c.length:Int))),(64,(eI (zO:Int)))],[(3,(.lit [(.pv (dj (aC af.cells) t.roots))])),(44,(.pure ((dk:List (List af)).map (aC af.cells)).flatten)),(50,(.pure ((dm:List (List af)).map (aC af.cells)).flatten)),(56,(.pure ((nc:List (List af)).map (aC af.cells)).flatten))]⟩):=by kernel_rfl
theorem WH(c:List (Rs))(j:Int)(b d:List (Rs))(m g i l:Nat)(t:bz)(n:List (Rs))(v v1 o v2 v3 p:Rs)(k:Nat)(v4 s u v5 w:Rs){r:PV}(h1:l<c.length)(h2:g<b.length)(h3:b[g]? = some v)(h4:l<b.length)(h5:b[l]? = some v1)(h6:Cp 47 [t.pv,ae v,ae v1] (.aB [ae o,.az]))(h7:g<d.length)(h8:d[g]? = some v2)(h9:l<d.length)(dh:d[l]? = some v3)(gb:Cp 47 [t.pv,ae v2,ae v3] (.aB [ae p,.az]))(kh:ax (j-1))(pB:(j-1)=(k:Int))(uL:t.roots[k]? = some v4)(oO:Cp 47 [t.pv,ae p,ae v4] (.aB [ae s,.az]))(yD:Cp 251 [t.pv,ae o,ae s] (.aB [ae u,.az]))(Ad:(g+l)<9223372036854775808)(Ju:(g+l)<m)(Ic:n[(g+l)]? = some v5)(Rm:Cp 48 [t.pv,ae v5,ae u] (.aB [ae w,.az]))(WN:(g+l)<n.length)(Z8:(l+1)<9223372036854775808)(hL:mB c j b d m g i (l+1) t (n.set (g+l) w) r):mB c j b d m g i l t n r :=
 lG 321 [1,2,1,2,1,1,2,1,2,1,1,1,3,1,1,1,1,1,2,1,1,2,2,1] [.a,.q,.t,.q,dr 14 1 [.none,.none,.none,(.nat g),(.ev (.pv (ae v))),.none,.none,(.nat l),(.ev (.pv (ae v1))),(.pv (.aB [ae o,.az]))],.q,.a,dr 14 1 [.none,.none,.none,(.nat g),(.ev (.pv (ae v2))),.none,.none,(.nat l),(.ev (.pv (ae v3))),(.pv (.aB [ae p,.az]))],.q,.a,.aF [1,2,3,9,10,14,15,16,17,19,58,59,63,64],.any [1,4] [.none,.none,.none,.none,.none,(iI (j-1)),(.row k ((aC af.cells) v4)),.none,(.pv (.aB [ae s,.az])),.none,.none,.none,.none,.none],.q,.a,.h 3 (.pv (.aB [ae u,.az])),.q,.a,dr 18 1 [.none,.none,.none,(iI (((g+l):Nat):Int)),.none,.none,.none,.none,(iI (((g+l):Nat):Int)),(.nat (g+l)),(.ev (.pv (ae v5))),.none,(.pv (.aB [ae w,.az])),.none,.none,.none,(.nat (g+l)),(.cells (.pure (((n.set (g+l) w):List (Rs)).map (aC af.cells)).flatten))],.q,.a,.h 0 (iI (((l+1):Nat):Int)),.aF [1,2,3,9,10,14,15,58,59,63,64]] (Ww (aj h1) (cj (Eq.refl (((g:Nat):Int):Int)) h2) (gg (enc:=(aC af.cells)) (f:=fun a=>(ae a)) (fun _=>rfl) h3) (cj (Eq.refl (((l:Nat):Int):Int)) h4) (gg (enc:=(aC af.cells)) (f:=fun a=>(ae a)) (fun _=>rfl) h5) h6 (cj (Eq.refl (((g:Nat):Int):Int)) h7) (gg (enc:=(aC af.cells)) (f:=fun a=>(ae a)) (fun _=>rfl) h8) (cj (Eq.refl (((l:Nat):Int):Int)) h9) (gg (enc:=(aC af.cells)) (f:=fun a=>(ae a)) (fun _=>rfl) dh) gb (aT kh) (bT (aC af.cells) pB uL) oO (Mz c j b d m g i l t n o p k v4 s) yD (aM Ad) (aM Ad) (cj (Eq.refl ((((g+l):Nat):Int):Int)) Ju) (gg (enc:=(aC af.cells)) (f:=fun a=>(ae a)) (fun _=>rfl) Ic) Rm (cj (Eq.refl ((((g+l):Nat):Int):Int)) Ju) (hJ (rO af.cells) (n:List (Rs)) w WN) (aM Z8)) hL
theorem YA(c:List (Rs))(j:Int)(b d:List (Rs))(m g i k:Nat)(t:bz)(l:List (Rs)){r:PV}(h1:c.length≤k)(h2:(i+1)<9223372036854775808)(hL:bK c j b d m (i+1) t l r):mB c j b d m g i k t l r :=
 lG 216 [1,1] [.a,.q,.f,.h 0 (iI (((i+1):Nat):Int)),.aF [1,2,3,9,10,14,58,59]] (y2 (ar h1) (aM h2)) hL
end cy
namespace qm
theorem e0(t:bz)(x b c:Rs)(d:Option Int)(h1:Cp 97 [t.pv,ae x] (.aB [ae b,.az]))(h2:Cp 98 [t.pv,ae x] (.aB [ae c,bw d])):Cp 38 [t.pv,ae x] (.aB [ae c,bw d]) :=
 eD func38 93 [1,1] [.q,.h 2 (.pv (.aB [ae b,.az])),.q,.a,.h 2 (.pv (.aB [ae c,bw d]))] (y2 h1 h2)
end qm
end Go.Proofs.YtllmkadmohkbfaaGreatDoor.Sym.Path
end
