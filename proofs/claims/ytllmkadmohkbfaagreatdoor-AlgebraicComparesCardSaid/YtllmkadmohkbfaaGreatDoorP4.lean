/- Lemmas for the statements of this seat. -/
import Derived.Test.YtllmkadmohkbfaaGreatDoorT0
noncomputable section
namespace Go.Proofs.YtllmkadmohkbfaaGreatDoor.Sym.Path
open Go Tryz
set_option maxRecDepth 20000
set_option linter.unusedVariables false
namespace jx
@[reducible] def fn:Func:=Tryz.f193
def bK:List gC:=focus [0,2,0,0,2,1,2,0,0,2,0,0] [.code (aA fn)]
def inv1(t:cD)(BT:Nat):St:=⟨[(1,(.ptr 1 0)),(13,(.pv (bq (an ah.cells) t.roots))),(14,(eI (t.roots.length:Int))),(15,(eI (BT:Int)))],[(1,(.lit [(.pv (bq (an ah.cells) t.roots))]))]⟩
@[reducible] def aj(t:cD)(BT:Nat)(r:PV):Prop:=L bT fn bK (inv1 t BT) r
theorem e1(t:cD){r:PV}(h1:t.roots.length≤5)(hL:aj t 0 r):Cp 193 [t.pv] r :=
 eG func193 96 [1,1,1] [.q,.h 2 (iI (t.roots.length:Int)),.f,.h 2 (iI (t.roots.length:Int)),.aP [1,13,14,15]] (y3 (au (an ah.cells) t.roots) (ax h1) (au (an ah.cells) t.roots)) hL
theorem ji(t:cD)(b:Nat)(v:Rs)(c:Int){r:PV}(h1:b<t.roots.length)(h2:t.roots[b]? = some v)(h3:b≤64)(h4:(1*2^b)<9223372036854775808)(h5:v.length=(1*2^b))(h6:b≤t.roots.length)(h7:Cp 194 [(⟨(t.roots.take b)⟩:cD).pv,ae v] .aq)(h8:Cp 119 [(⟨(t.roots.take b)⟩:cD).pv,ae v] (vI c))(h9:0≤c)(dM:(b+1)<9223372036854775808)(hL:aj t (b+1) r):aj t b r :=
 lG 186 [1,3,1,1,1,6,1,1,1,1] [.a,.q,.t,.h 1 (.row b ((an ah.cells) v)),.ba [.o,(iI (v.length:Int)),.o,(iI (((1*2^b):Nat):Int))],.f,.h 3 (.ja 0 b (((t.roots.take b):List (Rs)).map (an ah.cells))),.h 2 (.pv .aq),.q,.a,.h 2 (.pv (vI c)),.f,.h 0 (iI (((b+1):Nat):Int)),.aP [1,13,14,15],.drop [5]] (Iu (ak h1) (bU (an ah.cells) (Eq.refl (((b:Nat):Int):Int)) h2) (au ah.cells v) (gU (k := .i64) h3 h4) (gj h5) (C3 (og ah.cells) (t.roots:List (Rs)) (Eq.refl (((b:Nat):Int):Int)) h6) h7 h8 (bQ h9) (aR dM)) hL
theorem AS(t:cD)(b:Nat)(h1:t.roots.length≤b):aj t b .aq :=
 lD 129 [1] [.a,.q,.f,.q] (y1 (ax h1))
end jx
namespace cZ
@[reducible] def fn:Func:=Tryz.f115
def bK:List gC:=focus [0,2,0,0,2,0,2,1,2,0,0,2,0,0] [.code (aA fn)]
def inv1(list:List (List ah))(Vk:Nat)(t:cD):St:=⟨[(2,(.ptr 2 0)),(14,(.pv (bq (an ah.cells) list))),(15,(eI (list.length:Int))),(16,(eI (Vk:Int)))],[(2,(.lit [(.pv (bq (an ah.cells) t.roots))]))]⟩
@[reducible] def aj(list:List (List ah))(Vk:Nat)(t:cD)(r:PV):Prop:=L bT fn bK (inv1 list Vk t) r
theorem e0(t:cD)(b:List (Rs)){r:PV}(h1:Cp 193 [t.pv] .aq)(hL:aj b 0 t r):Cp 115 [t.pv,(bq (an ah.cells) b)] r :=
 eG func115 102 [1,1] [.q,.h 1 (.pv .aq),.q,.a,.h 1 (iI (b.length:Int)),.aP [2,14,15,16]] (y2 h1 (au (an ah.cells) b)) hL
theorem l10(b:List (Rs))(c:Nat)(t:cD)(v:Rs){r:PV}(h1:c<b.length)(h2:b[c]? = some v)(h3:Cp 194 [t.pv,ae v] .aq)(h4:(c+1)<9223372036854775808)(hL:aj b (c+1) t r):aj b c t r :=
 lG 156 [1,3,1,1] [.a,.q,.t,.h 0 (.row c ((an ah.cells) v)),.h 2 (.pv .aq),.q,.a,.h 0 (iI (((c+1):Nat):Int)),.aP [2,14,15,16]] (y4 (ak h1) (bU (an ah.cells) (Eq.refl (((c:Nat):Int):Int)) h2) h3 (aR h4)) hL
theorem ji(b:List (Rs))(c:Nat)(t:cD)(h1:b.length≤c):aj b c t .aq :=
 lD 135 [1] [.a,.q,.f,.q] (y1 (ax h1))
end cZ
namespace eA
@[reducible] def fn:Func:=Tryz.f194
def bK:List gC:=focus [0,2,0,0,2,0,0,2,0,2,1,2,0,0,2,0,0] [.code (aA fn)]
def inv1(a:List ah)(Dd:Nat):St:=⟨[(23,(.pv (ae a))),(24,(eI (a.length:Int))),(25,(eI (Dd:Int)))],[]⟩
@[reducible] def aj(a:List ah)(Dd:Nat)(r:PV):Prop:=L bT fn bK (inv1 a Dd) r
theorem e2(t:cD)(a:Rs)(b:Int){r:PV}(h1:0<a.length)(h2:Cp 195 [ae a] (vI b))(h3:0≤b)(h4:b≤(t.roots.length:Int))(hL:aj a 0 r):Cp 194 [t.pv,ae a] r :=
 eG func194 111 [1,1,1,1,1,1,1,1,1,1,1,1] [.q,.h 1 (iI (a.length:Int)),.t,.h 1 (.pv (vI b)),.ba [.o,.o,.o,.o,.o,.o,(iI (t.roots.length:Int)),.o,(.dec false)],.f,.h 1 (iI (a.length:Int)),.aP [23,24,25],.drop [2]] (Pp (au ah.cells a) (ak h1) h2 (bQ h3) (bQ h3) (bQ h3) (bQ h3) (au (an ah.cells) t.roots) (bQ h3) (bQ h3) (bQ h4) (au ah.cells a)) hL
theorem e3(t:cD)(a:Rs){r:PV}(h1:a.length≤0)(hL:aj a 0 r):Cp 194 [t.pv,ae a] r :=
 eG func194 96 [1,1,1] [.q,.h 1 (iI (a.length:Int)),.f,.h 1 (iI (a.length:Int)),.aP [23,24,25],.drop [2]] (y3 (au ah.cells a) (ax h1) (au ah.cells a)) hL
theorem dw(a:Rs)(b:Nat)(v:ah)(c:Bool){r:PV}(h1:b<a.length)(h2:a[b]? = some v)(h3:Cp 164 [v.pv] (vB c))(h4:c=true)(h5:(b+1)<9223372036854775808)(hL:aj a (b+1) r):aj a b r :=
 lG 159 [1,3,1,1,1] [.a,.q,.t,.h 0 (.row b (ah.cells v)),.h 1 (.pv (vB c)),.f,.h 0 (iI (((b+1):Nat):Int)),.aP [23,24,25],.drop [7]] (y5 (ak h1) (bU ah.cells (Eq.refl (((b:Nat):Int):Int)) h2) h3 (ay h4) (aR h5)) hL
theorem ji(a:Rs)(b:Nat)(h1:a.length≤b):aj a b .aq :=
 lD 144 [1] [.a,.q,.f,.q] (y1 (ax h1))
end eA
namespace dZ
@[reducible] def fn:Func:=Tryz.f195
def bK:List gC:=focus [0,2,0,2,0,0,0] [.code (aA fn)]
def inv1(a:List ah)(ZN:Nat):St:=⟨[(0,(.pv (ae a))),(3,(eI (ZN:Int)))],[]⟩
@[reducible] def aj(a:List ah)(ZN:Nat)(r:PV):Prop:=L bT fn bK (inv1 a ZN) r
theorem e0 (a : Rs) {r : PV}  (hL : aj a 0 r) : Cp 195 [ae a] r :=
 eG func195 81 [] [.q,.q,.aP [0,3]] True.intro hL
theorem l10(a:Rs)(b:Nat){r:PV}(h1:b≤64)(h2:(1*2^b)<9223372036854775808)(h3:(1*2^b)<a.length)(h4:(b+1)<9223372036854775808)(hL:aj a (b+1) r):aj a b r :=
 lG 108 [1,1,1,1] [.a,.ba [.o,(iI (((1*2^b):Nat):Int)),.o,(iI (a.length:Int))],.t,.h 1 (iI (((b+1):Nat):Int)),.aP [0,3]] (y4 (gU (k := .i64) h1 h2) (au ah.cells a) (ak h3) (aR h4)) hL
theorem dw(a:Rs)(b:Nat)(h1:b≤64)(h2:(1*2^b)<9223372036854775808)(h3:a.length≤(1*2^b))(h4:(1*2^b)≠a.length):aj a b (vI (-1)) :=
 lD 126 [1,1,1,1,1,1] [.a,.ba [.o,(iI (((1*2^b):Nat):Int)),.o,(iI (a.length:Int))],.f,.ba [.o,(iI (((1*2^b):Nat):Int)),.o,(iI (a.length:Int))],.t,.q] (y6 (gU (k := .i64) h1 h2) (au ah.cells a) (ax h3) (gU (k := .i64) h1 h2) (au ah.cells a) (nH h4))
theorem ji(a:Rs)(b:Nat)(h1:b≤64)(h2:(1*2^b)<9223372036854775808)(h3:a.length≤(1*2^b))(h4:(1*2^b)=a.length):aj a b (vI (b:Int)) :=
 lD 129 [1,1,1,1,1,1] [.a,.ba [.o,(iI (((1*2^b):Nat):Int)),.o,(iI (a.length:Int))],.f,.ba [.o,(iI (((1*2^b):Nat):Int)),.o,(iI (a.length:Int))],.f,.q] (y6 (gU (k := .i64) h1 h2) (au ah.cells a) (ax h3) (gU (k := .i64) h1 h2) (au ah.cells a) (gj h4))
end dZ
namespace vx
theorem e1(t:cD)(a b:Rs)(v:ah)(c:Int)(h1:Cp 116 [ae a] (ae b))(h2:b.length≠0)(h3:b.length=1)(h4:b[0]? = some v)(h5:Cp 33 [v.pv] (vI c)):Cp 119 [t.pv,ae a] (vI c) :=
 eD func119 105 [1,1,1,1,1,3,1] [.q,.h 1 (.pv (ae b)),.h 1 (iI (b.length:Int)),.f,.h 1 (iI (b.length:Int)),.t,.ba [.o,(.row 0 (ah.cells v)),.o,(.pv (vI c))]] (y7 h1 (au ah.cells b) (aC h2) (au ah.cells b) (aL h3) (bU ah.cells (Eq.refl (0:Int)) h4) h5)
end vx
namespace cW
@[reducible] def fn:Func:=Tryz.f116
def bK:List gC:=focus [0,2,0,0,2,0,2,1,2,0,2,0,0,0] [.code (aA fn)]
def inv1(a:List ah)(ZO:Nat):St:=⟨[(0,(.pv (ae a))),(4,(eI (ZO:Int)))],[]⟩
@[reducible] def aj(a:List ah)(ZO:Nat)(r:PV):Prop:=L bT fn bK (inv1 a ZO) r
theorem e2(a:Rs)(b:Int){r:PV}(h1:Cp 195 [ae a] (vI b))(h2:0<a.length)(h3:0≤b)(h4:b≤5)(hL:aj a a.length r):Cp 116 [ae a] r :=
 eG func116 102 [1,1,1,1,1,1,1,1,1,1,1,1] [.q,.h 1 (.pv (vI b)),.ba [.o,(iI (a.length:Int)),.o,.o,.o,.o,.o,.o,.o,(.dec false),(.dec true)],.f,.h 1 (iI (a.length:Int)),.aP [0,4]] (Pp h1 (au ah.cells a) (ak h2) (ak h2) (ak h2) (bQ h3) (bQ h3) (ak h2) (bQ h3) (ak h2) (bQ h4) (au ah.cells a)) hL
theorem e3(a:Rs)(b:Int){r:PV}(h1:Cp 195 [ae a] (vI b))(h2:a.length≤0)(hL:aj a a.length r):Cp 116 [ae a] r :=
 eG func116 102 [1,1,1,1,1,1,1,1] [.q,.h 1 (.pv (vI b)),.ba [.o,(iI (a.length:Int)),.o,.o,.skip,.skip,.skip,.skip,.skip,.skip,(.dec false)],.a,.h 1 (iI (a.length:Int)),.aP [0,4]] (y8 h1 (au ah.cells a) (ax h2) (ax h2) (ax h2) (ax h2) (ax h2) (au ah.cells a)) hL
theorem l10(a:Rs)(b:Nat)(c:Bool){r:PV}(h1:1<b)(h2:b<9223372036854775808)(h3:b≤a.length)(h4:(b/2)≤b)(h5:Cp 196 [(ae ((a.take b).drop (b/2)))] (vB c))(h6:c=true)(hL:aj a (b/2) r):aj a b r :=
 lG 129 [1,1,1,1,1,1,6,1,1,1,1,1] [.a,.ba [.o,.o,.o,.o,.o,(iI (((b/2):Nat):Int)),.o,(.ja (b/2) b ((((a.take b).drop (b/2)):Rs).map ah.cells)),(.pv (vB c)),(.dec true)],.t,.h 1 (iI (((b/2):Nat):Int)),.aP [0,4]] (Pp (ak h1) (ak h1) (ak h1) (C1 (y:=2) (by decide) h2) (ak h1) (ak h1) (Xi bM (a:Rs) (Eq.refl ((((b/2):Nat):Int):Int)) (Eq.refl (((b:Nat):Int):Int)) h4 h3) (ak h1) h5 (ak h1) h6 (C1 (y:=2) (by decide) h2)) hL
theorem oK(a:Rs)(b:Nat)(c:Bool)(d:Rs)(h1:1<b)(h2:b<9223372036854775808)(h3:b≤a.length)(h4:(b/2)≤b)(h5:Cp 196 [(ae ((a.take b).drop (b/2)))] (vB c))(h6:c=false)(h7:b≠1)(h8:Cp 178 [(ae (a.take b))] (ae d)):aj a b (ae d) :=
 lD 150 [1,1,1,1,1,1,6,1,1,1,1,1,1,1,1,6,1] [.a,.ba [.o,.o,.o,.o,.o,(iI (((b/2):Nat):Int)),.o,(.ja (b/2) b ((((a.take b).drop (b/2)):Rs).map ah.cells)),(.pv (vB c)),(.dec true)],.f,.ba [.o,.o,.o,.skip,.skip,.skip,(.dec false)],.a,.ba [.o,.o,(.ja 0 b (((a.take b):Rs).map ah.cells)),(.pv (ae d))]] (Pq (ak h1) (ak h1) (ak h1) (C1 (y:=2) (by decide) h2) (ak h1) (ak h1) (Xi bM (a:Rs) (Eq.refl ((((b/2):Nat):Int):Int)) (Eq.refl (((b:Nat):Int):Int)) h4 h3) (ak h1) h5 (ak h1) h6 (aC h7) (aC h7) (aC h7) (aC h7) (C3 bM (a:Rs) (Eq.refl (((b:Nat):Int):Int)) h3) h8)
theorem AS(a:Rs)(b:Nat)(c:Bool)(h1:b≤1)(h2:b=1)(h3:1≤a.length)(h4:Cp 196 [(ae (a.take 1))] (vB c))(h5:c=true):aj a b (ae []) :=
 lD 147 [1,1,1,1,1,1,1,1,1,6,1,1,1,1] [.a,.ba [.o,.o,.o,.skip,.skip,.skip,.skip,.skip,.skip,(.dec false)],.a,.ba [.o,.o,.o,.o,(.ja 0 1 (((a.take 1):Rs).map ah.cells)),(.pv (vB c)),(.dec true)],.t,.q] (QZ (ax h1) (ax h1) (ax h1) (ax h1) (ax h1) (ax h1) (ax h1) (aL h2) (aL h2) (C3 bM (a:Rs) (Eq.refl (1:Int)) h3) (aL h2) h4 (aL h2) h5)
theorem T2(a:Rs)(b:Nat)(c:Bool)(d:Rs)(h1:b≤1)(h2:b=1)(h3:1≤a.length)(h4:Cp 196 [(ae (a.take 1))] (vB c))(h5:c=false)(h6:b≤a.length)(h7:Cp 178 [(ae (a.take b))] (ae d)):aj a b (ae d) :=
 lD 150 [1,1,1,1,1,1,1,1,1,6,1,1,1,1,6,1] [.a,.ba [.o,.o,.o,.skip,.skip,.skip,.skip,.skip,.skip,(.dec false)],.a,.ba [.o,.o,.o,.o,(.ja 0 1 (((a.take 1):Rs).map ah.cells)),(.pv (vB c)),(.dec true)],.f,.ba [.o,.o,(.ja 0 b (((a.take b):Rs).map ah.cells)),(.pv (ae d))]] (Cz (ax h1) (ax h1) (ax h1) (ax h1) (ax h1) (ax h1) (ax h1) (aL h2) (aL h2) (C3 bM (a:Rs) (Eq.refl (1:Int)) h3) (aL h2) h4 (aL h2) h5 (C3 bM (a:Rs) (Eq.refl (((b:Nat):Int):Int)) h6) h7)
theorem Wr(a:Rs)(b:Nat)(c:Rs)(h1:b≤1)(h2:b≠1)(h3:b≤a.length)(h4:Cp 178 [(ae (a.take b))] (ae c)):aj a b (ae c) :=
 lD 150 [1,1,1,1,1,1,1,1,1,1,1,6,1] [.a,.ba [.o,.o,.o,.skip,.skip,.skip,.skip,.skip,.skip,(.dec false)],.a,.ba [.o,.o,.o,.skip,.skip,.skip,(.dec false)],.a,.ba [.o,.o,(.ja 0 b (((a.take b):Rs).map ah.cells)),(.pv (ae c))]] (Fz (ax h1) (ax h1) (ax h1) (ax h1) (ax h1) (ax h1) (ax h1) (aC h2) (aC h2) (aC h2) (aC h2) (C3 bM (a:Rs) (Eq.refl (((b:Nat):Int):Int)) h3) h4)
end cW
namespace dC
@[reducible] def fn:Func:=Tryz.f196
def bK:List gC:=focus [0,2,0,0,2,0,0] [.code (aA fn)]
def inv1(a:List ah)(BX:Nat):St:=⟨[(5,(.pv (ae a))),(6,(eI (a.length:Int))),(7,(eI (BX:Int)))],[]⟩
@[reducible] def aj(a:List ah)(BX:Nat)(r:PV):Prop:=L bT fn bK (inv1 a BX) r
theorem e0 (a : Rs) {r : PV}  (hL : aj a 0 r) : Cp 196 [ae a] r :=
 eG func196 81 [1] [.q,.h 1 (iI (a.length:Int)),.aP [5,6,7]] (y1 (au ah.cells a)) hL
theorem l10(a:Rs)(b:Nat)(v:ah)(h1:b<a.length)(h2:a[b]? = some v)(h3:v.neg=true):aj a b (vB false) :=
 lD 126 [1,3,1,1,1,1,1,1,1,1,1] [.a,.q,.t,.h 0 (.row b (ah.cells v)),.ba [.o,.o,.o,.skip,.skip,.skip,.skip,(.dec true),.o,.skip,.skip,.skip,.skip],.a,.q] (FO (ak h1) (bU ah.cells (Eq.refl (((b:Nat):Int):Int)) h2) h3 h3 h3 h3 h3 (Eq.refl true) (Eq.refl true) (Eq.refl true) (Eq.refl true))
theorem dw(a:Rs)(b:Nat)(v:ah)(h1:b<a.length)(h2:a[b]? = some v)(h3:v.neg=false)(h4:0<v.num.length):aj a b (vB false) :=
 lD 126 [1,3,1,1,1,1,1,1,1,1,1,1,1] [.a,.q,.t,.h 0 (.row b (ah.cells v)),.ba [.o,.o,.o,.o,.o,(iI (v.num.length:Int)),.o,(.dec false),.o,.skip,.skip,.skip,.skip,(.dec true)],.a,.q] (Fz (ak h1) (bU ah.cells (Eq.refl (((b:Nat):Int):Int)) h2) h3 h3 h3 (au ai v.num) h3 h3 (ak h4) (ak h4) (ak h4) (ak h4) (ak h4))
theorem ji(a:Rs)(b:Nat)(v:ah)(h1:b<a.length)(h2:a[b]? = some v)(h3:v.neg=false)(h4:v.num.length≤0)(h5:0<v.den.length):aj a b (vB false) :=
 lD 126 [1,3,1,1,1,1,1,1,1,1,1,1,1,1,1] [.a,.q,.t,.h 0 (.row b (ah.cells v)),.ba [.o,.o,.o,.o,.o,(iI (v.num.length:Int)),.o,(.dec false),.o,.o,.o,(iI (v.den.length:Int)),.o,(.dec false)],.t,.q] (Cy (ak h1) (bU ah.cells (Eq.refl (((b:Nat):Int):Int)) h2) h3 h3 h3 (au ai v.num) h3 h3 (ax h4) (ax h4) (ax h4) (au ai v.den) (ax h4) (ax h4) (ak h5))
theorem oK(a:Rs)(b:Nat)(v:ah){r:PV}(h1:b<a.length)(h2:a[b]? = some v)(h3:v.neg=false)(h4:v.num.length≤0)(h5:v.den.length≤0)(h6:(b+1)<9223372036854775808)(hL:aj a (b+1) r):aj a b r :=
 lG 129 [1,3,1,1,1,1,1,1,1,1,1,1,1,1,1,1] [.a,.q,.t,.h 0 (.row b (ah.cells v)),.ba [.o,.o,.o,.o,.o,(iI (v.num.length:Int)),.o,(.dec false),.o,.o,.o,(iI (v.den.length:Int)),.o,(.dec false)],.f,.h 0 (iI (((b+1):Nat):Int)),.aP [5,6,7],.drop [4]] (Cz (ak h1) (bU ah.cells (Eq.refl (((b:Nat):Int):Int)) h2) h3 h3 h3 (au ai v.num) h3 h3 (ax h4) (ax h4) (ax h4) (au ai v.den) (ax h4) (ax h4) (ax h5) (aR h6)) hL
theorem AS(a:Rs)(b:Nat)(h1:a.length≤b):aj a b (vB true) :=
 lD 114 [1] [.a,.q,.f,.q] (y1 (ax h1))
end dC
namespace fU
@[reducible] def fn:Func:=Tryz.f178
def bK:List gC:=focus [0,2,0,2,0,0,2,0,0] [.code (aA fn)]
def inv1(qe a:List ah)(uE:Nat):St:=⟨[(3,(.row 25 0 qe.length 3)),(6,(.pv (ae a))),(7,(eI (a.length:Int))),(8,(eI (uE:Int)))],[(25,(.pure ((qe:List ah).map ah.cells).flatten))]⟩
@[reducible] def aj(qe a:List ah)(uE:Nat)(r:PV):Prop:=L bT fn bK (inv1 qe a uE) r
theorem e0 (a : Rs) {r : PV}  (hL : aj [] a 0 r) : Cp 178 [ae a] r :=
 eG func178 87 [1] [.q,.h 0 .nil,.ju 3 25 3,.h 1 (iI (a.length:Int)),.aP [3,6,7,8]] (y1 (au ah.cells a)) hL
theorem Hg(qe a:List ah)(uE:Nat)(v:ah):uu bT lz fn.ntmps (br (focus [0,2,0,2,0,0,2,0,0,0,0,2,0,0,2,0,0,0,2] [.code (aA fn)])) (kW (br (focus [0,2,0,2,0,0,2,0,0,0,0,2,0,0,2,0,0,0,2] [.code (aA fn)])) [0]) (iL (br (focus [0,2,0,2,0,0,2,0,0,0,0,2,0,0,2,0,0,0,2] [.code (aA fn)])) [0]) [.none,.none,.none,.none,.none,.none,(.ja (v.num:List UInt32).length 0 ((v.num:List UInt32).map ai)),.none,.none,.none,(.ja (v.den:List UInt32).length 0 ((v.den:List UInt32).map ai)),.none,.none,(.app ((qe++[v]):List ah).length (((qe++[v]):List ah).map ah.cells).flatten),.none] (wB lz fn.ntmps (br (focus [0,2,0,2,0,0,2,0,0,0,0,2,0,0,2,0,0,0,2] [.code (aA fn)])) [0] ⟨[(3,(.row 25 0 qe.length 3)),(5,(.ptr 5 0)),(6,(.pv (ae a))),(7,(eI (a.length:Int))),(8,(eI (uE:Int)))],[(5,(.lit [(eB v.neg),(.pv (ag v.num)),(.pv (ag v.den))])),(25,(.pure ((qe:List ah).map ah.cells).flatten))]⟩)=uv bT lz fn.ntmps (br (focus [0,2,0,2,0,0,2,0,0,0,0,2,0,0,2,0,0,0,2] [.code (aA fn)])) (kW (br (focus [0,2,0,2,0,0,2,0,0,0,0,2,0,0,2,0,0,0,2] [.code (aA fn)])) [0]) (iL (br (focus [0,2,0,2,0,0,2,0,0,0,0,2,0,0,2,0,0,0,2] [.code (aA fn)])) [0]) [.none,.none,.none,.none,.none,.none,(.ja (v.num:List UInt32).length 0 ((v.num:List UInt32).map ai)),.none,.none,.none,(.ja (v.den:List UInt32).length 0 ((v.den:List UInt32).map ai)),.none,.none,(.app ((qe++[v]):List ah).length (((qe++[v]):List ah).map ah.cells).flatten),.none] (wB lz fn.ntmps (br (focus [0,2,0,2,0,0,2,0,0,0,0,2,0,0,2,0,0,0,2] [.code (aA fn)])) [0] ⟨[(3,(.row 25 0 qe.length 3)),(5,(.ptr 5 0)),(6,(.pv (ae a))),(7,(eI (a.length:Int))),(8,(eI (uE:Int)))],[(5,(.lit [(eB v.neg),(.pv (ag v.num)),(.pv (ag v.den))])),(25,(.pure ((qe:List ah).map ah.cells).flatten))]⟩):=by kernel_rfl
theorem l10(b a:Rs)(c:Nat)(v:ah){r:PV}(h1:c<a.length)(h2:a[c]? = some v)(h3:(([]:Ws)++v.num:Ws).length*4≤140737488355328)(h4:(([]:Ws)++v.den:Ws).length*4≤140737488355328)(h5:((b++[v]):Rs).length*56≤140737488355328)(h6:(c+1)<9223372036854775808)(hL:aj (b++[v]) a (c+1) r):aj b a c r :=
 lG 126 [1,3,6,3,6,3,6,1,1] [.a,.q,.t,.h 0 (.row c (ah.cells v)),.aP [3,5,6,7,8],.any [0] [.none,.none,.none,.none,.none,.none,(.ja (v.num:Ws).length 0 ((v.num:Ws).map ai)),.none,.none,.none,(.ja (v.den:Ws).length 0 ((v.den:Ws).map ai)),.none,.none,(.app ((b++[v]):Rs).length (((b++[v]):Rs).map ah.cells).flatten),.none],.h 0 (iI (((c+1):Nat):Int)),.aP [3,6,7,8],.drop [24,5]] (y9 (ak h1) (bU ah.cells (Eq.refl (((c:Nat):Int):Int)) h2) (s6 cx ([]:Ws) (v.num:Ws) 4 (Eq.refl ([]:Ws).length) h3 rfl) (eR cx (v.num:Ws) (Eq.refl (v.num:Ws).length)) (s6 cx ([]:Ws) (v.den:Ws) 4 (Eq.refl ([]:Ws).length) h4 rfl) (eR cx (v.den:Ws) (Eq.refl (v.den:Ws).length)) (gm bM (b:Rs) ([v]:Rs) 56 (Eq.refl (b:Rs).length) (Eq.refl ([v]:Rs).length) h5 rfl) (Hg b a c v) (aR h6)) hL
theorem dw(b a:Rs)(c:Nat)(h1:a.length≤c):aj b a c (ae b) :=
 lD 120 [1,3] [.a,.q,.f,.q,.iZ 2 ((b:Rs).map ah.cells)] (y2 (ax h1) (eR bM (b:Rs) (Eq.refl (b:Rs).length)))
end fU
namespace fo
theorem e0(t:cD)(a b:Rs)(c:Bool)(h1:a.length<b.length)(h2:Cp 197 [ae b] (vB c))(h3:c=true):Cp 117 [t.pv,ae a,ae b] (ae []) :=
 eD func117 102 [1,1,1,1,1,1,1] [.q,.ba [.o,(iI (a.length:Int)),.o,(iI (b.length:Int))],.t,.q,.ba [.o,(.pv (vB c)),.o,.skip,.skip,(.dec true)],.a,.q] (y7 (au ah.cells a) (au ah.cells b) (ak h1) h2 h3 h3 h3)
theorem e1(t:cD)(a b:Rs)(c d:Bool)(h1:a.length<b.length)(h2:Cp 197 [ae b] (vB c))(h3:c=false)(h4:Cp 197 [ae a] (vB d))(h5:d=true):Cp 117 [t.pv,ae a,ae b] (ae []) :=
 eD func117 102 [1,1,1,1,1,1,1,1,1] [.q,.ba [.o,(iI (a.length:Int)),.o,(iI (b.length:Int))],.t,.q,.ba [.o,(.pv (vB c)),.o,.o,(.pv (vB d)),(.dec false)],.t,.q] (y9 (au ah.cells a) (au ah.cells b) (ak h1) h2 h3 h3 h4 h3 h5)
theorem e5(t:cD)(a b:Rs)(c:Bool)(h1:b.length≤a.length)(h2:Cp 197 [ae a] (vB c))(h3:c=true):Cp 117 [t.pv,ae a,ae b] (ae []) :=
 eD func117 102 [1,1,1,1,1,1,1] [.q,.ba [.o,(iI (a.length:Int)),.o,(iI (b.length:Int))],.f,.ba [.o,(.pv (vB c)),.o,.skip,.skip,(.dec true)],.a,.q] (y7 (au ah.cells a) (au ah.cells b) (ax h1) h2 h3 h3 h3)
theorem e6(t:cD)(a b:Rs)(c d:Bool)(h1:b.length≤a.length)(h2:Cp 197 [ae a] (vB c))(h3:c=false)(h4:Cp 197 [ae b] (vB d))(h5:d=true):Cp 117 [t.pv,ae a,ae b] (ae []) :=
 eD func117 102 [1,1,1,1,1,1,1,1,1] [.q,.ba [.o,(iI (a.length:Int)),.o,(iI (b.length:Int))],.f,.ba [.o,(.pv (vB c)),.o,.o,(.pv (vB d)),(.dec false)],.t,.q] (y9 (au ah.cells a) (au ah.cells b) (ax h1) h2 h3 h3 h4 h3 h5)
theorem e7(t:cD)(a b:Rs)(c d:Bool)(v v1 g:ah)(h1:b.length≤a.length)(h2:Cp 197 [ae a] (vB c))(h3:c=false)(h4:Cp 197 [ae b] (vB d))(h5:d=false)(h6:a.length=1)(h7:a[0]? = some v)(h8:b[0]? = some v1)(h9:Cp 198 [v.pv,v1.pv] g.pv):Cp 117 [t.pv,ae a,ae b] (ae [g]) :=
 eD func117 111 [1,1,1,1,1,1,1,1,1,1,1,3,3,1,3] [.q,.ba [.o,(iI (a.length:Int)),.o,(iI (b.length:Int))],.f,.ba [.o,(.pv (vB c)),.o,.o,(.pv (vB d)),(.dec false)],.f,.h 1 (iI (a.length:Int)),.t,dr 8 1 [.none,(.row 0 (ah.cells v)),.none,.none,(.row 0 (ah.cells v1)),.none,(.pv g.pv)],.iZ 6 (([g]:Rs).map ah.cells)] (Cy (au ah.cells a) (au ah.cells b) (ax h1) h2 h3 h3 h4 h3 h5 (au ah.cells a) (aL h6) (bU ah.cells (Eq.refl (0:Int)) h7) (bU ah.cells (Eq.refl (0:Int)) h8) h9 (eR bM ([g]:Rs) (Eq.refl ([g]:Rs).length)))
end fo
namespace fW
@[reducible] def fn:Func:=Tryz.f197
def bK:List gC:=focus [0,2,0,0,2,0,0] [.code (aA fn)]
def inv1(a:List ah)(BX:Nat):St:=⟨[(5,(.pv (ae a))),(6,(eI (a.length:Int))),(7,(eI (BX:Int)))],[]⟩
@[reducible] def aj(a:List ah)(BX:Nat)(r:PV):Prop:=L bT fn bK (inv1 a BX) r
theorem e0 (a : Rs) {r : PV}  (hL : aj a 0 r) : Cp 197 [ae a] r :=
 eG func197 81 [1] [.q,.h 1 (iI (a.length:Int)),.aP [5,6,7]] (y1 (au ah.cells a)) hL
theorem l10(a:Rs)(b:Nat)(v:ah)(c:Int)(h1:b<a.length)(h2:a[b]? = some v)(h3:Cp 33 [v.pv] (vI c))(h4:c≠0):aj a b (vB false) :=
 lD 126 [1,3,1,1] [.a,.q,.t,.h 0 (.row b (ah.cells v)),.h 1 (.pv (vI c)),.t,.q] (y4 (ak h1) (bU ah.cells (Eq.refl (((b:Nat):Int):Int)) h2) h3 (dq h4))
theorem dw(a:Rs)(b:Nat)(v:ah)(c:Int){r:PV}(h1:b<a.length)(h2:a[b]? = some v)(h3:Cp 33 [v.pv] (vI c))(h4:c=0)(h5:(b+1)<9223372036854775808)(hL:aj a (b+1) r):aj a b r :=
 lG 129 [1,3,1,1,1] [.a,.q,.t,.h 0 (.row b (ah.cells v)),.h 1 (.pv (vI c)),.f,.h 0 (iI (((b+1):Nat):Int)),.aP [5,6,7],.drop [4]] (y5 (ak h1) (bU ah.cells (Eq.refl (((b:Nat):Int):Int)) h2) h3 (bZ h4) (aR h5)) hL
theorem ji(a:Rs)(b:Nat)(h1:a.length≤b):aj a b (vB true) :=
 lD 114 [1] [.a,.q,.f,.q] (y1 (ax h1))
end fW
namespace iv
@[reducible] def fn:Func:=Tryz.f118
def bK:List gC:=focus [0,2,0,2,0,2,0,0,2,0,0] [.code (aA fn)]
def inv1(n:Nat)(wid:List ah)(Vl:Nat)(rU:List ah):St:=⟨[(0,(.row 14 0 n 3)),(1,(.pv (ae wid))),(19,(eI (n:Int))),(20,(eI (Vl:Int)))],[(14,(.pure ((rU:List ah).map ah.cells).flatten))]⟩
@[reducible] def aj(n:Nat)(wid:List ah)(Vl:Nat)(rU:List ah)(r:PV):Prop:=L bT fn bK (inv1 n wid Vl rU) r
theorem e0(a b z:Rs)(n:Nat)(c:Rs){r:PV}(h1:av bT 177 [.pv (ae a),.pv (vI (((max a.length b.length):Nat):Int))] [] (.row 0 0 n 3) [(0,(.pure ((z:Rs).map ah.cells).flatten))])(h2:Cp 177 [ae b,(vI (((max a.length b.length):Nat):Int))] (ae c))(hL:aj n c 0 z r):Cp 118 [ae a,ae b] r :=
 eG func118 93 [1,1,1,1,1] [.q,.ba [.o,(iI (a.length:Int)),.o,(iI (b.length:Int)),(iI (((max a.length b.length):Nat):Int))],.ba [.o,.o,(.bI [] (some (0,14)) (.row 0 0 n 3) [(0,(.pure ((z:Rs).map ah.cells).flatten))]),.o,.o,(.pv (ae c))],.q,.aP [0,1,19,20]] (y5 (au ah.cells a) (au ah.cells b) (BO a.length b.length) h1 h2) hL
theorem l10(n:Nat)(b:Rs)(c:Nat)(d:Rs)(v v1 g:ah){r:PV}(h1:c<n)(h2:d[c]? = some v)(h3:b[c]? = some v1)(h4:Cp 91 [v.pv,v1.pv] g.pv)(h5:c<d.length)(h6:(c+1)<9223372036854775808)(hL:aj n b (c+1) (d.set c g) r):aj n b c d r :=
 lG 132 [1,2,2,3,1,2,2,1] [.a,.q,.t,.q,dr 12 1 [.none,.none,.none,.none,(.nat c),(.Ky [vB v.neg,ag v.num,ag v.den]),.none,.none,(.row c (ah.cells v1)),.none,(.pv g.pv),(.nat c),(.cells (.pure (((d.set c g):Rs).map ah.cells).flatten))],.h 0 (iI (((c+1):Nat):Int)),.aP [0,1,19,20]] (y8 (ak h1) (cj (Eq.refl (((c:Nat):Int):Int)) h1) (wE bM h2) (bU ah.cells (Eq.refl (((c:Nat):Int):Int)) h3) h4 (cj (Eq.refl (((c:Nat):Int):Int)) h1) (mm bM (d:Rs) g h5) (aR h6)) hL
theorem dw(n:Nat)(b:Rs)(c:Nat)(d:Rs)(h1:n≤c)(h2:n=d.length):aj n b c d (ae d) :=
 lD 126 [1,3] [.a,.q,.f,.q,.iZ 4 ((d:Rs).map ah.cells)] (y2 (ax h1) (eR bM (d:Rs) h2))
end iv
namespace vy
theorem e0(a:Rs)(n:Int)(m:Nat)(h1:n=(m:Int))(h2:56*m≤140737488355328)(h3:(min a.length m)≤(List.replicate m (⟨false,[],[]⟩:ah):Rs).length)(h4:m=(a.take (min a.length m)++(List.replicate m (⟨false,[],[]⟩:ah)).drop (min a.length m)).length):Cp 177 [ae a,vI n] (ae (a.take (min a.length m)++(List.replicate m (⟨false,[],[]⟩:ah)).drop (min a.length m))) :=
 eD func177 84 [5,4,3] [.q,.h 1 (.app m ((List.replicate m (⟨false,[],[]⟩:ah):Rs).map ah.cells).flatten),.h 2 (.app (min a.length m) (((a.take (min a.length m)++(List.replicate m (⟨false,[],[]⟩:ah)).drop (min a.length m)):Rs).map ah.cells).flatten),.q,.iZ 4 (((a.take (min a.length m)++(List.replicate m (⟨false,[],[]⟩:ah)).drop (min a.length m)):Rs).map ah.cells)] (y3 (yy ah.cells (⟨false,[],[]⟩:ah) 56 m h1 h2 rfl) (QW bM (List.replicate m (⟨false,[],[]⟩:ah):Rs) (a:Rs) (Eq.refl (min a.length m)) h3) (eR bM ((a.take (min a.length m)++(List.replicate m (⟨false,[],[]⟩:ah)).drop (min a.length m)):Rs) h4))
end vy
namespace tS
theorem e0(a:Rs)(n:Int)(m:Nat)(h1:n=(m:Int))(h2:56*m≤140737488355328)(h3:(min a.length m)≤(List.replicate m (⟨false,[],[]⟩:ah):Rs).length):av bT 177 [(.pv (ae a)),eI n] [] (.row 0 0 m 3) [(0,(.pure ((((a.take (min a.length m)++(List.replicate m (⟨false,[],[]⟩:ah)).drop (min a.length m)).take m):Rs).map ah.cells).flatten))] :=
 uT func177 84 [5,4,1] [.q,.h 1 (.app m ((List.replicate m (⟨false,[],[]⟩:ah):Rs).map ah.cells).flatten),.h 2 (.app (min a.length m) (((a.take (min a.length m)++(List.replicate m (⟨false,[],[]⟩:ah)).drop (min a.length m)):Rs).map ah.cells).flatten),.q,.l7 7 0,.cut 0 (m*3) ((((a.take (min a.length m)++(List.replicate m (⟨false,[],[]⟩:ah)).drop (min a.length m)).take m):Rs).map ah.cells).flatten,.ord [0]] (y3 (yy ah.cells (⟨false,[],[]⟩:ah) 56 m h1 h2 rfl) (QW bM (List.replicate m (⟨false,[],[]⟩:ah):Rs) (a:Rs) (Eq.refl (min a.length m)) h3) (Bs bM ((a.take (min a.length m)++(List.replicate m (⟨false,[],[]⟩:ah)).drop (min a.length m)):Rs) m))
end tS
namespace gA
@[reducible] def fn:Func:=Tryz.f120
def bK:List gC:=focus [0,2,0,2,0,0,2,0,0] [.code (aA fn)]
def inv1(a:List ah)(vr:Nat)(fC:List ah):St:=⟨[(0,(.pv (ae a))),(3,(.row 7 0 a.length 3)),(9,(eI (a.length:Int))),(10,(eI (vr:Int)))],[(7,(.pure ((fC:List ah).map ah.cells).flatten))]⟩
@[reducible] def aj(a:List ah)(vr:Nat)(fC:List ah)(r:PV):Prop:=L bT fn bK (inv1 a vr fC) r
theorem e0(a:Rs){r:PV}(h1:56*a.length≤140737488355328)(hL:aj a 0 (List.replicate a.length (⟨false,[],[]⟩:ah)) r):Cp 120 [ae a] r :=
 eG func120 87 [1,5,1] [.q,.ba [.o,(iI (a.length:Int)),(.app a.length ((List.replicate a.length (⟨false,[],[]⟩:ah):Rs).map ah.cells).flatten)],.h 1 (iI (a.length:Int)),.aP [0,3,9,10]] (y3 (au ah.cells a) (yy ah.cells (⟨false,[],[]⟩:ah) 56 a.length (Eq.refl (((a.length:Nat):Int):Int)) h1 rfl) (au ah.cells a)) hL
theorem l10(a:Rs)(b:Nat)(c:Rs)(v d:ah){r:PV}(h1:b<a.length)(h2:a[b]? = some v)(h3:Cp 87 [v.pv] d.pv)(h4:b<c.length)(h5:(b+1)<9223372036854775808)(hL:aj a (b+1) (c.set b d) r):aj a b c r :=
 lG 126 [1,3,1,2,2,1] [.a,.q,.t,.q,.ba [.o,.o,.o,.o,(.row b (ah.cells v)),.o,(.pv d.pv),(.nat b),(.cells (.pure (((c.set b d):Rs).map ah.cells).flatten))],.h 0 (iI (((b+1):Nat):Int)),.aP [0,3,9,10]] (y6 (ak h1) (bU ah.cells (Eq.refl (((b:Nat):Int):Int)) h2) h3 (cj (Eq.refl (((b:Nat):Int):Int)) h1) (mm bM (c:Rs) d h4) (aR h5)) hL
theorem dw(a:Rs)(b:Nat)(c:Rs)(h1:a.length≤b)(h2:a.length=c.length):aj a b c (ae c) :=
 lD 120 [1,3] [.a,.q,.f,.q,.iZ 2 ((c:Rs).map ah.cells)] (y2 (ax h1) (eR bM (c:Rs) h2))
end gA
namespace xO
theorem e0(t:cD)(a b c:Rs)(h1:Cp 115 [t.pv,(bq (an ah.cells) [a])] .aq)(h2:Cp 120 [ae a] (ae b))(h3:Cp 116 [ae b] (ae c)):Cp 179 [t.pv,ae a] (.aB [ae c,.aq]) :=
 eD func179 93 [3,1,1,1] [.q,.ba [.o,.o,(.ja 0 0 (([a]:List (Rs)).map (an ah.cells))),(.pv .aq)],.q,.a,.ba [.o,(.pv (ae b)),(.pv (ae c))]] (y4 (fP (og ah.cells) ([a]:List (Rs))) h1 h2 h3)
end xO
namespace xP
theorem e0(t:cD)(a b c d:Rs)(h1:Cp 115 [t.pv,(bq (an ah.cells) [a,b])] .aq)(h2:Cp 117 [t.pv,ae a,ae b] (ae c))(h3:Cp 116 [ae c] (ae d)):Cp 47 [t.pv,ae a,ae b] (.aB [ae d,.aq]) :=
 eD func47 93 [3,1,1,1] [.q,.ba [.o,.o,.o,(.ja 0 0 (([a,b]:List (Rs)).map (an ah.cells))),(.pv .aq)],.q,.a,.ba [.o,.o,.o,(.pv (ae c)),(.pv (ae d))]] (y4 (fP (og ah.cells) ([a,b]:List (Rs))) h1 h2 h3)
end xP
namespace xQ
theorem e0(t:cD)(a b c d g:Rs)(h1:Cp 115 [t.pv,(bq (an ah.cells) [a,b])] .aq)(h2:Cp 120 [ae b] (ae c))(h3:Cp 118 [ae a,ae c] (ae d))(h4:Cp 116 [ae d] (ae g)):Cp 251 [t.pv,ae a,ae b] (.aB [ae g,.aq]) :=
 eD func251 93 [3,1,1,1,1] [.q,.ba [.o,.o,.o,(.ja 0 0 (([a,b]:List (Rs)).map (an ah.cells))),(.pv .aq)],.q,.a,.ba [.o,.o,(.pv (ae c)),(.pv (ae d)),(.pv (ae g))]] (y5 (fP (og ah.cells) ([a,b]:List (Rs))) h1 h2 h3 h4)
end xQ
namespace xR
theorem e0(t:cD)(a b c d:Rs)(h1:Cp 115 [t.pv,(bq (an ah.cells) [a,b])] .aq)(h2:Cp 118 [ae a,ae b] (ae c))(h3:Cp 116 [ae c] (ae d)):Cp 48 [t.pv,ae a,ae b] (.aB [ae d,.aq]) :=
 eD func48 93 [3,1,1,1] [.q,.ba [.o,.o,.o,(.ja 0 0 (([a,b]:List (Rs)).map (an ah.cells))),(.pv .aq)],.q,.a,.ba [.o,.o,(.pv (ae c)),(.pv (ae d))]] (y4 (fP (og ah.cells) ([a,b]:List (Rs))) h1 h2 h3)
end xR
namespace xS
theorem e2(t:cD)(a:Rs)(b:Bool)(c:Rs)(v:ah)(h1:Cp 252 [t.pv,ae a] (vB b))(h2:b=true)(h3:Cp 116 [ae a] (ae c))(h4:c.length≠0)(h5:c.length=1)(h6:c[0]? = some v):Cp 181 [t.pv,ae a] (.aB [v.pv,vB true]) :=
 eD func181 123 [1,1,1,1,1,1,3] [.q,.h 2 (.pv (vB b)),.f,.h 1 (.pv (ae c)),.h 1 (iI (c.length:Int)),.q,.f,.q,.t,.h 1 (.row 0 (ah.cells v))] (y7 h1 (ay h2) h3 (au ah.cells c) (aC h4) (aL h5) (bU ah.cells (Eq.refl (0:Int)) h6))
end xS
namespace tT
theorem e0(t:cD)(a:Rs)(h1:Cp 115 [t.pv,(bq (an ah.cells) [a])] .aq):Cp 252 [t.pv,ae a] (vB true) :=
 eD func252 72 [3,1] [.q,.ba [.o,.o,(.ja 0 0 (([a]:List (Rs)).map (an ah.cells))),(.pv .aq)]] (y2 (fP (og ah.cells) ([a]:List (Rs))) h1)
end tT
namespace vz
theorem e0(t:cD)(a b c:Rs)(h1:Cp 115 [t.pv,(bq (an ah.cells) [a])] .aq)(h2:Cp 178 [ae a] (ae b))(h3:t.roots.length≤64)(h4:(1*2^t.roots.length)<9223372036854775808)(h5:Cp 177 [ae b,(vI (((1*2^t.roots.length):Nat):Int))] (ae c)):Cp 97 [t.pv,ae a] (.aB [ae c,.aq]) :=
 eD func97 93 [3,1,1,1,1,1] [.q,.ba [.o,.o,(.ja 0 0 (([a]:List (Rs)).map (an ah.cells))),(.pv .aq)],.q,.a,dr 7 2 [.none,(.pv (ae b)),.none,.none,(iI (t.roots.length:Int)),(iI (((1*2^t.roots.length):Nat):Int)),(.pv (ae c))]] (y6 (fP (og ah.cells) ([a]:List (Rs))) h1 h2 (au (an ah.cells) t.roots) (gU (k := .i64) h3 h4) h5)
end vz
namespace Ah
theorem e0(x a:ah)(b:Rs)(h1:Cp 91 [x.pv,(⟨false,[],[]⟩:ah).pv] a.pv)(h2:Cp 116 [(ae [a])] (ae b)):Cp 49 [x.pv] (ae b) :=
 eD func49 72 [1,3,1] [.q,.ba [.o,.o,(.pv a.pv),(.ja 0 0 (([a]:Rs).map ah.cells)),(.pv (ae b))]] (y3 h1 (fP bM ([a]:Rs)) h2)
end Ah
namespace bb
@[reducible] def fn:Func:=Tryz.f98
def bK:List gC:=focus [0,2,0,2,0,2,0,0,0] [.code (aA fn)]
def inv1(ZP:List ah)(J0:Nat)(t:cD):St:=⟨[(2,(.ptr 2 0)),(6,(.pv (ae ZP))),(7,(eI (J0:Int)))],[(2,(.lit [(.pv (bq (an ah.cells) t.roots))]))]⟩
@[reducible] def aj(ZP:List ah)(J0:Nat)(t:cD)(r:PV):Prop:=L bT fn bK (inv1 ZP J0 t) r
def qv:List gC:=focus [0,2,0,2,0,2,0,0,0,0,0,0,2,1,2,2,2,2,0,2,0,0,2,1,2,0,2,0,0,2,0,0] [.code (aA fn)]
def inv2(Vm:List (List ah))(Vn:Int)(t:cD):St:=⟨[(2,(.ptr 2 0)),(10,(.pv (bq (an ah.cells) Vm))),(11,(eI Vn))],[(2,(.lit [(.pv (bq (an ah.cells) t.roots))]))]⟩
@[reducible] def cz(Vm:List (List ah))(Vn:Int)(t:cD)(r:PV):Prop:=L bT fn qv (inv2 Vm Vn t) r
def Q2:List gC:=focus [0,2,0,2,0,2,0,0,0,0,0,0,2,1,2,2,2,2,0,2,0,0,2,1,2,0,2,0,0,2,0,0,0,0,0,2,1,2,2,2,2,0,2,0,0,2,0,0] [.code (aA fn)]
def Q3(FU:List ah)(Vo:List (List ah))(Vp Vq:Nat)(t:cD):St:=⟨[(2,(.ptr 2 0)),(12,(.row 72 0 FU.length 3)),(54,(.pv (bq (an ah.cells) Vo))),(55,(eI (Vp:Int))),(56,(eI (Vq:Int)))],[(2,(.lit [(.pv (bq (an ah.cells) t.roots))])),(72,(.pure ((FU:List ah).map ah.cells).flatten))]⟩
@[reducible] def oV(FU:List ah)(Vo:List (List ah))(Vp Vq:Nat)(t:cD)(r:PV):Prop:=L bT fn Q2 (Q3 FU Vo Vp Vq t) r
theorem e0(t:cD)(x a:Rs){r:PV}(h1:Cp 116 [ae x] (ae a))(hL:aj a 0 t r):Cp 98 [t.pv,ae x] r :=
 eG func98 87 [1] [.q,.h 1 (.pv (ae a)),.q,.aP [2,6,7]] (y1 h1) hL
theorem l10(b:Rs)(c:Nat)(t:cD){r:PV}(h1:c≤64)(h2:(1*2^c)<9223372036854775808)(h3:(1*2^c)<b.length)(h4:(c+1)<9223372036854775808)(hL:aj b (c+1) t r):aj b c t r :=
 lG 114 [1,1,1,1] [.a,.ba [.o,(iI (((1*2^c):Nat):Int)),.o,(iI (b.length:Int))],.t,.h 1 (iI (((c+1):Nat):Int)),.aP [2,6,7]] (y4 (gU (k := .i64) h1 h2) (au ah.cells b) (ak h3) (aR h4)) hL
theorem dw(b:Rs)(c:Nat)(t:cD)(d:Rs)(of:ah)(g:Rs){r:PV}(h1:c≤64)(h2:(1*2^c)<9223372036854775808)(h3:b.length≤(1*2^c))(h4:Cp 179 [t.pv,ae b] (.aB [ae d,.aq]))(h5:Cp 46 [vI 1] of.pv)(h6:Cp 49 [of.pv] (ae g))(hL:cz [d,g] (c:Int) t r):aj b c t r :=
 lG 156 [1,1,1,1,1,1,3] [.a,.ba [.o,(iI (((1*2^c):Nat):Int)),.o,(iI (b.length:Int))],.f,.h 2 (.pv (.aB [ae d,.aq])),.q,.a,.ba [.o,(.pv of.pv),(.pv (ae g))],.q,.iZ 10 (([d,g]:List (Rs)).map (an ah.cells)),.aP [2,10,11]] (y7 (gU (k := .i64) h1 h2) (au ah.cells b) (ax h3) h4 h5 h6 (eR (og ah.cells) ([d,g]:List (Rs)) (Eq.refl ([d,g]:List (Rs)).length))) hL
theorem xl(b:List (Rs))(c:Int)(t:cD)(d:List (Rs)){r:PV}(h1:0<c)(h2:Cp 180 [t.pv,(bq (an ah.cells) b),vI c] (.aB [(bq (an ah.cells) d),.aq]))(h3:aw (c-1))(hL:cz d (c-1) t r):cz b c t r :=
 lG 204 [1,1,1] [.a,.q,.t,.h 3 (.pv (.aB [(bq (an ah.cells) d),.aq])),.q,.a,.h 1 (iI (c-1)),.aP [2,10,11]] (y3 (dJ h1) h2 (aX h3)) hL
theorem Ol(b:List (Rs))(c:Int)(t:cD){r:PV}(h1:c≤0)(hL:oV [] b b.length 0 t r):cz b c t r :=
 lG 204 [1,1] [.a,.q,.f,.h 0 .nil,.ju 12 72 3,.h 1 (iI (b.length:Int)),.aP [2,12,54,55,56],.ord [2,72]] (y2 (bQ h1) (au (an ah.cells) b)) hL
theorem Om(b:Rs)(c:List (Rs))(d g:Nat)(t:cD)(v:Rs)(i:ah)(j:Bool){r:PV}(h1:g<d)(h2:c[g]? = some v)(h3:Cp 181 [t.pv,ae v] (.aB [i.pv,vB j]))(h4:j=true)(h5:((b++[i]):Rs).length*56≤140737488355328)(h6:(g+1)<9223372036854775808)(hL:oV (b++[i]) c d (g+1) t r):oV b c d g t r :=
 lG 264 [1,3,1,1,6,1] [.a,.q,.t,.h 0 (.row g ((an ah.cells) v)),.h 2 (.pv (.aB [i.pv,vB j])),.q,.f,.h 3 (.app ((b++[i]):Rs).length (((b++[i]):Rs).map ah.cells).flatten),.h 0 (iI (((g+1):Nat):Int)),.aP [2,12,54,55,56],.drop [71,15],.ord [2,72]] (y6 (ak h1) (bU (an ah.cells) (Eq.refl (((g:Nat):Int):Int)) h2) h3 (ay h4) (gm bM (b:Rs) ([i]:Rs) 56 (Eq.refl (b:Rs).length) (Eq.refl ([i]:Rs).length) h5 rfl) (aR h6)) hL
theorem Ym(b:Rs)(c:List (Rs))(d g:Nat)(t:cD)(i:Rs)(h1:d≤g)(h2:Cp 182 [ae b] (ae i)):oV b c d g t (.aB [ae i,.aq]) :=
 lD 237 [1,3,1] [.a,.q,.f,.iZ 12 ((b:Rs).map ah.cells),.h 1 (.pv (ae i))] (y3 (ax h1) (eR bM (b:Rs) (Eq.refl (b:Rs).length)) h2)
end bb
namespace aV
@[reducible] def fn:Func:=Tryz.f180
def bK:List gC:=focus [0,2,0,2,0,2,0,0,2,0,0] [.code (aA fn)]
def inv1(c:List (List ah))(j:Int)(k:Nat)(ig ij:List (List ah))(Dd:Nat)(t:cD):St:=⟨[(1,(.pv (bq (an ah.cells) c))),(2,(eI j)),(3,(.ptr 3 0)),(8,(eI (((1*2^k):Nat):Int))),(9,(.row 44 0 ig.length 1)),(10,(.row 50 0 ij.length 1)),(23,(.pv (bq (an ah.cells) c))),(24,(eI (c.length:Int))),(25,(eI (Dd:Int)))],[(3,(.lit [(.pv (bq (an ah.cells) t.roots))])),(44,(.pure ((ig:List (List ah)).map (an ah.cells)).flatten)),(50,(.pure ((ij:List (List ah)).map (an ah.cells)).flatten))]⟩
@[reducible] def aj(c:List (List ah))(j:Int)(k:Nat)(ig ij:List (List ah))(Dd:Nat)(t:cD)(r:PV):Prop:=L bT fn bK (inv1 c j k ig ij Dd t) r
def qv:List gC:=focus [0,2,0,2,0,2,0,0,2,0,0,0,0,2,0,1,2,2,2,2,0,2,0,0,2,0,0] [.code (aA fn)]
def inv2(c:List (List ah))(j:Int)(ig ij:List (List ah))(m Iv:Nat)(t:cD)(tG:List (List ah)):St:=⟨[(1,(.pv (bq (an ah.cells) c))),(2,(eI j)),(3,(.ptr 3 0)),(9,(.row 44 0 ig.length 1)),(10,(.row 50 0 ij.length 1)),(14,(.row 56 0 m 1)),(58,(eI (c.length:Int))),(59,(eI (Iv:Int)))],[(3,(.lit [(.pv (bq (an ah.cells) t.roots))])),(44,(.pure ((ig:List (List ah)).map (an ah.cells)).flatten)),(50,(.pure ((ij:List (List ah)).map (an ah.cells)).flatten)),(56,(.pure ((tG:List (List ah)).map (an ah.cells)).flatten))]⟩
@[reducible] def cz(c:List (List ah))(j:Int)(ig ij:List (List ah))(m Iv:Nat)(t:cD)(tG:List (List ah))(r:PV):Prop:=L bT fn qv (inv2 c j ig ij m Iv t tG) r
def Q2:List gC:=focus [0,2,0,2,0,2,0,0,2,0,0,0,0,2,0,1,2,2,2,2,0,2,0,0,2,0,0,0,0,2,0,0,2,0,0,0,2,0,2,0,0] [.code (aA fn)]
def Q3(c:List (List ah))(j:Int)(ig ij:List (List ah))(m Pu Iv FA:Nat)(t:cD)(tG:List (List ah)):St:=⟨[(1,(.pv (bq (an ah.cells) c))),(2,(eI j)),(3,(.ptr 3 0)),(9,(.row 44 0 ig.length 1)),(10,(.row 50 0 ij.length 1)),(14,(.row 56 0 m 1)),(15,(eI (Pu:Int))),(58,(eI (c.length:Int))),(59,(eI (Iv:Int))),(63,(eI (c.length:Int))),(64,(eI (FA:Int)))],[(3,(.lit [(.pv (bq (an ah.cells) t.roots))])),(44,(.pure ((ig:List (List ah)).map (an ah.cells)).flatten)),(50,(.pure ((ij:List (List ah)).map (an ah.cells)).flatten)),(56,(.pure ((tG:List (List ah)).map (an ah.cells)).flatten))]⟩
@[reducible] def oV(c:List (List ah))(j:Int)(ig ij:List (List ah))(m Pu Iv FA:Nat)(t:cD)(tG:List (List ah))(r:PV):Prop:=L bT fn Q2 (Q3 c j ig ij m Pu Iv FA t tG) r
theorem e0(t:cD)(c:List (Rs))(j:Int)(k:Nat){r:PV}(h1:aw (j-1))(h2:(j-1)=(k:Int))(h3:k≤64)(h4:(1*2^k)<9223372036854775808)(hL:aj c j k [] [] 0 t r):Cp 180 [t.pv,(bq (an ah.cells) c),vI j] r :=
 eG func180 93 [1,1,1] [.q,.ba [.o,(iI (j-1)),(iI (((1*2^k):Nat):Int))],.ba [.nil,.nil],.ju 9 44 1,.ju 10 50 1,.h 1 (iI (c.length:Int)),.aP [1,2,3,8,9,10,23,24,25],.ord [3,44,50]] (y3 (aX h1) (S1 h2 (gU (k := .i64) h3 h4)) (au (an ah.cells) c)) hL
theorem Hg(c:List (List ah))(j:Int)(k:Nat)(ig ij:List (List ah))(Dd:Nat)(t:cD)(v:List ah)(m:Nat):uu bT lz fn.ntmps (br (focus [0,2,0,2,0,2,0,0,2,0,0,0,0,2,0,0,2,0,0,0,2,0,2] [.code (aA fn)])) (kW (br (focus [0,2,0,2,0,2,0,0,2,0,0,0,0,2,0,0,2,0,0,0,2,0,2] [.code (aA fn)])) [0,1,2,6,7,8]) (iL (br (focus [0,2,0,2,0,2,0,0,2,0,0,0,0,2,0,0,2,0,0,0,2,0,2] [.code (aA fn)])) [0,1,2,6,7,8]) [.none,.none,.none,(.ja 0 (1*2^k) (((((v:List ah)++List.replicate m (⟨false,[],[]⟩:ah)).take (1*2^k)):List ah).map ah.cells)),.none,(.app ((ig++[(((v:List ah)++List.replicate m (⟨false,[],[]⟩:ah)).take (1*2^k))]):List (List ah)).length (((ig++[(((v:List ah)++List.replicate m (⟨false,[],[]⟩:ah)).take (1*2^k))]):List (List ah)).map (an ah.cells)).flatten),.none,.none,.none,(.ja (1*2^k) ((((v:List ah)++List.replicate m (⟨false,[],[]⟩:ah)):List ah).length) (((((v:List ah)++List.replicate m (⟨false,[],[]⟩:ah)).drop (1*2^k)):List ah).map ah.cells)),.none,(.app ((ij++[(((v:List ah)++List.replicate m (⟨false,[],[]⟩:ah)).drop (1*2^k))]):List (List ah)).length (((ij++[(((v:List ah)++List.replicate m (⟨false,[],[]⟩:ah)).drop (1*2^k))]):List (List ah)).map (an ah.cells)).flatten),.none,.none] (wB lz fn.ntmps (br (focus [0,2,0,2,0,2,0,0,2,0,0,0,0,2,0,0,2,0,0,0,2,0,2] [.code (aA fn)])) [0,1,2,6,7,8] ⟨[(1,(.pv (bq (an ah.cells) c))),(2,(eI j)),(3,(.ptr 3 0)),(8,(eI (((1*2^k):Nat):Int))),(9,(.row 44 0 ig.length 1)),(10,(.row 50 0 ij.length 1)),(13,(.pv (ae ((v:List ah)++List.replicate m (⟨false,[],[]⟩:ah))))),(23,(.pv (bq (an ah.cells) c))),(24,(eI (c.length:Int))),(25,(eI (Dd:Int)))],[(3,(.lit [(.pv (bq (an ah.cells) t.roots))])),(44,(.pure ((ig:List (List ah)).map (an ah.cells)).flatten)),(50,(.pure ((ij:List (List ah)).map (an ah.cells)).flatten))]⟩)=uv bT lz fn.ntmps (br (focus [0,2,0,2,0,2,0,0,2,0,0,0,0,2,0,0,2,0,0,0,2,0,2] [.code (aA fn)])) (kW (br (focus [0,2,0,2,0,2,0,0,2,0,0,0,0,2,0,0,2,0,0,0,2,0,2] [.code (aA fn)])) [0,1,2,6,7,8]) (iL (br (focus [0,2,0,2,0,2,0,0,2,0,0,0,0,2,0,0,2,0,0,0,2,0,2] [.code (aA fn)])) [0,1,2,6,7,8]) [.none,.none,.none,(.ja 0 (1*2^k) (((((v:List ah)++List.replicate m (⟨false,[],[]⟩:ah)).take (1*2^k)):List ah).map ah.cells)),.none,(.app ((ig++[(((v:List ah)++List.replicate m (⟨false,[],[]⟩:ah)).take (1*2^k))]):List (List ah)).length (((ig++[(((v:List ah)++List.replicate m (⟨false,[],[]⟩:ah)).take (1*2^k))]):List (List ah)).map (an ah.cells)).flatten),.none,.none,.none,(.ja (1*2^k) ((((v:List ah)++List.replicate m (⟨false,[],[]⟩:ah)):List ah).length) (((((v:List ah)++List.replicate m (⟨false,[],[]⟩:ah)).drop (1*2^k)):List ah).map ah.cells)),.none,(.app ((ij++[(((v:List ah)++List.replicate m (⟨false,[],[]⟩:ah)).drop (1*2^k))]):List (List ah)).length (((ij++[(((v:List ah)++List.replicate m (⟨false,[],[]⟩:ah)).drop (1*2^k))]):List (List ah)).map (an ah.cells)).flatten),.none,.none] (wB lz fn.ntmps (br (focus [0,2,0,2,0,2,0,0,2,0,0,0,0,2,0,0,2,0,0,0,2,0,2] [.code (aA fn)])) [0,1,2,6,7,8] ⟨[(1,(.pv (bq (an ah.cells) c))),(2,(eI j)),(3,(.ptr 3 0)),(8,(eI (((1*2^k):Nat):Int))),(9,(.row 44 0 ig.length 1)),(10,(.row 50 0 ij.length 1)),(13,(.pv (ae ((v:List ah)++List.replicate m (⟨false,[],[]⟩:ah))))),(23,(.pv (bq (an ah.cells) c))),(24,(eI (c.length:Int))),(25,(eI (Dd:Int)))],[(3,(.lit [(.pv (bq (an ah.cells) t.roots))])),(44,(.pure ((ig:List (List ah)).map (an ah.cells)).flatten)),(50,(.pure ((ij:List (List ah)).map (an ah.cells)).flatten))]⟩):=by kernel_rfl
theorem l10(c:List (Rs))(j:Int)(k:Nat)(b d:List (Rs))(g:Nat)(t:cD)(v:Rs)(m:Nat){r:PV}(h1:g<c.length)(h2:c[g]? = some v)(h3:(([]:Rs)++v:Rs).length*56≤140737488355328)(h4:(2*(1*2^k))<9223372036854775808)(h5:aw ((((2*(1*2^k)):Nat):Int)-(v.length:Int)))(h6:(max 0 ((((2*(1*2^k)):Nat):Int)-(v.length:Int)))=(m:Int))(h7:((v:Rs)++List.replicate m (⟨false,[],[]⟩:ah)).length*56≤140737488355328)(h8:(1*2^k)≤((v:Rs)++List.replicate m (⟨false,[],[]⟩:ah)).length)(h9:((b++[(((v:Rs)++List.replicate m (⟨false,[],[]⟩:ah)).take (1*2^k))]):List (Rs)).length*24≤140737488355328)(dM:(1*2^k)≤(((v:Rs)++List.replicate m (⟨false,[],[]⟩:ah)):Rs).length)(gy:((d++[(((v:Rs)++List.replicate m (⟨false,[],[]⟩:ah)).drop (1*2^k))]):List (Rs)).length*24≤140737488355328)(j8:(g+1)<9223372036854775808)(hL:aj c j k (b++[(((v:Rs)++List.replicate m (⟨false,[],[]⟩:ah)).take (1*2^k))]) (d++[(((v:Rs)++List.replicate m (⟨false,[],[]⟩:ah)).drop (1*2^k))]) (g+1) t r):aj c j k b d g t r :=
 lG 138 [1,3,6,1,1,1,1,6,3,6,6,6,6,1,1] [.a,.q,.t,.h 0 (.row g ((an ah.cells) v)),.ba [.o,.o,(.app (v:Rs).length ((v:Rs).map ah.cells).flatten),.o,(iI (((2*(1*2^k)):Nat):Int)),.o,(iI (v.length:Int)),(iI ((((2*(1*2^k)):Nat):Int)-(v.length:Int))),(iI (max 0 ((((2*(1*2^k)):Nat):Int)-(v.length:Int)))),(.app (((v:Rs)++List.replicate m (⟨false,[],[]⟩:ah)):Rs).length ((((v:Rs)++List.replicate m (⟨false,[],[]⟩:ah)):Rs).map ah.cells).flatten)],.iZ 13 ((((v:Rs)++List.replicate m (⟨false,[],[]⟩:ah)):Rs).map ah.cells),.aP [1,2,3,8,9,10,13,23,24,25],.any [0,1,2,6,7,8] [.none,.none,.none,(.ja 0 (1*2^k) (((((v:Rs)++List.replicate m (⟨false,[],[]⟩:ah)).take (1*2^k)):Rs).map ah.cells)),.none,(.app ((b++[(((v:Rs)++List.replicate m (⟨false,[],[]⟩:ah)).take (1*2^k))]):List (Rs)).length (((b++[(((v:Rs)++List.replicate m (⟨false,[],[]⟩:ah)).take (1*2^k))]):List (Rs)).map (an ah.cells)).flatten),.none,.none,.none,(.ja (1*2^k) ((((v:Rs)++List.replicate m (⟨false,[],[]⟩:ah)):Rs).length) (((((v:Rs)++List.replicate m (⟨false,[],[]⟩:ah)).drop (1*2^k)):Rs).map ah.cells)),.none,(.app ((d++[(((v:Rs)++List.replicate m (⟨false,[],[]⟩:ah)).drop (1*2^k))]):List (Rs)).length (((d++[(((v:Rs)++List.replicate m (⟨false,[],[]⟩:ah)).drop (1*2^k))]):List (Rs)).map (an ah.cells)).flatten),.none,.none],.h 0 (iI (((g+1):Nat):Int)),.aP [1,2,3,8,9,10,23,24,25],.drop [49,43],.ord [3,44,50]] (Cy (ak h1) (bU (an ah.cells) (Eq.refl (((g:Nat):Int):Int)) h2) (s6 bM ([]:Rs) (v:Rs) 56 (Eq.refl ([]:Rs).length) h3 rfl) (Oi h4) (au ah.cells v) (aX h5) (MT 0 ((((2*(1*2^k)):Nat):Int)-(v.length:Int))) (U5 bM (v:Rs) (⟨false,[],[]⟩:ah) 56 m (Eq.refl (v:Rs).length) h6 h7 rfl) (eR bM (((v:Rs)++List.replicate m (⟨false,[],[]⟩:ah)):Rs) (Eq.refl (((v:Rs)++List.replicate m (⟨false,[],[]⟩:ah)):Rs).length)) (C3 bM (((v:Rs)++List.replicate m (⟨false,[],[]⟩:ah)):Rs) (Eq.refl ((((1*2^k):Nat):Int):Int)) h8) (gm (og ah.cells) (b:List (Rs)) ([(((v:Rs)++List.replicate m (⟨false,[],[]⟩:ah)).take (1*2^k))]:List (Rs)) 24 (Eq.refl (b:List (Rs)).length) (Eq.refl ([(((v:Rs)++List.replicate m (⟨false,[],[]⟩:ah)).take (1*2^k))]:List (Rs)).length) h9 rfl) (Xj bM (((v:Rs)++List.replicate m (⟨false,[],[]⟩:ah)):Rs) (Eq.refl ((((1*2^k):Nat):Int):Int)) dM) (gm (og ah.cells) (d:List (Rs)) ([(((v:Rs)++List.replicate m (⟨false,[],[]⟩:ah)).drop (1*2^k))]:List (Rs)) 24 (Eq.refl (d:List (Rs)).length) (Eq.refl ([(((v:Rs)++List.replicate m (⟨false,[],[]⟩:ah)).drop (1*2^k))]:List (Rs)).length) gy rfl) (Hg c j k b d g t v m) (aR j8)) hL
theorem dw(c:List (Rs))(j:Int)(k:Nat)(b d:List (Rs))(g:Nat)(t:cD)(m:Nat){r:PV}(h1:c.length≤g)(h2:(2*c.length)<9223372036854775808)(h3:aw ((((2*c.length):Nat):Int)-1))(h4:((((2*c.length):Nat):Int)-1)=(m:Int))(h5:24*m≤140737488355328)(hL:cz c j b d m 0 t (List.replicate m ([]:Rs)) r):aj c j k b d g t r :=
 lG 141 [1,1,1,1,5,1] [.a,.q,.f,.ba [.o,(iI (c.length:Int)),(iI (((2*c.length):Nat):Int)),(iI ((((2*c.length):Nat):Int)-1)),(.app m ((List.replicate m ([]:Rs):List (Rs)).map (an ah.cells)).flatten)],.h 1 (iI (c.length:Int)),.aP [1,2,3,9,10,14,58,59],.ord [3,44,50,56]] (y6 (ax h1) (au (an ah.cells) c) (Oi h2) (aX h3) (yy (an ah.cells) [] 24 m h4 h5 rfl) (au (an ah.cells) c)) hL
theorem xl(c:List (Rs))(j:Int)(b d:List (Rs))(m g:Nat)(t:cD)(i:List (Rs)){r:PV}(h1:g<c.length)(hL:oV c j b d m g g 0 t i r):cz c j b d m g t i r :=
 lG 183 [1,1] [.a,.q,.t,.q,.h 1 (iI (c.length:Int)),.aP [1,2,3,9,10,14,15,58,59,63,64]] (y2 (ak h1) (au (an ah.cells) c)) hL
theorem AR(c:List (Rs))(j:Int)(b d:List (Rs))(m g:Nat)(t:cD)(i:List (Rs))(h1:c.length≤g)(h2:m=i.length):cz c j b d m g t i (.aB [(bq (an ah.cells) i),.aq]) :=
 lD 174 [1,3] [.a,.q,.f,.q,.iZ 6 ((i:List (Rs)).map (an ah.cells))] (y2 (ax h1) (eR (og ah.cells) (i:List (Rs)) h2))
theorem Q6(c:List (List ah))(j:Int)(ig ij:List (List ah))(m Pu Iv FA:Nat)(t:cD)(tG:List (List ah))(mul Ps:List ah)(k:Nat)(v4 Xu:List ah):uu bT lz fn.ntmps (br (focus [0,2,0,2,0,2,0,0,2,0,0,0,0,2,0,1,2,2,2,2,0,2,0,0,2,0,0,0,0,2,0,0,2,0,0,0,2,0,2,0,0,0,0,2,0,0,2,0,0,0,2,0,2,0,0,2,1,2,0,2,0,0,2,1,2,0,0] [.code (aA fn)])) (kW (br (focus [0,2,0,2,0,2,0,0,2,0,0,0,0,2,0,1,2,2,2,2,0,2,0,0,2,0,0,0,0,2,0,0,2,0,0,0,2,0,2,0,0,0,0,2,0,0,2,0,0,0,2,0,2,0,0,2,1,2,0,2,0,0,2,1,2,0,0] [.code (aA fn)])) [1,4]) (iL (br (focus [0,2,0,2,0,2,0,0,2,0,0,0,0,2,0,1,2,2,2,2,0,2,0,0,2,0,0,0,0,2,0,0,2,0,0,0,2,0,2,0,0,0,0,2,0,0,2,0,0,0,2,0,2,0,0,2,1,2,0,2,0,0,2,1,2,0,0] [.code (aA fn)])) [1,4]) [.none,.none,.none,.none,.none,(iI (j-1)),(.row k ((an ah.cells) v4)),.none,(.pv (.aB [(ae Xu),.aq])),.none,.none,.none,.none,.none] (wB lz fn.ntmps (br (focus [0,2,0,2,0,2,0,0,2,0,0,0,0,2,0,1,2,2,2,2,0,2,0,0,2,0,0,0,0,2,0,0,2,0,0,0,2,0,2,0,0,0,0,2,0,0,2,0,0,0,2,0,2,0,0,2,1,2,0,2,0,0,2,1,2,0,0] [.code (aA fn)])) [1,4] ⟨[(1,(.pv (bq (an ah.cells) c))),(2,(eI j)),(3,(.ptr 3 0)),(9,(.row 44 0 ig.length 1)),(10,(.row 50 0 ij.length 1)),(14,(.row 56 0 m 1)),(15,(eI (Pu:Int))),(16,(eI (FA:Int))),(17,(.pv (ae mul))),(19,(.pv (ae Ps))),(58,(eI (c.length:Int))),(59,(eI (Iv:Int))),(63,(eI (c.length:Int))),(64,(eI (FA:Int)))],[(3,(.lit [(.pv (bq (an ah.cells) t.roots))])),(44,(.pure ((ig:List (List ah)).map (an ah.cells)).flatten)),(50,(.pure ((ij:List (List ah)).map (an ah.cells)).flatten)),(56,(.pure ((tG:List (List ah)).map (an ah.cells)).flatten))]⟩)=uv bT lz fn.ntmps (br (focus [0,2,0,2,0,2,0,0,2,0,0,0,0,2,0,1,2,2,2,2,0,2,0,0,2,0,0,0,0,2,0,0,2,0,0,0,2,0,2,0,0,0,0,2,0,0,2,0,0,0,2,0,2,0,0,2,1,2,0,2,0,0,2,1,2,0,0] [.code (aA fn)])) (kW (br (focus [0,2,0,2,0,2,0,0,2,0,0,0,0,2,0,1,2,2,2,2,0,2,0,0,2,0,0,0,0,2,0,0,2,0,0,0,2,0,2,0,0,0,0,2,0,0,2,0,0,0,2,0,2,0,0,2,1,2,0,2,0,0,2,1,2,0,0] [.code (aA fn)])) [1,4]) (iL (br (focus [0,2,0,2,0,2,0,0,2,0,0,0,0,2,0,1,2,2,2,2,0,2,0,0,2,0,0,0,0,2,0,0,2,0,0,0,2,0,2,0,0,0,0,2,0,0,2,0,0,0,2,0,2,0,0,2,1,2,0,2,0,0,2,1,2,0,0] [.code (aA fn)])) [1,4]) [.none,.none,.none,.none,.none,(iI (j-1)),(.row k ((an ah.cells) v4)),.none,(.pv (.aB [(ae Xu),.aq])),.none,.none,.none,.none,.none] (wB lz fn.ntmps (br (focus [0,2,0,2,0,2,0,0,2,0,0,0,0,2,0,1,2,2,2,2,0,2,0,0,2,0,0,0,0,2,0,0,2,0,0,0,2,0,2,0,0,0,0,2,0,0,2,0,0,0,2,0,2,0,0,2,1,2,0,2,0,0,2,1,2,0,0] [.code (aA fn)])) [1,4] ⟨[(1,(.pv (bq (an ah.cells) c))),(2,(eI j)),(3,(.ptr 3 0)),(9,(.row 44 0 ig.length 1)),(10,(.row 50 0 ij.length 1)),(14,(.row 56 0 m 1)),(15,(eI (Pu:Int))),(16,(eI (FA:Int))),(17,(.pv (ae mul))),(19,(.pv (ae Ps))),(58,(eI (c.length:Int))),(59,(eI (Iv:Int))),(63,(eI (c.length:Int))),(64,(eI (FA:Int)))],[(3,(.lit [(.pv (bq (an ah.cells) t.roots))])),(44,(.pure ((ig:List (List ah)).map (an ah.cells)).flatten)),(50,(.pure ((ij:List (List ah)).map (an ah.cells)).flatten)),(56,(.pure ((tG:List (List ah)).map (an ah.cells)).flatten))]⟩):=by kernel_rfl
theorem Wq(c:List (Rs))(j:Int)(b d:List (Rs))(m g i l:Nat)(t:cD)(n:List (Rs))(v v1 o v2 v3 p:Rs)(k:Nat)(v4 s u v5 w:Rs){r:PV}(h1:l<c.length)(h2:g<b.length)(h3:b[g]? = some v)(h4:l<b.length)(h5:b[l]? = some v1)(h6:Cp 47 [t.pv,ae v,ae v1] (.aB [ae o,.aq]))(h7:g<d.length)(h8:d[g]? = some v2)(h9:l<d.length)(dM:d[l]? = some v3)(gy:Cp 47 [t.pv,ae v2,ae v3] (.aB [ae p,.aq]))(j8:aw (j-1))(nK:(j-1)=(k:Int))(l9:t.roots[k]? = some v4)(om:Cp 47 [t.pv,ae p,ae v4] (.aB [ae s,.aq]))(sR:Cp 251 [t.pv,ae o,ae s] (.aB [ae u,.aq]))(o5:(g+l)<9223372036854775808)(pT:(g+l)<m)(oL:n[(g+l)]? = some v5)(xm:Cp 48 [t.pv,ae v5,ae u] (.aB [ae w,.aq]))(BY:(g+l)<n.length)(Ia:(l+1)<9223372036854775808)(hL:oV c j b d m g i (l+1) t (n.set (g+l) w) r):oV c j b d m g i l t n r :=
 lG 321 [1,2,1,2,1,1,2,1,2,1,1,1,3,1,1,1,1,1,2,1,1,2,2,1] [.a,.q,.t,.q,dr 14 1 [.none,.none,.none,(.nat g),(.ev (.pv (ae v))),.none,.none,(.nat l),(.ev (.pv (ae v1))),(.pv (.aB [ae o,.aq]))],.q,.a,dr 14 1 [.none,.none,.none,(.nat g),(.ev (.pv (ae v2))),.none,.none,(.nat l),(.ev (.pv (ae v3))),(.pv (.aB [ae p,.aq]))],.q,.a,.aP [1,2,3,9,10,14,15,16,17,19,58,59,63,64],.any [1,4] [.none,.none,.none,.none,.none,(iI (j-1)),(.row k ((an ah.cells) v4)),.none,(.pv (.aB [ae s,.aq])),.none,.none,.none,.none,.none],.q,.a,.h 3 (.pv (.aB [ae u,.aq])),.q,.a,dr 18 1 [.none,.none,.none,(iI (((g+l):Nat):Int)),.none,.none,.none,.none,(iI (((g+l):Nat):Int)),(.nat (g+l)),(.ev (.pv (ae v5))),.none,(.pv (.aB [ae w,.aq])),.none,.none,.none,(.nat (g+l)),(.cells (.pure (((n.set (g+l) w):List (Rs)).map (an ah.cells)).flatten))],.q,.a,.h 0 (iI (((l+1):Nat):Int)),.aP [1,2,3,9,10,14,15,58,59,63,64]] (Yj (ak h1) (cj (Eq.refl (((g:Nat):Int):Int)) h2) (j5 (enc:=(an ah.cells)) (f:=fun a=>(ae a)) (fun _=>rfl) h3) (cj (Eq.refl (((l:Nat):Int):Int)) h4) (j5 (enc:=(an ah.cells)) (f:=fun a=>(ae a)) (fun _=>rfl) h5) h6 (cj (Eq.refl (((g:Nat):Int):Int)) h7) (j5 (enc:=(an ah.cells)) (f:=fun a=>(ae a)) (fun _=>rfl) h8) (cj (Eq.refl (((l:Nat):Int):Int)) h9) (j5 (enc:=(an ah.cells)) (f:=fun a=>(ae a)) (fun _=>rfl) dM) gy (aX j8) (bU (an ah.cells) nK l9) om (Q6 c j b d m g i l t n o p k v4 s) sR (aR o5) (aR o5) (cj (Eq.refl ((((g+l):Nat):Int):Int)) pT) (j5 (enc:=(an ah.cells)) (f:=fun a=>(ae a)) (fun _=>rfl) oL) xm (cj (Eq.refl ((((g+l):Nat):Int):Int)) pT) (mm (og ah.cells) (n:List (Rs)) w BY) (aR Ia)) hL
theorem T3(c:List (Rs))(j:Int)(b d:List (Rs))(m g i k:Nat)(t:cD)(l:List (Rs)){r:PV}(h1:c.length≤k)(h2:(i+1)<9223372036854775808)(hL:cz c j b d m (i+1) t l r):oV c j b d m g i k t l r :=
 lG 216 [1,1] [.a,.q,.f,.h 0 (iI (((i+1):Nat):Int)),.aP [1,2,3,9,10,14,58,59]] (y2 (ax h1) (aR h2)) hL
end aV
namespace mo
theorem e0(t:cD)(x b c:Rs)(d:Option Int)(h1:Cp 97 [t.pv,ae x] (.aB [ae b,.aq]))(h2:Cp 98 [t.pv,ae x] (.aB [ae c,bC d])):Cp 38 [t.pv,ae x] (.aB [ae c,bC d]) :=
 eD func38 93 [1,1] [.q,.h 2 (.pv (.aB [ae b,.aq])),.q,.a,.h 2 (.pv (.aB [ae c,bC d]))] (y2 h1 h2)
end mo
end Go.Proofs.YtllmkadmohkbfaaGreatDoor.Sym.Path
end
