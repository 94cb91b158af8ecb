/- Lemmas for the statements of this seat. -/
import Derived.Test.YtcpnocgollpbhaaGreatDoorT0
noncomputable section
namespace Go.Proofs.YtcpnocgollpbhaaGreatDoor.Sym.Path
open Go Tryz
set_option maxRecDepth 20000
set_option linter.unusedVariables false
namespace fE
@[reducible] def fn:Func:=Tryz.f112
def a8:List eR:=focus [0,2,0,0,2,1,2,0,0,2,0,0] [.code (aP fn)]
def inv1(t:aA)(v8:Nat):St:=⟨[(1,(.ptr 1 0)),(13,(.pv (dp (db ag.cells) t.roots))),(14,(eI (t.roots.length:Int))),(15,(eI (v8:Int)))],[(1,(.lit [(.pv (dp (db ag.cells) t.roots))]))]⟩
@[reducible] def ai(t:aA)(v8:Nat)(r:PV):Prop:=L bp fn a8 (inv1 t v8) r
theorem e0(t:aA)(h1:5<t.roots.length):Cp 112 [t.pv] (.iface 75 (vI 4)) :=
 eD func112 [] [.q,.h 2 (iL t.roots),.t,.q] (y2 (ak lR t.roots) (aj h1))
theorem e1(t:aA){r:PV}(h1:t.roots.length≤5)(hL:ai t 0 r):Cp 112 [t.pv] r :=
 eG func112 [] [.q,.h 2 (iL t.roots),.f,.h 2 (iL t.roots),.aH [1,13,14,15]] (y3 (ak lR t.roots) (aq h1) (ak lR t.roots)) hL
theorem l10(t:aA)(b:Nat)(v:Rs)(h1:b<t.roots.length)(h2:t.roots[b]? = some v)(h3:b≤64)(h4:(1*2^b)<9223372036854775808)(h5:v.length≠(1*2^b)):ai t b (.iface 75 (vI 10)) :=
 lD [1,3] [.a,.q,.t,.h 1 (.row b (lR v)),.aR [.o,(iL v),.o,(iI (((1*2^b):Nat):Int))],.t,.q] (y5 (aj h1) (bm lR (rN b) h2) (ak ag.cells v) (b7 (k := .i64) h3 h4) (cZ h5))
theorem c9(t:aA)(b:Nat)(v:Rs)(c:Int)(h1:b<t.roots.length)(h2:t.roots[b]? = some v)(h3:b≤64)(h4:(1*2^b)<9223372036854775808)(h5:v.length=(1*2^b))(h6:b≤t.roots.length)(h7:Cp 113 [(⟨(t.roots.take b)⟩:aA).pv,ae v] .ay)(h8:Cp 63 [(⟨(t.roots.take b)⟩:aA).pv,ae v] (vI c))(h9:c<0):ai t b (.iface 75 (vI 3)) :=
 lD [1,3,1,1,1,6] [.a,.q,.t,.h 1 (.row b (lR v)),.aR [.o,(iL v),.o,(iI (((1*2^b):Nat):Int))],.f,.h 3 (.fR 0 b (((t.roots.take b):List (Rs)).map lR)),.h 2 (.pv .ay),.q,.a,.h 2 (.pv (vI c)),.t,.q] (y9 (aj h1) (bm lR (rN b) h2) (ak ag.cells v) (b7 (k := .i64) h3 h4) (bX h5) (fV (qM ag.cells) (t.roots:List (Rs)) (rN b) h6) h7 h8 (br h9))
theorem kA(t:aA)(b:Nat)(v:Rs)(c:Int){r:PV}(h1:b<t.roots.length)(h2:t.roots[b]? = some v)(h3:b≤64)(h4:(1*2^b)<9223372036854775808)(h5:v.length=(1*2^b))(h6:b≤t.roots.length)(h7:Cp 113 [(⟨(t.roots.take b)⟩:aA).pv,ae v] .ay)(h8:Cp 63 [(⟨(t.roots.take b)⟩:aA).pv,ae v] (vI c))(h9:0≤c)(cw:(b+1)<9223372036854775808)(hL:ai t (b+1) r):ai t b r :=
 lG [1,3,1,1,1,6] [.a,.q,.t,.h 1 (.row b (lR v)),.aR [.o,(iL v),.o,(iI (((1*2^b):Nat):Int))],.f,.h 3 (.fR 0 b (((t.roots.take b):List (Rs)).map lR)),.h 2 (.pv .ay),.q,.a,.h 2 (.pv (vI c)),.f,.h 0 (iI (((b+1):Nat):Int)),.aH [1,13,14,15],.drop [5]] (JU (aj h1) (bm lR (rN b) h2) (ak ag.cells v) (b7 (k := .i64) h3 h4) (bX h5) (fV (qM ag.cells) (t.roots:List (Rs)) (rN b) h6) h7 h8 (bu h9) (aL cw)) hL
theorem uA(t:aA)(b:Nat)(v:Rs)(c:Int)(h1:b<t.roots.length)(h2:t.roots[b]? = some v)(h3:b≤64)(h4:(1*2^b)<9223372036854775808)(h5:v.length=(1*2^b))(h6:b≤t.roots.length)(h7:Cp 113 [(⟨(t.roots.take b)⟩:aA).pv,ae v] (.iface 75 (vI c))):ai t b (.iface 75 (vI c)) :=
 lD [1,3,1,1,1,6] [.a,.q,.t,.h 1 (.row b (lR v)),.aR [.o,(iL v),.o,(iI (((1*2^b):Nat):Int))],.f,.h 3 (.fR 0 b (((t.roots.take b):List (Rs)).map lR)),.h 2 (.pv (.iface 75 (vI c))),.q,.a,.q] (y7 (aj h1) (bm lR (rN b) h2) (ak ag.cells v) (b7 (k := .i64) h3 h4) (bX h5) (fV (qM ag.cells) (t.roots:List (Rs)) (rN b) h6) h7)
theorem Dp(t:aA)(b:Nat)(h1:t.roots.length≤b):ai t b .ay :=
 lD [] [.a,.q,.f,.q] (y1 (aq h1))
end fE
namespace gJ
@[reducible] def fn:Func:=Tryz.f58
def a8:List eR:=focus [0,2,0,0,2,0,2,1,2,0,0,2,0,0] [.code (aP fn)]
def inv1(list:List (List ag))(J6:Nat)(t:aA):St:=⟨[(2,(.ptr 2 0)),(14,(.pv (dp (db ag.cells) list))),(15,(eI (list.length:Int))),(16,(eI (J6:Int)))],[(2,(.lit [(.pv (dp (db ag.cells) t.roots))]))]⟩
@[reducible] def ai(list:List (List ag))(J6:Nat)(t:aA)(r:PV):Prop:=L bp fn a8 (inv1 list J6 t) r
theorem e0(t:aA)(b:List (Rs)){r:PV}(h1:Cp 112 [t.pv] .ay)(hL:ai b 0 t r):Cp 58 [t.pv,(dp lR b)] r :=
 eG func58 [] [.q,.h 1 (.pv .ay),.q,.a,.h 1 (iL b),.aH [2,14,15,16]] (y2 h1 (ak lR b)) hL
theorem l10(b:List (Rs))(c:Nat)(t:aA)(v:Rs){r:PV}(h1:c<b.length)(h2:b[c]? = some v)(h3:Cp 113 [t.pv,ae v] .ay)(h4:(c+1)<9223372036854775808)(hL:ai b (c+1) t r):ai b c t r :=
 lG [1,3] [.a,.q,.t,.h 0 (.row c (lR v)),.h 2 (.pv .ay),.q,.a,.h 0 (iI (((c+1):Nat):Int)),.aH [2,14,15,16]] (y4 (aj h1) (bm lR (rN c) h2) h3 (aL h4)) hL
theorem kA(b:List (Rs))(c:Nat)(t:aA)(h1:b.length≤c):ai b c t .ay :=
 lD [] [.a,.q,.f,.q] (y1 (aq h1))
end gJ
namespace fT
@[reducible] def fn:Func:=Tryz.f113
def a8:List eR:=focus [0,2,0,0,2,0,0,2,0,2,1,2,0,0,2,0,0] [.code (aP fn)]
def inv1(a:List ag)(FU:Nat):St:=⟨[(23,(.pv (ae a))),(24,(eI (a.length:Int))),(25,(eI (FU:Int)))],[]⟩
@[reducible] def ai(a:List ag)(FU:Nat)(r:PV):Prop:=L bp fn a8 (inv1 a FU) r
theorem e0(t:aA)(a:Rs)(b:Int)(h1:0<a.length)(h2:Cp 114 [ae a] (vI b))(h3:b<0):Cp 113 [t.pv,ae a] (.iface 75 (vI 10)) :=
 eD func113 [] [.q,.h 1 (iL a),.t,.h 1 (.pv (vI b)),.aR [.o,.o,.o,.skip,.skip,.skip,.skip,.skip,(.dec true)],.a,.q] (y9 (ak ag.cells a) (aj h1) h2 (br h3) (br h3) (br h3) (br h3) (br h3) (br h3))
theorem e1(t:aA)(a:Rs)(b:Int)(h1:0<a.length)(h2:Cp 114 [ae a] (vI b))(h3:0≤b)(h4:(t.roots.length:Int)<b):Cp 113 [t.pv,ae a] (.iface 75 (vI 10)) :=
 eD func113 [] [.q,.h 1 (iL a),.t,.h 1 (.pv (vI b)),.aR [.o,.o,.o,.o,.o,.o,(iL t.roots),.o,(.dec false)],.t,.q] (HY (ak ag.cells a) (aj h1) h2 (bu h3) (bu h3) (bu h3) (bu h3) (ak lR t.roots) (bu h3) (bu h3) (br h4))
theorem e2(t:aA)(a:Rs)(b:Int){r:PV}(h1:0<a.length)(h2:Cp 114 [ae a] (vI b))(h3:0≤b)(h4:b≤(t.roots.length:Int))(hL:ai a 0 r):Cp 113 [t.pv,ae a] r :=
 eG func113 [] [.q,.h 1 (iL a),.t,.h 1 (.pv (vI b)),.aR [.o,.o,.o,.o,.o,.o,(iL t.roots),.o,(.dec false)],.f,.h 1 (iL a),.aH [23,24,25],.drop [2]] (Jd (ak ag.cells a) (aj h1) h2 (bu h3) (bu h3) (bu h3) (bu h3) (ak lR t.roots) (bu h3) (bu h3) (bu h4) (ak ag.cells a)) hL
theorem e3(t:aA)(a:Rs){r:PV}(h1:a.length≤0)(hL:ai a 0 r):Cp 113 [t.pv,ae a] r :=
 eG func113 [] [.q,.h 1 (iL a),.f,.h 1 (iL a),.aH [23,24,25],.drop [2]] (y3 (ak ag.cells a) (aq h1) (ak ag.cells a)) hL
theorem l10(a:Rs)(b:Nat)(v:ag)(c:Bool)(h1:b<a.length)(h2:a[b]? = some v)(h3:Cp 102 [v.pv] (vB c))(h4:c=false):ai a b (.iface 75 (vI 2)) :=
 lD [1,3] [.a,.q,.t,.h 0 (.row b (ag.cells v)),.h 1 (.pv (vB c)),.t,.q] (y4 (aj h1) (bm ag.cells (rN b) h2) h3 (cA h4))
theorem c9(a:Rs)(b:Nat)(v:ag)(c:Bool){r:PV}(h1:b<a.length)(h2:a[b]? = some v)(h3:Cp 102 [v.pv] (vB c))(h4:c=true)(h5:(b+1)<9223372036854775808)(hL:ai a (b+1) r):ai a b r :=
 lG [1,3] [.a,.q,.t,.h 0 (.row b (ag.cells v)),.h 1 (.pv (vB c)),.f,.h 0 (iI (((b+1):Nat):Int)),.aH [23,24,25],.drop [7]] (y5 (aj h1) (bm ag.cells (rN b) h2) h3 (aM h4) (aL h5)) hL
theorem kA(a:Rs)(b:Nat)(h1:a.length≤b):ai a b .ay :=
 lD [] [.a,.q,.f,.q] (y1 (aq h1))
end fT
namespace bS
@[reducible] def fn:Func:=Tryz.f114
def a8:List eR:=focus [0,2,0,2,0,0,0] [.code (aP fn)]
def inv1(a:List ag)(k_3:Nat):St:=⟨[(0,(.pv (ae a))),(3,(eI (k_3:Int)))],[]⟩
@[reducible] def ai(a:List ag)(k_3:Nat)(r:PV):Prop:=L bp fn a8 (inv1 a k_3) r
theorem e0 (a : Rs) {r : PV}  (hL : ai a 0 r) : Cp 114 [ae a] r :=
 eG func114 [] [.q,.q,.aH [0,3]] True.intro hL
theorem l10(a:Rs)(b:Nat){r:PV}(h1:b≤64)(h2:(1*2^b)<9223372036854775808)(h3:(1*2^b)<a.length)(h4:(b+1)<9223372036854775808)(hL:ai a (b+1) r):ai a b r :=
 lG [] [.a,.aR [.o,(iI (((1*2^b):Nat):Int)),.o,(iL a)],.t,.h 1 (iI (((b+1):Nat):Int)),.aH [0,3]] (y4 (b7 (k := .i64) h1 h2) (ak ag.cells a) (aj h3) (aL h4)) hL
theorem c9(a:Rs)(b:Nat)(h1:b≤64)(h2:(1*2^b)<9223372036854775808)(h3:a.length≤(1*2^b))(h4:(1*2^b)≠a.length):ai a b (vI (-1)) :=
 lD [] [.a,.aR [.o,(iI (((1*2^b):Nat):Int)),.o,(iL a)],.f,.aR [.o,(iI (((1*2^b):Nat):Int)),.o,(iL a)],.t,.q] (y6 (b7 (k := .i64) h1 h2) (ak ag.cells a) (aq h3) (b7 (k := .i64) h1 h2) (ak ag.cells a) (cZ h4))
theorem kA(a:Rs)(b:Nat)(h1:b≤64)(h2:(1*2^b)<9223372036854775808)(h3:a.length≤(1*2^b))(h4:(1*2^b)=a.length):ai a b (vI (b:Int)) :=
 lD [] [.a,.aR [.o,(iI (((1*2^b):Nat):Int)),.o,(iL a)],.f,.aR [.o,(iI (((1*2^b):Nat):Int)),.o,(iL a)],.f,.q] (y6 (b7 (k := .i64) h1 h2) (ak ag.cells a) (aq h3) (b7 (k := .i64) h1 h2) (ak ag.cells a) (bX h4))
end bS
namespace jX
theorem e0(t:aA)(a b:Rs)(h1:Cp 59 [ae a] (ae b))(h2:b.length=0):Cp 63 [t.pv,ae a] (vI 0) :=
 eD func63 [] [.q,.h 1 (.pv (ae b)),.h 1 (iL b),.t,.q] (y3 h1 (ak ag.cells b) (aJ h2))
theorem e1(t:aA)(a b:Rs)(v:ag)(c:Int)(h1:Cp 59 [ae a] (ae b))(h2:b.length≠0)(h3:b.length=1)(h4:b[0]? = some v)(h5:Cp 119 [v.pv] (vI c)):Cp 63 [t.pv,ae a] (vI c) :=
 eD func63 [1,1,1,1,1,3] [.q,.h 1 (.pv (ae b)),.h 1 (iL b),.f,.h 1 (iL b),.t,.aR [.o,(.row 0 (ag.cells v)),.o,(.pv (vI c))]] (y7 h1 (ak ag.cells b) (ax h2) (ak ag.cells b) (aJ h3) (bm ag.cells (Eq.refl (0:Int)) h4) h5)
theorem e2(t:aA)(a b:Rs)(c d g:Int)(k:Nat)(v:Rs)(i:Int)(h1:Cp 59 [ae a] (ae b))(h2:b.length≠0)(h3:b.length≠1)(h4:b.length<9223372036854775808)(h5:(b.length/2)≤b.length)(h6:Cp 63 [t.pv,(ae (b.take (b.length/2)))] (vI c))(h7:(b.length/2)≤(b:Rs).length)(h8:Cp 63 [t.pv,(ae (b.drop (b.length/2)))] (vI d))(h9:Cp 114 [ae b] (vI g))(cw:az (g-1))(fg:(g-1)=(k:Int))(iC:t.roots[k]? = some v)(mn:Cp 63 [t.pv,ae v] (vI i))(qR:i=0):Cp 63 [t.pv,ae a] (vI c) :=
 eD func63 [1,1,1,1,1,1,1,6,1,6,1,1,1,3] [.q,.h 1 (.pv (ae b)),.h 1 (iL b),.f,.h 1 (iL b),.f,.aR [.o,(iL b),(iI (((b.length/2):Nat):Int))],dr 10 2 [.none,.none,.none,(.fR 0 (b.length/2) (((b.take (b.length/2)):Rs).map ag.cells)),(.pv (vI c)),.none,.none,.none,(.fR (b.length/2) ((b:Rs).length) (((b.drop (b.length/2)):Rs).map ag.cells)),(.pv (vI d))],dr 10 0 [.none,.none,.none,.none,(.pv (vI g)),(iI (g-1)),(.row k (lR v)),.none,(.pv (vI i))],.t,.q] (Lj h1 (ak ag.cells b) (ax h2) (ak ag.cells b) (ax h3) (ak ag.cells b) (cB (y:=2) (by decide) h4) (fV aD (b:Rs) (rN (b.length/2)) h5) h6 (mQ aD (b:Rs) (rN (b.length/2)) h7) h8 h9 (aU cw) (bm lR fg iC) mn (bQ qR))
theorem e3(t:aA)(a b:Rs)(c d g:Int)(k:Nat)(v:Rs)(i:Int)(h1:Cp 59 [ae a] (ae b))(h2:b.length≠0)(h3:b.length≠1)(h4:b.length<9223372036854775808)(h5:(b.length/2)≤b.length)(h6:Cp 63 [t.pv,(ae (b.take (b.length/2)))] (vI c))(h7:(b.length/2)≤(b:Rs).length)(h8:Cp 63 [t.pv,(ae (b.drop (b.length/2)))] (vI d))(h9:Cp 114 [ae b] (vI g))(cw:az (g-1))(fg:(g-1)=(k:Int))(iC:t.roots[k]? = some v)(mn:Cp 63 [t.pv,ae v] (vI i))(qR:i≠0)(mS:c=d):Cp 63 [t.pv,ae a] (vI c) :=
 eD func63 [1,1,1,1,1,1,1,6,1,6,1,1,1,3] [.q,.h 1 (.pv (ae b)),.h 1 (iL b),.f,.h 1 (iL b),.f,.aR [.o,(iL b),(iI (((b.length/2):Nat):Int))],dr 10 2 [.none,.none,.none,(.fR 0 (b.length/2) (((b.take (b.length/2)):Rs).map ag.cells)),(.pv (vI c)),.none,.none,.none,(.fR (b.length/2) ((b:Rs).length) (((b.drop (b.length/2)):Rs).map ag.cells)),(.pv (vI d))],dr 10 0 [.none,.none,.none,.none,(.pv (vI g)),(iI (g-1)),(.row k (lR v)),.none,(.pv (vI i))],.f,.aR [.o,.o,.o,.o,.skip,.skip,(.dec true)],.a,.q] (YM h1 (ak ag.cells b) (ax h2) (ak ag.cells b) (ax h3) (ak ag.cells b) (cB (y:=2) (by decide) h4) (fV aD (b:Rs) (rN (b.length/2)) h5) h6 (mQ aD (b:Rs) (rN (b.length/2)) h7) h8 h9 (aU cw) (bm lR fg iC) mn (bA qR) (bQ mS) (bQ mS) (bQ mS))
theorem e4(t:aA)(a b:Rs)(c d g:Int)(k:Nat)(v:Rs)(i:Int)(h1:Cp 59 [ae a] (ae b))(h2:b.length≠0)(h3:b.length≠1)(h4:b.length<9223372036854775808)(h5:(b.length/2)≤b.length)(h6:Cp 63 [t.pv,(ae (b.take (b.length/2)))] (vI c))(h7:(b.length/2)≤(b:Rs).length)(h8:Cp 63 [t.pv,(ae (b.drop (b.length/2)))] (vI d))(h9:Cp 114 [ae b] (vI g))(cw:az (g-1))(fg:(g-1)=(k:Int))(iC:t.roots[k]? = some v)(mn:Cp 63 [t.pv,ae v] (vI i))(qR:i≠0)(mS:c≠d)(qX:d=0):Cp 63 [t.pv,ae a] (vI c) :=
 eD func63 [1,1,1,1,1,1,1,6,1,6,1,1,1,3] [.q,.h 1 (.pv (ae b)),.h 1 (iL b),.f,.h 1 (iL b),.f,.aR [.o,(iL b),(iI (((b.length/2):Nat):Int))],dr 10 2 [.none,.none,.none,(.fR 0 (b.length/2) (((b.take (b.length/2)):Rs).map ag.cells)),(.pv (vI c)),.none,.none,.none,(.fR (b.length/2) ((b:Rs).length) (((b.drop (b.length/2)):Rs).map ag.cells)),(.pv (vI d))],dr 10 0 [.none,.none,.none,.none,(.pv (vI g)),(iI (g-1)),(.row k (lR v)),.none,(.pv (vI i))],.f,.h 6 (.dec false),.t,.q] (S5 h1 (ak ag.cells b) (ax h2) (ak ag.cells b) (ax h3) (ak ag.cells b) (cB (y:=2) (by decide) h4) (fV aD (b:Rs) (rN (b.length/2)) h5) h6 (mQ aD (b:Rs) (rN (b.length/2)) h7) h8 h9 (aU cw) (bm lR fg iC) mn (bA qR) (bA mS) (bA mS) (bA mS) (bQ qX))
theorem e5(t:aA)(a b:Rs)(c d g:Int)(k:Nat)(v:Rs)(i:Int)(h1:Cp 59 [ae a] (ae b))(h2:b.length≠0)(h3:b.length≠1)(h4:b.length<9223372036854775808)(h5:(b.length/2)≤b.length)(h6:Cp 63 [t.pv,(ae (b.take (b.length/2)))] (vI c))(h7:(b.length/2)≤(b:Rs).length)(h8:Cp 63 [t.pv,(ae (b.drop (b.length/2)))] (vI d))(h9:Cp 114 [ae b] (vI g))(cw:az (g-1))(fg:(g-1)=(k:Int))(iC:t.roots[k]? = some v)(mn:Cp 63 [t.pv,ae v] (vI i))(qR:i≠0)(mS:c≠d)(qX:d≠0)(v7:c=0):Cp 63 [t.pv,ae a] (vI d) :=
 eD func63 [1,1,1,1,1,1,1,6,1,6,1,1,1,3] [.q,.h 1 (.pv (ae b)),.h 1 (iL b),.f,.h 1 (iL b),.f,.aR [.o,(iL b),(iI (((b.length/2):Nat):Int))],dr 10 2 [.none,.none,.none,(.fR 0 (b.length/2) (((b.take (b.length/2)):Rs).map ag.cells)),(.pv (vI c)),.none,.none,.none,(.fR (b.length/2) ((b:Rs).length) (((b.drop (b.length/2)):Rs).map ag.cells)),(.pv (vI d))],dr 10 0 [.none,.none,.none,.none,(.pv (vI g)),(iI (g-1)),(.row k (lR v)),.none,(.pv (vI i))],.f,.h 6 (.dec false),.f,.q,.t,.q] (YN h1 (ak ag.cells b) (ax h2) (ak ag.cells b) (ax h3) (ak ag.cells b) (cB (y:=2) (by decide) h4) (fV aD (b:Rs) (rN (b.length/2)) h5) h6 (mQ aD (b:Rs) (rN (b.length/2)) h7) h8 h9 (aU cw) (bm lR fg iC) mn (bA qR) (bA mS) (bA mS) (bA mS) (bA qX) (bQ v7))
theorem e6(t:aA)(a b:Rs)(c d g:Int)(k:Nat)(v:Rs)(i:Int)(j:Rs)(l:Int)(h1:Cp 59 [ae a] (ae b))(h2:b.length≠0)(h3:b.length≠1)(h4:b.length<9223372036854775808)(h5:(b.length/2)≤b.length)(h6:Cp 63 [t.pv,(ae (b.take (b.length/2)))] (vI c))(h7:(b.length/2)≤(b:Rs).length)(h8:Cp 63 [t.pv,(ae (b.drop (b.length/2)))] (vI d))(h9:Cp 114 [ae b] (vI g))(cw:az (g-1))(fg:(g-1)=(k:Int))(iC:t.roots[k]? = some v)(mn:Cp 63 [t.pv,ae v] (vI i))(qR:i≠0)(mS:c≠d)(qX:d≠0)(v7:c≠0)(Er:Cp 120 [t.pv,ae b] (ae j))(B6:Cp 63 [t.pv,ae j] (vI l))(J1:az (c*l)):Cp 63 [t.pv,ae a] (vI (c*l)) :=
 eD func63 [1,1,1,1,1,1,1,6,1,6,1,1,1,3] [.q,.h 1 (.pv (ae b)),.h 1 (iL b),.f,.h 1 (iL b),.f,.aR [.o,(iL b),(iI (((b.length/2):Nat):Int))],dr 10 2 [.none,.none,.none,(.fR 0 (b.length/2) (((b.take (b.length/2)):Rs).map ag.cells)),(.pv (vI c)),.none,.none,.none,(.fR (b.length/2) ((b:Rs).length) (((b.drop (b.length/2)):Rs).map ag.cells)),(.pv (vI d))],dr 10 0 [.none,.none,.none,.none,(.pv (vI g)),(iI (g-1)),(.row k (lR v)),.none,(.pv (vI i))],.f,.h 6 (.dec false),.f,.q,.f,dr 7 1 [.none,.none,.none,.none,(.pv (ae j)),(.pv (vI l)),(iI (c*l))]] (Wf h1 (ak ag.cells b) (ax h2) (ak ag.cells b) (ax h3) (ak ag.cells b) (cB (y:=2) (by decide) h4) (fV aD (b:Rs) (rN (b.length/2)) h5) h6 (mQ aD (b:Rs) (rN (b.length/2)) h7) h8 h9 (aU cw) (bm lR fg iC) mn (bA qR) (bA mS) (bA mS) (bA mS) (bA qX) (bA v7) Er B6 (o8 J1))
end jX
namespace gK
@[reducible] def fn:Func:=Tryz.f59
def a8:List eR:=focus [0,2,0,0,2,0,2,1,2,0,2,0,0,0] [.code (aP fn)]
def inv1(a:List ag)(n_4:Nat):St:=⟨[(0,(.pv (ae a))),(4,(eI (n_4:Int)))],[]⟩
@[reducible] def ai(a:List ag)(n_4:Nat)(r:PV):Prop:=L bp fn a8 (inv1 a n_4) r
theorem e2(a:Rs)(b:Int){r:PV}(h1:Cp 114 [ae a] (vI b))(h2:0<a.length)(h3:0≤b)(h4:b≤5)(hL:ai a a.length r):Cp 59 [ae a] r :=
 eG func59 [] [.q,.h 1 (.pv (vI b)),.aR [.o,(iL a),.o,.o,.o,.o,.o,.o,.o,(.dec false),(.dec true)],.f,.h 1 (iL a),.aH [0,4]] (Jd h1 (ak ag.cells a) (aj h2) (aj h2) (aj h2) (bu h3) (bu h3) (aj h2) (bu h3) (aj h2) (bu h4) (ak ag.cells a)) hL
theorem e3(a:Rs)(b:Int){r:PV}(h1:Cp 114 [ae a] (vI b))(h2:a.length≤0)(hL:ai a a.length r):Cp 59 [ae a] r :=
 eG func59 [] [.q,.h 1 (.pv (vI b)),.aR [.o,(iL a),.o,.o,.skip,.skip,.skip,.skip,.skip,.skip,(.dec false)],.a,.h 1 (iL a),.aH [0,4]] (y8 h1 (ak ag.cells a) (aq h2) (aq h2) (aq h2) (aq h2) (aq h2) (ak ag.cells a)) hL
theorem l10(a:Rs)(b:Nat)(c:Bool){r:PV}(h1:1<b)(h2:b<9223372036854775808)(h3:b≤a.length)(h4:(b/2)≤b)(h5:Cp 115 [(ae ((a.take b).drop (b/2)))] (vB c))(h6:c=true)(hL:ai a (b/2) r):ai a b r :=
 lG [1,1,1,1,1,1,6] [.a,.aR [.o,.o,.o,.o,.o,(iI (((b/2):Nat):Int)),.o,(.fR (b/2) b ((((a.take b).drop (b/2)):Rs).map ag.cells)),(.pv (vB c)),(.dec true)],.t,.h 1 (iI (((b/2):Nat):Int)),.aH [0,4]] (Jd (aj h1) (aj h1) (aj h1) (cB (y:=2) (by decide) h2) (aj h1) (aj h1) (Rz aD (a:Rs) (rN (b/2)) (rN b) h4 h3) (aj h1) h5 (aj h1) h6 (cB (y:=2) (by decide) h2)) hL
theorem uA(a:Rs)(b:Nat)(c:Bool)(d:Rs)(h1:1<b)(h2:b<9223372036854775808)(h3:b≤a.length)(h4:(b/2)≤b)(h5:Cp 115 [(ae ((a.take b).drop (b/2)))] (vB c))(h6:c=false)(h7:b≠1)(h8:Cp 78 [(ae (a.take b))] (ae d)):ai a b (ae d) :=
 lD [1,1,1,1,1,1,6,1,1,1,1,1,1,1,1,6] [.a,.aR [.o,.o,.o,.o,.o,(iI (((b/2):Nat):Int)),.o,(.fR (b/2) b ((((a.take b).drop (b/2)):Rs).map ag.cells)),(.pv (vB c)),(.dec true)],.f,.aR [.o,.o,.o,.skip,.skip,.skip,(.dec false)],.a,.aR [.o,.o,(.fR 0 b (((a.take b):Rs).map ag.cells)),(.pv (ae d))]] (QN (aj h1) (aj h1) (aj h1) (cB (y:=2) (by decide) h2) (aj h1) (aj h1) (Rz aD (a:Rs) (rN (b/2)) (rN b) h4 h3) (aj h1) h5 (aj h1) h6 (ax h7) (ax h7) (ax h7) (ax h7) (fV aD (a:Rs) (rN b) h3) h8)
theorem Dp(a:Rs)(b:Nat)(c:Bool)(h1:b≤1)(h2:b=1)(h3:1≤a.length)(h4:Cp 115 [(ae (a.take 1))] (vB c))(h5:c=true):ai a b (ae []) :=
 lD [1,1,1,1,1,1,1,1,1,6] [.a,.aR [.o,.o,.o,.skip,.skip,.skip,.skip,.skip,.skip,(.dec false)],.a,.aR [.o,.o,.o,.o,(.fR 0 1 (((a.take 1):Rs).map ag.cells)),(.pv (vB c)),(.dec true)],.t,.q] (NI (aq h1) (aq h1) (aq h1) (aq h1) (aq h1) (aq h1) (aq h1) (aJ h2) (aJ h2) (fV aD (a:Rs) (Eq.refl (1:Int)) h3) (aJ h2) h4 (aJ h2) h5)
theorem Xc(a:Rs)(b:Nat)(c:Bool)(d:Rs)(h1:b≤1)(h2:b=1)(h3:1≤a.length)(h4:Cp 115 [(ae (a.take 1))] (vB c))(h5:c=false)(h6:b≤a.length)(h7:Cp 78 [(ae (a.take b))] (ae d)):ai a b (ae d) :=
 lD [1,1,1,1,1,1,1,1,1,6,1,1,1,1,6] [.a,.aR [.o,.o,.o,.skip,.skip,.skip,.skip,.skip,.skip,(.dec false)],.a,.aR [.o,.o,.o,.o,(.fR 0 1 (((a.take 1):Rs).map ag.cells)),(.pv (vB c)),(.dec true)],.f,.aR [.o,.o,(.fR 0 b (((a.take b):Rs).map ag.cells)),(.pv (ae d))]] (Lj (aq h1) (aq h1) (aq h1) (aq h1) (aq h1) (aq h1) (aq h1) (aJ h2) (aJ h2) (fV aD (a:Rs) (Eq.refl (1:Int)) h3) (aJ h2) h4 (aJ h2) h5 (fV aD (a:Rs) (rN b) h6) h7)
theorem l16(a:Rs)(b:Nat)(c:Rs)(h1:b≤1)(h2:b≠1)(h3:b≤a.length)(h4:Cp 78 [(ae (a.take b))] (ae c)):ai a b (ae c) :=
 lD [1,1,1,1,1,1,1,1,1,1,1,6] [.a,.aR [.o,.o,.o,.skip,.skip,.skip,.skip,.skip,.skip,(.dec false)],.a,.aR [.o,.o,.o,.skip,.skip,.skip,(.dec false)],.a,.aR [.o,.o,(.fR 0 b (((a.take b):Rs).map ag.cells)),(.pv (ae c))]] (JV (aq h1) (aq h1) (aq h1) (aq h1) (aq h1) (aq h1) (aq h1) (ax h2) (ax h2) (ax h2) (ax h2) (fV aD (a:Rs) (rN b) h3) h4)
end gK
namespace iG
@[reducible] def fn:Func:=Tryz.f115
def a8:List eR:=focus [0,2,0,0,2,0,0] [.code (aP fn)]
def inv1(a:List ag)(OZ:Nat):St:=⟨[(5,(.pv (ae a))),(6,(eI (a.length:Int))),(7,(eI (OZ:Int)))],[]⟩
@[reducible] def ai(a:List ag)(OZ:Nat)(r:PV):Prop:=L bp fn a8 (inv1 a OZ) r
theorem e0 (a : Rs) {r : PV}  (hL : ai a 0 r) : Cp 115 [ae a] r :=
 eG func115 [] [.q,.h 1 (iL a),.aH [5,6,7]] (y1 (ak ag.cells a)) hL
theorem l10(a:Rs)(b:Nat)(v:ag)(h1:b<a.length)(h2:a[b]? = some v)(h3:v.neg=true):ai a b (vB false) :=
 lD [1,3] [.a,.q,.t,.h 0 (.row b (ag.cells v)),.aR [.o,.o,.o,.skip,.skip,.skip,.skip,(.dec true),.o,.skip,.skip,.skip,.skip],.a,.q] (HY (aj h1) (bm ag.cells (rN b) h2) h3 h3 h3 h3 h3 rT rT rT rT)
theorem c9(a:Rs)(b:Nat)(v:ag)(h1:b<a.length)(h2:a[b]? = some v)(h3:v.neg=false)(h4:0<v.num.length):ai a b (vB false) :=
 lD [1,3] [.a,.q,.t,.h 0 (.row b (ag.cells v)),.aR [.o,.o,.o,.o,.o,(iL v.num),.o,(.dec false),.o,.skip,.skip,.skip,.skip,(.dec true)],.a,.q] (JV (aj h1) (bm ag.cells (rN b) h2) h3 h3 h3 (ak ah v.num) h3 h3 (aj h4) (aj h4) (aj h4) (aj h4) (aj h4))
theorem kA(a:Rs)(b:Nat)(v:ag)(h1:b<a.length)(h2:a[b]? = some v)(h3:v.neg=false)(h4:v.num.length≤0)(h5:0<v.den.length):ai a b (vB false) :=
 lD [1,3] [.a,.q,.t,.h 0 (.row b (ag.cells v)),.aR [.o,.o,.o,.o,.o,(iL v.num),.o,(.dec false),.o,.o,.o,(iL v.den),.o,(.dec false)],.t,.q] (NJ (aj h1) (bm ag.cells (rN b) h2) h3 h3 h3 (ak ah v.num) h3 h3 (aq h4) (aq h4) (aq h4) (ak ah v.den) (aq h4) (aq h4) (aj h5))
theorem uA(a:Rs)(b:Nat)(v:ag){r:PV}(h1:b<a.length)(h2:a[b]? = some v)(h3:v.neg=false)(h4:v.num.length≤0)(h5:v.den.length≤0)(h6:(b+1)<9223372036854775808)(hL:ai a (b+1) r):ai a b r :=
 lG [1,3] [.a,.q,.t,.h 0 (.row b (ag.cells v)),.aR [.o,.o,.o,.o,.o,(iL v.num),.o,(.dec false),.o,.o,.o,(iL v.den),.o,(.dec false)],.f,.h 0 (iI (((b+1):Nat):Int)),.aH [5,6,7],.drop [4]] (Lj (aj h1) (bm ag.cells (rN b) h2) h3 h3 h3 (ak ah v.num) h3 h3 (aq h4) (aq h4) (aq h4) (ak ah v.den) (aq h4) (aq h4) (aq h5) (aL h6)) hL
theorem Dp(a:Rs)(b:Nat)(h1:a.length≤b):ai a b (vB true) :=
 lD [] [.a,.q,.f,.q] (y1 (aq h1))
end iG
namespace mC
@[reducible] def fn:Func:=Tryz.f78
def a8:List eR:=focus [0,2,0,2,0,0,2,0,0] [.code (aP fn)]
def inv1(oE a:List ag)(xo:Nat):St:=⟨[(3,(.row 25 0 oE.length 3)),(6,(.pv (ae a))),(7,(eI (a.length:Int))),(8,(eI (xo:Int)))],[(25,(.pure ((oE:List ag).map ag.cells).flatten))]⟩
@[reducible] def ai(oE a:List ag)(xo:Nat)(r:PV):Prop:=L bp fn a8 (inv1 oE a xo) r
theorem e0 (a : Rs) {r : PV}  (hL : ai [] a 0 r) : Cp 78 [ae a] r :=
 eG func78 [] [.q,.h 0 .nil,.lL 3 25 3,.h 1 (iL a),.aH [3,6,7,8]] (y1 (ak ag.cells a)) hL
theorem Cb(oE a:List ag)(xo:Nat)(v:ag):rf bp FH fn [0,2,0,2,0,0,2,0,0,0,0,2,0,0,2,0,0,0,2] [0] [.none,.none,.none,.none,.none,.none,(.fR (v.num:List UInt32).length 0 ((v.num:List UInt32).map ah)),.none,.none,.none,(.fR (v.den:List UInt32).length 0 ((v.den:List UInt32).map ah)),.none,.none,(.app ((oE++[v]):List ag).length (((oE++[v]):List ag).map ag.cells).flatten),.none] ⟨[(3,(.row 25 0 oE.length 3)),(5,(.ptr 5 0)),(6,(.pv (ae a))),(7,(eI (a.length:Int))),(8,(eI (xo:Int)))],[(5,(.lit [(eB v.neg),(.pv (af v.num)),(.pv (af v.den))])),(25,(pC ag.cells oE))]⟩:=by unfold rf Ao;kernel_rfl
theorem l10(b a:Rs)(c:Nat)(v:ag){r:PV}(h1:c<a.length)(h2:a[c]? = some v)(h3:(([]:Ws)++v.num:Ws).length*4≤140737488355328)(h4:(([]:Ws)++v.den:Ws).length*4≤140737488355328)(h5:((b++[v]):Rs).length*56≤140737488355328)(h6:(c+1)<9223372036854775808)(hL:ai (b++[v]) a (c+1) r):ai b a c r :=
 lG [1,3,6,3,6,3,6] [.a,.q,.t,.h 0 (.row c (ag.cells v)),.aH [3,5,6,7,8],.any [0] [.none,.none,.none,.none,.none,.none,(.fR (v.num:Ws).length 0 ((v.num:Ws).map ah)),.none,.none,.none,(.fR (v.den:Ws).length 0 ((v.den:Ws).map ah)),.none,.none,(.app ((b++[v]):Rs).length (((b++[v]):Rs).map ag.cells).flatten),.none],.h 0 (iI (((c+1):Nat):Int)),.aH [3,6,7,8],.drop [24,5]] (y9 (aj h1) (bm ag.cells (rN c) h2) (kE aW ([]:Ws) (v.num:Ws) 4 (Eq.refl ([]:Ws).length) h3 rfl) (cJ aW (v.num:Ws) (Eq.refl (v.num:Ws).length)) (kE aW ([]:Ws) (v.den:Ws) 4 (Eq.refl ([]:Ws).length) h4 rfl) (cJ aW (v.den:Ws) (Eq.refl (v.den:Ws).length)) (iQ aD (b:Rs) ([v]:Rs) 56 (Eq.refl (b:Rs).length) (Eq.refl ([v]:Rs).length) h5 rfl) (Cb b a c v) (aL h6)) hL
theorem c9(b a:Rs)(c:Nat)(h1:a.length≤c):ai b a c (ae b) :=
 lD [1,3] [.a,.q,.f,.q,.fF 2 ((b:Rs).map ag.cells)] (y2 (aq h1) (cJ aD (b:Rs) (Eq.refl (b:Rs).length)))
end mC
namespace dY
theorem e0(t:aA)(a b:Rs)(c:Bool)(h1:a.length<b.length)(h2:Cp 116 [ae b] (vB c))(h3:c=true):Cp 60 [t.pv,ae a,ae b] (ae []) :=
 eD func60 [] [.q,.aR [.o,(iL a),.o,(iL b)],.t,.q,.aR [.o,(.pv (vB c)),.o,.skip,.skip,(.dec true)],.a,.q] (y7 (ak ag.cells a) (ak ag.cells b) (aj h1) h2 h3 h3 h3)
theorem e1(t:aA)(a b:Rs)(c d:Bool)(h1:a.length<b.length)(h2:Cp 116 [ae b] (vB c))(h3:c=false)(h4:Cp 116 [ae a] (vB d))(h5:d=true):Cp 60 [t.pv,ae a,ae b] (ae []) :=
 eD func60 [] [.q,.aR [.o,(iL a),.o,(iL b)],.t,.q,.aR [.o,(.pv (vB c)),.o,.o,(.pv (vB d)),(.dec false)],.t,.q] (y9 (ak ag.cells a) (ak ag.cells b) (aj h1) h2 h3 h3 h4 h3 h5)
theorem e3(t:aA)(a b:Rs)(c d:Bool)(g i j:Rs)(h1:a.length<b.length)(h2:Cp 116 [ae b] (vB c))(h3:c=false)(h4:Cp 116 [ae a] (vB d))(h5:d=false)(h6:b.length≠1)(h7:b.length<9223372036854775808)(h8:(b.length/2)≤b.length)(h9:(b.length/2)≤(b:Rs).length)(cw:a.length≤(b.length/2))(fg:Cp 60 [t.pv,(ae (b.take (b.length/2))),ae a] (ae g))(iC:Cp 60 [t.pv,(ae (b.drop (b.length/2))),ae a] (ae i))(mn:Cp 118 [ae g,ae i,(vI (((b.length/2):Nat):Int))] (ae j)):Cp 60 [t.pv,ae a,ae b] (ae j) :=
 eD func60 [1,1,1,1,1,1,1,1,1,1,1,1,1,6,6] [.q,.aR [.o,(iL a),.o,(iL b)],.t,.q,.aR [.o,(.pv (vB c)),.o,.o,(.pv (vB d)),(.dec false)],.f,.h 1 (iL b),.f,.aR [.o,(iL b),(iI (((b.length/2):Nat):Int))],dr 7 1 [.none,.none,(.fR 0 (b.length/2) (((b.take (b.length/2)):Rs).map ag.cells)),.none,.none,(.fR (b.length/2) ((b:Rs).length) (((b.drop (b.length/2)):Rs).map ag.cells))],.h 1 (iL a),.t,dr 10 1 [.none,.none,.none,(.pv (ae g)),.none,.none,.none,(.pv (ae i)),.none,(.pv (ae j))]] (S5 (ak ag.cells a) (ak ag.cells b) (aj h1) h2 h3 h3 h4 h3 h5 (ak ag.cells b) (ax h6) (ak ag.cells b) (cB (y:=2) (by decide) h7) (fV aD (b:Rs) (rN (b.length/2)) h8) (mQ aD (b:Rs) (rN (b.length/2)) h9) (ak ag.cells a) (cH cw) fg iC mn)
theorem e5(t:aA)(a b:Rs)(c:Bool)(h1:b.length≤a.length)(h2:Cp 116 [ae a] (vB c))(h3:c=true):Cp 60 [t.pv,ae a,ae b] (ae []) :=
 eD func60 [] [.q,.aR [.o,(iL a),.o,(iL b)],.f,.aR [.o,(.pv (vB c)),.o,.skip,.skip,(.dec true)],.a,.q] (y7 (ak ag.cells a) (ak ag.cells b) (aq h1) h2 h3 h3 h3)
theorem e6(t:aA)(a b:Rs)(c d:Bool)(h1:b.length≤a.length)(h2:Cp 116 [ae a] (vB c))(h3:c=false)(h4:Cp 116 [ae b] (vB d))(h5:d=true):Cp 60 [t.pv,ae a,ae b] (ae []) :=
 eD func60 [] [.q,.aR [.o,(iL a),.o,(iL b)],.f,.aR [.o,(.pv (vB c)),.o,.o,(.pv (vB d)),(.dec false)],.t,.q] (y9 (ak ag.cells a) (ak ag.cells b) (aq h1) h2 h3 h3 h4 h3 h5)
theorem e7(t:aA)(a b:Rs)(c d:Bool)(v v1 g:ag)(h1:b.length≤a.length)(h2:Cp 116 [ae a] (vB c))(h3:c=false)(h4:Cp 116 [ae b] (vB d))(h5:d=false)(h6:a.length=1)(h7:a[0]? = some v)(h8:b[0]? = some v1)(h9:Cp 117 [v.pv,v1.pv] g.pv):Cp 60 [t.pv,ae a,ae b] (ae [g]) :=
 eD func60 [1,1,1,1,1,1,1,1,1,1,1,3,3,1,3] [.q,.aR [.o,(iL a),.o,(iL b)],.f,.aR [.o,(.pv (vB c)),.o,.o,(.pv (vB d)),(.dec false)],.f,.h 1 (iL a),.t,dr 8 1 [.none,(.row 0 (ag.cells v)),.none,.none,(.row 0 (ag.cells v1)),.none,(.pv g.pv)],.fF 6 (([g]:Rs).map ag.cells)] (NJ (ak ag.cells a) (ak ag.cells b) (aq h1) h2 h3 h3 h4 h3 h5 (ak ag.cells a) (aJ h6) (bm ag.cells (Eq.refl (0:Int)) h7) (bm ag.cells (Eq.refl (0:Int)) h8) h9 (cJ aD ([g]:Rs) (Eq.refl ([g]:Rs).length)))
theorem e8(t:aA)(a b:Rs)(c d:Bool)(g i j:Rs)(h1:b.length≤a.length)(h2:Cp 116 [ae a] (vB c))(h3:c=false)(h4:Cp 116 [ae b] (vB d))(h5:d=false)(h6:a.length≠1)(h7:a.length<9223372036854775808)(h8:(a.length/2)≤a.length)(h9:(a.length/2)≤(a:Rs).length)(cw:b.length≤(a.length/2))(fg:Cp 60 [t.pv,(ae (a.take (a.length/2))),ae b] (ae g))(iC:Cp 60 [t.pv,(ae (a.drop (a.length/2))),ae b] (ae i))(mn:Cp 118 [ae g,ae i,(vI (((a.length/2):Nat):Int))] (ae j)):Cp 60 [t.pv,ae a,ae b] (ae j) :=
 eD func60 [1,1,1,1,1,1,1,1,1,1,1,1,1,6,6] [.q,.aR [.o,(iL a),.o,(iL b)],.f,.aR [.o,(.pv (vB c)),.o,.o,(.pv (vB d)),(.dec false)],.f,.h 1 (iL a),.f,.aR [.o,(iL a),(iI (((a.length/2):Nat):Int))],dr 7 1 [.none,.none,(.fR 0 (a.length/2) (((a.take (a.length/2)):Rs).map ag.cells)),.none,.none,(.fR (a.length/2) ((a:Rs).length) (((a.drop (a.length/2)):Rs).map ag.cells))],.h 1 (iL b),.t,dr 10 1 [.none,.none,.none,(.pv (ae g)),.none,.none,.none,(.pv (ae i)),.none,(.pv (ae j))]] (S5 (ak ag.cells a) (ak ag.cells b) (aq h1) h2 h3 h3 h4 h3 h5 (ak ag.cells a) (ax h6) (ak ag.cells a) (cB (y:=2) (by decide) h7) (fV aD (a:Rs) (rN (a.length/2)) h8) (mQ aD (a:Rs) (rN (a.length/2)) h9) (ak ag.cells b) (cH cw) fg iC mn)
theorem e9(t:aA)(a b:Rs)(c d:Bool)(g:Int)(k:Nat)(v i j l m n p s u:Rs)(h1:b.length≤a.length)(h2:Cp 116 [ae a] (vB c))(h3:c=false)(h4:Cp 116 [ae b] (vB d))(h5:d=false)(h6:a.length≠1)(h7:a.length<9223372036854775808)(h8:(a.length/2)≤a.length)(h9:(a.length/2)≤(a:Rs).length)(cw:(a.length/2)<b.length)(fg:(a.length/2)≤b.length)(iC:(a.length/2)≤(b:Rs).length)(mn:Cp 114 [ae a] (vI g))(qR:az (g-1))(mS:(g-1)=(k:Int))(qX:t.roots[k]? = some v)(v7:Cp 60 [t.pv,(ae (a.take (a.length/2))),(ae (b.take (a.length/2)))] (ae i))(Er:Cp 60 [t.pv,(ae (a.drop (a.length/2))),(ae (b.drop (a.length/2)))] (ae j))(B6:Cp 60 [t.pv,ae j,ae v] (ae l))(J1:Cp 61 [ae i,ae l] (ae m))(RI:Cp 60 [t.pv,(ae (a.take (a.length/2))),(ae (b.drop (a.length/2)))] (ae n))(UJ:Cp 60 [t.pv,(ae (a.drop (a.length/2))),(ae (b.take (a.length/2)))] (ae p))(h23:Cp 61 [ae n,ae p] (ae s))(h24:Cp 118 [ae m,ae s,(vI (((a.length/2):Nat):Int))] (ae u)):Cp 60 [t.pv,ae a,ae b] (ae u) :=
 eD func60 [1,1,1,1,1,1,1,1,1,1,1,1,1,6,6,1,1,6,6,1,1,3] [.q,.aR [.o,(iL a),.o,(iL b)],.f,.aR [.o,(.pv (vB c)),.o,.o,(.pv (vB d)),(.dec false)],.f,.h 1 (iL a),.f,.aR [.o,(iL a),(iI (((a.length/2):Nat):Int))],dr 7 1 [.none,.none,(.fR 0 (a.length/2) (((a.take (a.length/2)):Rs).map ag.cells)),.none,.none,(.fR (a.length/2) ((a:Rs).length) (((a.drop (a.length/2)):Rs).map ag.cells))],.h 1 (iL b),.f,dr 7 1 [.none,.none,(.fR 0 (a.length/2) (((b.take (a.length/2)):Rs).map ag.cells)),.none,.none,(.fR (a.length/2) ((b:Rs).length) (((b.drop (a.length/2)):Rs).map ag.cells))],dr 7 1 [.none,.none,.none,(.pv (vI g)),(iI (g-1)),(.row k (lR v))],dr 12 1 [.none,.none,.none,(.pv (ae i)),.none,.none,.none,.none,(.pv (ae j)),.none,(.pv (ae l)),(.pv (ae m))],dr 12 1 [.none,.none,.none,.none,(.pv (ae n)),.none,.none,.none,(.pv (ae p)),(.pv (ae s)),.none,(.pv (ae u))]] (y30 (ak ag.cells a) (ak ag.cells b) (aq h1) h2 h3 h3 h4 h3 h5 (ak ag.cells a) (ax h6) (ak ag.cells a) (cB (y:=2) (by decide) h7) (fV aD (a:Rs) (rN (a.length/2)) h8) (mQ aD (a:Rs) (rN (a.length/2)) h9) (ak ag.cells b) (bh cw) (fV aD (b:Rs) (rN (a.length/2)) fg) (mQ aD (b:Rs) (rN (a.length/2)) iC) mn (aU qR) (bm lR mS qX) v7 Er B6 J1 RI UJ h23 h24)
end dY
namespace nm
@[reducible] def fn:Func:=Tryz.f116
def a8:List eR:=focus [0,2,0,0,2,0,0] [.code (aP fn)]
def inv1(a:List ag)(OZ:Nat):St:=⟨[(5,(.pv (ae a))),(6,(eI (a.length:Int))),(7,(eI (OZ:Int)))],[]⟩
@[reducible] def ai(a:List ag)(OZ:Nat)(r:PV):Prop:=L bp fn a8 (inv1 a OZ) r
theorem e0 (a : Rs) {r : PV}  (hL : ai a 0 r) : Cp 116 [ae a] r :=
 eG func116 [] [.q,.h 1 (iL a),.aH [5,6,7]] (y1 (ak ag.cells a)) hL
theorem l10(a:Rs)(b:Nat)(v:ag)(c:Int)(h1:b<a.length)(h2:a[b]? = some v)(h3:Cp 119 [v.pv] (vI c))(h4:c≠0):ai a b (vB false) :=
 lD [1,3] [.a,.q,.t,.h 0 (.row b (ag.cells v)),.h 1 (.pv (vI c)),.t,.q] (y4 (aj h1) (bm ag.cells (rN b) h2) h3 (gG h4))
theorem c9(a:Rs)(b:Nat)(v:ag)(c:Int){r:PV}(h1:b<a.length)(h2:a[b]? = some v)(h3:Cp 119 [v.pv] (vI c))(h4:c=0)(h5:(b+1)<9223372036854775808)(hL:ai a (b+1) r):ai a b r :=
 lG [1,3] [.a,.q,.t,.h 0 (.row b (ag.cells v)),.h 1 (.pv (vI c)),.f,.h 0 (iI (((b+1):Nat):Int)),.aH [5,6,7],.drop [4]] (y5 (aj h1) (bm ag.cells (rN b) h2) h3 (cR h4) (aL h5)) hL
theorem kA(a:Rs)(b:Nat)(h1:a.length≤b):ai a b (vB true) :=
 lD [] [.a,.q,.f,.q] (y1 (aq h1))
end nm
namespace py
@[reducible] def fn:Func:=Tryz.f61
def a8:List eR:=focus [0,2,0,2,0,2,0,0,2,0,0] [.code (aP fn)]
def inv1(n:Nat)(wid:List ag)(J7:Nat)(iT:List ag):St:=⟨[(0,(.row 14 0 n 3)),(1,(.pv (ae wid))),(19,(eI (n:Int))),(20,(eI (J7:Int)))],[(14,(.pure ((iT:List ag).map ag.cells).flatten))]⟩
@[reducible] def ai(n:Nat)(wid:List ag)(J7:Nat)(iT:List ag)(r:PV):Prop:=L bp fn a8 (inv1 n wid J7 iT) r
theorem e0(a b z:Rs)(n:Nat)(c:Rs){r:PV}(h1:au bp 77 [.pv (ae a),.pv (vI (((max a.length b.length):Nat):Int))] [] (.row 0 0 n 3) [(0,(pC ag.cells z))])(h2:Cp 77 [ae b,(vI (((max a.length b.length):Nat):Int))] (ae c))(hL:ai n c 0 z r):Cp 61 [ae a,ae b] r :=
 eG func61 [] [.q,.aR [.o,(iL a),.o,(iL b),(iI (((max a.length b.length):Nat):Int))],.aR [.o,.o,(.bG [] (some (0,14)) (.row 0 0 n 3) [(0,(pC ag.cells z))]),.o,.o,(.pv (ae c))],.q,.aH [0,1,19,20]] (y5 (ak ag.cells a) (ak ag.cells b) (nd a.length b.length) h1 h2) hL
theorem l10(n:Nat)(b:Rs)(c:Nat)(d:Rs)(v v1 g:ag){r:PV}(h1:c<n)(h2:d[c]? = some v)(h3:b[c]? = some v1)(h4:Cp 62 [v.pv,v1.pv] g.pv)(h5:c<d.length)(h6:(c+1)<9223372036854775808)(hL:ai n b (c+1) (d.set c g) r):ai n b c d r :=
 lG [1,2,2,3,1,2,2] [.a,.q,.t,.q,dr 12 1 [.none,.none,.none,.none,(.nat c),(.Ns [vB v.neg,af v.num,af v.den]),.none,.none,(.row c (ag.cells v1)),.none,(.pv g.pv),(.nat c),(.cells (.pure (((d.set c g):Rs).map ag.cells).flatten))],.h 0 (iI (((c+1):Nat):Int)),.aH [0,1,19,20]] (y8 (aj h1) (cj (rN c) h1) (xl aD h2) (bm ag.cells (rN c) h3) h4 (cj (rN c) h1) (gV aD (d:Rs) g h5) (aL h6)) hL
theorem c9(n:Nat)(b:Rs)(c:Nat)(d:Rs)(h1:n≤c)(h2:n=d.length):ai n b c d (ae d) :=
 lD [1,3] [.a,.q,.f,.q,.fF 4 ((d:Rs).map ag.cells)] (y2 (aq h1) (cJ aD (d:Rs) h2))
end py
namespace Cc
theorem e0(a:Rs)(n:Int)(m:Nat)(h1:n=(m:Int))(h2:56*m≤140737488355328)(h3:(min a.length m)≤(List.replicate m (⟨false,[],[]⟩:ag):Rs).length)(h4:m=(a.take (min a.length m)++(List.replicate m (⟨false,[],[]⟩:ag)).drop (min a.length m)).length):Cp 77 [ae a,vI n] (ae (a.take (min a.length m)++(List.replicate m (⟨false,[],[]⟩:ag)).drop (min a.length m))) :=
 eD func77 [5,4,3] [.q,.h 1 (.app m ((List.replicate m (⟨false,[],[]⟩:ag):Rs).map ag.cells).flatten),.h 2 (.app (min a.length m) (((a.take (min a.length m)++(List.replicate m (⟨false,[],[]⟩:ag)).drop (min a.length m)):Rs).map ag.cells).flatten),.q,.fF 4 (((a.take (min a.length m)++(List.replicate m (⟨false,[],[]⟩:ag)).drop (min a.length m)):Rs).map ag.cells)] (y3 (tH ag.cells (⟨false,[],[]⟩:ag) 56 m h1 h2 rfl) (S4 aD (List.replicate m (⟨false,[],[]⟩:ag):Rs) (a:Rs) (Eq.refl (min a.length m)) h3) (cJ aD ((a.take (min a.length m)++(List.replicate m (⟨false,[],[]⟩:ag)).drop (min a.length m)):Rs) h4))
end Cc
namespace zO
theorem e0(a:Rs)(n:Int)(m:Nat)(h1:n=(m:Int))(h2:56*m≤140737488355328)(h3:(min a.length m)≤(List.replicate m (⟨false,[],[]⟩:ag):Rs).length):au bp 77 [(.pv (ae a)),eI n] [] (.row 0 0 m 3) [(0,(.pure ((((a.take (min a.length m)++(List.replicate m (⟨false,[],[]⟩:ag)).drop (min a.length m)).take m):Rs).map ag.cells).flatten))] :=
 MN func77 [5,4] [.q,.h 1 (.app m ((List.replicate m (⟨false,[],[]⟩:ag):Rs).map ag.cells).flatten),.h 2 (.app (min a.length m) (((a.take (min a.length m)++(List.replicate m (⟨false,[],[]⟩:ag)).drop (min a.length m)):Rs).map ag.cells).flatten),.q,.rJ 7 0,.cut 0 (m*3) ((((a.take (min a.length m)++(List.replicate m (⟨false,[],[]⟩:ag)).drop (min a.length m)).take m):Rs).map ag.cells).flatten,.ord [0]] (y3 (tH ag.cells (⟨false,[],[]⟩:ag) 56 m h1 h2 rfl) (S4 aD (List.replicate m (⟨false,[],[]⟩:ag):Rs) (a:Rs) (Eq.refl (min a.length m)) h3) (xm aD ((a.take (min a.length m)++(List.replicate m (⟨false,[],[]⟩:ag)).drop (min a.length m)):Rs) m))
end zO
namespace nT
@[reducible] def fn:Func:=Tryz.f66
def a8:List eR:=focus [0,2,0,2,0,0,2,0,0] [.code (aP fn)]
def inv1(a:List ag)(J8:Nat)(ek:List ag):St:=⟨[(0,(.pv (ae a))),(3,(.row 7 0 a.length 3)),(9,(eI (a.length:Int))),(10,(eI (J8:Int)))],[(7,(.pure ((ek:List ag).map ag.cells).flatten))]⟩
@[reducible] def ai(a:List ag)(J8:Nat)(ek:List ag)(r:PV):Prop:=L bp fn a8 (inv1 a J8 ek) r
theorem e0(a:Rs){r:PV}(h1:56*a.length≤140737488355328)(hL:ai a 0 (List.replicate a.length (⟨false,[],[]⟩:ag)) r):Cp 66 [ae a] r :=
 eG func66 [1,5] [.q,.aR [.o,(iL a),(.app a.length ((List.replicate a.length (⟨false,[],[]⟩:ag):Rs).map ag.cells).flatten)],.h 1 (iL a),.aH [0,3,9,10]] (y3 (ak ag.cells a) (tH ag.cells (⟨false,[],[]⟩:ag) 56 a.length (rN a.length) h1 rfl) (ak ag.cells a)) hL
theorem l10(a:Rs)(b:Nat)(c:Rs)(v d:ag){r:PV}(h1:b<a.length)(h2:a[b]? = some v)(h3:Cp 128 [v.pv] d.pv)(h4:b<c.length)(h5:(b+1)<9223372036854775808)(hL:ai a (b+1) (c.set b d) r):ai a b c r :=
 lG [1,3,1,2,2] [.a,.q,.t,.q,.aR [.o,.o,.o,.o,(.row b (ag.cells v)),.o,(.pv d.pv),(.nat b),(.cells (.pure (((c.set b d):Rs).map ag.cells).flatten))],.h 0 (iI (((b+1):Nat):Int)),.aH [0,3,9,10]] (y6 (aj h1) (bm ag.cells (rN b) h2) h3 (cj (rN b) h1) (gV aD (c:Rs) d h4) (aL h5)) hL
theorem c9(a:Rs)(b:Nat)(c:Rs)(h1:a.length≤b)(h2:a.length=c.length):ai a b c (ae c) :=
 lD [1,3] [.a,.q,.f,.q,.fF 2 ((c:Rs).map ag.cells)] (y2 (aq h1) (cJ aD (c:Rs) h2))
end nT
namespace Cd
theorem e0(a b:Rs)(n:Int)(z:Rs)(n1:Nat)(c:Rs)(h1:au bp 77 [.pv (ae a),.pv (vI n)] [] (.row 0 0 n1 3) [(0,(pC ag.cells z))])(h2:Cp 77 [ae b,vI n] (ae c))(h3:z.length=n1)(h4:((z++c):Rs).length*56≤140737488355328):Cp 118 [ae a,ae b,vI n] (ae (z++c)) :=
 eD func118 [1,1,6,3] [.q,.aR [.o,.o,(.bG [] (some (0,9)) (.row 0 0 n1 3) [(0,(pC ag.cells z))]),.o,.o,(.pv (ae c)),(.app ((z++c):Rs).length (((z++c):Rs).map ag.cells).flatten)],.fF 6 (((z++c):Rs).map ag.cells)] (y4 h1 h2 (kE aD (z:Rs) (c:Rs) 56 h3 h4 rfl) (cJ aD ((z++c):Rs) (Eq.refl ((z++c):Rs).length)))
end Cd
namespace Ce
theorem e0(t:aA)(a b c:Rs)(d:Int)(k:Nat)(v g i j:Rs)(h1:a.length<9223372036854775808)(h2:(a.length/2)≤a.length)(h3:(a.length/2)≤(a:Rs).length)(h4:Cp 60 [t.pv,(ae (a.take (a.length/2))),(ae (a.take (a.length/2)))] (ae b))(h5:Cp 60 [t.pv,(ae (a.drop (a.length/2))),(ae (a.drop (a.length/2)))] (ae c))(h6:Cp 114 [ae a] (vI d))(h7:az (d-1))(h8:(d-1)=(k:Int))(h9:t.roots[k]? = some v)(cw:Cp 60 [t.pv,ae c,ae v] (ae g))(fg:Cp 66 [ae g] (ae i))(iC:Cp 61 [ae b,ae i] (ae j)):Cp 120 [t.pv,ae a] (ae j) :=
 eD func120 [1,1,6,6,1,1,1,1,3] [.q,.aR [.o,(iL a),(iI (((a.length/2):Nat):Int))],dr 7 1 [.none,.none,(.fR 0 (a.length/2) (((a.take (a.length/2)):Rs).map ag.cells)),.none,.none,(.fR (a.length/2) ((a:Rs).length) (((a.drop (a.length/2)):Rs).map ag.cells))],dr 19 1 [.none,.none,.none,(.pv (ae b)),.none,.none,.none,.none,(.pv (ae c)),.none,.none,.none,(.pv (vI d)),(iI (d-1)),(.row k (lR v)),.none,(.pv (ae g)),(.pv (ae i)),(.pv (ae j))]] (Jd (ak ag.cells a) (cB (y:=2) (by decide) h1) (fV aD (a:Rs) (rN (a.length/2)) h2) (mQ aD (a:Rs) (rN (a.length/2)) h3) h4 h5 h6 (aU h7) (bm lR h8 h9) cw fg iC)
end Ce
namespace Et
theorem e0(t:aA)(a b c:Rs)(h1:Cp 58 [t.pv,(dp lR [a])] .ay)(h2:Cp 66 [ae a] (ae b))(h3:Cp 59 [ae b] (ae c)):Cp 79 [t.pv,ae a] (.aF [ae c,.ay]) :=
 eD func79 [3] [.q,.aR [.o,.o,(.fR 0 0 (([a]:List (Rs)).map lR)),(.pv .ay)],.q,.a,.aR [.o,(.pv (ae b)),(.pv (ae c))]] (y4 (oB (qM ag.cells) ([a]:List (Rs))) h1 h2 h3)
end Et
namespace Eu
theorem e0(t:aA)(a b c d:Rs)(h1:Cp 58 [t.pv,(dp lR [a,b])] .ay)(h2:Cp 60 [t.pv,ae a,ae b] (ae c))(h3:Cp 59 [ae c] (ae d)):Cp 19 [t.pv,ae a,ae b] (.aF [ae d,.ay]) :=
 eD func19 [3] [.q,.aR [.o,.o,.o,(.fR 0 0 (([a,b]:List (Rs)).map lR)),(.pv .ay)],.q,.a,.aR [.o,.o,.o,(.pv (ae c)),(.pv (ae d))]] (y4 (oB (qM ag.cells) ([a,b]:List (Rs))) h1 h2 h3)
end Eu
namespace Ev
theorem e0(t:aA)(a b c d g:Rs)(h1:Cp 58 [t.pv,(dp lR [a,b])] .ay)(h2:Cp 66 [ae b] (ae c))(h3:Cp 61 [ae a,ae c] (ae d))(h4:Cp 59 [ae d] (ae g)):Cp 147 [t.pv,ae a,ae b] (.aF [ae g,.ay]) :=
 eD func147 [3] [.q,.aR [.o,.o,.o,(.fR 0 0 (([a,b]:List (Rs)).map lR)),(.pv .ay)],.q,.a,.aR [.o,.o,(.pv (ae c)),(.pv (ae d)),(.pv (ae g))]] (y5 (oB (qM ag.cells) ([a,b]:List (Rs))) h1 h2 h3 h4)
end Ev
namespace Ew
theorem e0(t:aA)(a b c d:Rs)(h1:Cp 58 [t.pv,(dp lR [a,b])] .ay)(h2:Cp 61 [ae a,ae b] (ae c))(h3:Cp 59 [ae c] (ae d)):Cp 20 [t.pv,ae a,ae b] (.aF [ae d,.ay]) :=
 eD func20 [3] [.q,.aR [.o,.o,.o,(.fR 0 0 (([a,b]:List (Rs)).map lR)),(.pv .ay)],.q,.a,.aR [.o,.o,(.pv (ae c)),(.pv (ae d))]] (y4 (oB (qM ag.cells) ([a,b]:List (Rs))) h1 h2 h3)
end Ew
namespace yH
theorem e1(t:aA)(a:Rs)(b:Bool)(c:Rs)(h1:Cp 148 [t.pv,ae a] (vB b))(h2:b=true)(h3:Cp 59 [ae a] (ae c))(h4:c.length=0):Cp 81 [t.pv,ae a] (.aF [(⟨false,[],[]⟩:ag).pv,vB true]) :=
 eD func81 [] [.q,.h 2 (.pv (vB b)),.f,.h 1 (.pv (ae c)),.h 1 (iL c),.q,.t,.q] (y5 h1 (aM h2) h3 (ak ag.cells c) (aJ h4))
theorem e2(t:aA)(a:Rs)(b:Bool)(c:Rs)(v:ag)(h1:Cp 148 [t.pv,ae a] (vB b))(h2:b=true)(h3:Cp 59 [ae a] (ae c))(h4:c.length≠0)(h5:c.length=1)(h6:c[0]? = some v):Cp 81 [t.pv,ae a] (.aF [v.pv,vB true]) :=
 eD func81 [1,1,1,1,1,1,3] [.q,.h 2 (.pv (vB b)),.f,.h 1 (.pv (ae c)),.h 1 (iL c),.q,.f,.q,.t,.h 1 (.row 0 (ag.cells v))] (y7 h1 (aM h2) h3 (ak ag.cells c) (ax h4) (aJ h5) (bm ag.cells (Eq.refl (0:Int)) h6))
end yH
namespace zP
theorem e0(t:aA)(a:Rs)(h1:Cp 58 [t.pv,(dp lR [a])] .ay):Cp 148 [t.pv,ae a] (vB true) :=
 eD func148 [3] [.q,.aR [.o,.o,(.fR 0 0 (([a]:List (Rs)).map lR)),(.pv .ay)]] (y2 (oB (qM ag.cells) ([a]:List (Rs))) h1)
end zP
namespace Cg
theorem e0(t:aA)(a b c:Rs)(h1:Cp 58 [t.pv,(dp lR [a])] .ay)(h2:Cp 78 [ae a] (ae b))(h3:t.roots.length≤64)(h4:(1*2^t.roots.length)<9223372036854775808)(h5:Cp 77 [ae b,(vI (((1*2^t.roots.length):Nat):Int))] (ae c)):Cp 32 [t.pv,ae a] (.aF [ae c,.ay]) :=
 eD func32 [3] [.q,.aR [.o,.o,(.fR 0 0 (([a]:List (Rs)).map lR)),(.pv .ay)],.q,.a,dr 7 2 [.none,(.pv (ae b)),.none,.none,(iL t.roots),(iI (((1*2^t.roots.length):Nat):Int)),(.pv (ae c))]] (y6 (oB (qM ag.cells) ([a]:List (Rs))) h1 h2 (ak lR t.roots) (b7 (k := .i64) h3 h4) h5)
end Cg
namespace H4
theorem e0(x a:ag)(b:Rs)(h1:Cp 62 [x.pv,(⟨false,[],[]⟩:ag).pv] a.pv)(h2:Cp 59 [(ae [a])] (ae b)):Cp 21 [x.pv] (ae b) :=
 eD func21 [1,3] [.q,.aR [.o,.o,(.pv a.pv),(.fR 0 0 (([a]:Rs).map ag.cells)),(.pv (ae b))]] (y3 h1 (oB aD ([a]:Rs)) h2)
end H4
namespace Ex
theorem e0(t:aA)(a b c d:Rs)(g:Int)(h1:Cp 58 [t.pv,(dp lR [a,b])] .ay)(h2:Cp 66 [ae b] (ae c))(h3:Cp 61 [ae a,ae c] (ae d))(h4:Cp 63 [t.pv,ae d] (vI g)):Cp 24 [t.pv,ae a,ae b] (.aF [vI g,.ay]) :=
 eD func24 [3] [.q,.aR [.o,.o,.o,(.fR 0 0 (([a,b]:List (Rs)).map lR)),(.pv .ay)],.q,.a,dr 6 2 [.none,.none,.none,(.pv (ae c)),(.pv (ae d)),(.pv (vI g))]] (y5 (oB (qM ag.cells) ([a,b]:List (Rs))) h1 h2 h3 h4)
end Ex
namespace Ci
theorem e0(t:aA)(a:Rs)(b:Int)(h1:Cp 58 [t.pv,(dp lR [a])] .ay)(h2:Cp 63 [t.pv,ae a] (vI b)):Cp 22 [t.pv,ae a] (.aF [vI b,.ay]) :=
 eD func22 [3] [.q,.aR [.o,.o,(.fR 0 0 (([a]:List (Rs)).map lR)),(.pv .ay)],.q,.a,.h 2 (.pv (vI b))] (y3 (oB (qM ag.cells) ([a]:List (Rs))) h1 h2)
end Ci
namespace bC
@[reducible] def fn:Func:=Tryz.f49
def a8:List eR:=focus [0,2,0,0,2,0,0] [.code (aP fn)]
def inv1(n:Int)(t_5:Nat):St:=⟨[(0,(eI n)),(5,(eI (t_5:Int)))],[]⟩
@[reducible] def ai(n:Int)(t_5:Nat)(r:PV):Prop:=L bp fn a8 (inv1 n t_5) r
theorem e0 (n : Int) {r : PV}  (hL : ai n 0 r) : Cp 49 [vI n] r :=
 eG func49 [] [.q,.q,.aH [0,5]] True.intro hL
theorem l10(n:Int)(b:Nat)(h1:b<6)(h2:b≤64)(h3:(1*2^b)<9223372036854775808)(h4:n=(((1*2^b):Nat):Int)):ai n b (.aF [(vI (b:Int)),vB true]) :=
 lD [] [.a,.q,.t,.q,.h 2 (iI (((1*2^b):Nat):Int)),.t,.q] (y3 (aj h1) (b7 (k := .i64) h2 h3) (bQ h4))
theorem c9(n:Int)(b:Nat){r:PV}(h1:b<6)(h2:b≤64)(h3:(1*2^b)<9223372036854775808)(h4:n≠(((1*2^b):Nat):Int))(h5:(b+1)<9223372036854775808)(hL:ai n (b+1) r):ai n b r :=
 lG [] [.a,.q,.t,.q,.h 2 (iI (((1*2^b):Nat):Int)),.f,.h 0 (iI (((b+1):Nat):Int)),.aH [0,5]] (y4 (aj h1) (b7 (k := .i64) h2 h3) (bA h4) (aL h5)) hL
theorem kA(n:Int)(b:Nat)(h1:6≤b):ai n b (.aF [vI 0,vB false]) :=
 lD [] [.a,.q,.f,.q] (y1 (aq h1))
end bC
namespace b8
@[reducible] def fn:Func:=Tryz.f15
def a8:List eR:=focus [0,2,0,2,0,0,2,1,2,0,0,2,0,0] [.code (aP fn)]
def inv1(a:List ag)(UK:Nat):St:=⟨[(27,(.pv (ae a))),(28,(eI (a.length:Int))),(29,(eI (UK:Int)))],[]⟩
@[reducible] def ai(a:List ag)(UK:Nat)(r:PV):Prop:=L bp fn a8 (inv1 a UK) r
theorem e0(b:Int)(a:Rs)(c:Int)(d:Bool)(h1:Cp 49 [(vI (a.length:Int))] (.aF [vI c,vB d]))(h2:a.length≠0)(h3:d=false):Cp 15 [vI b,ae a] (vI 10) :=
 eD func15 [] [.q,.aR [.o,(iL a),(.pv (.aF [vI c,vB d]))],.aR [.o,(iL a),.o,.o,.o,.o,.o,.skip,.skip,.skip,(.dec true),(.dec true)],.a,.q] (Jd (ak ag.cells a) h1 (ak ag.cells a) (cZ h2) (cZ h2) (cZ h2) (cA h3) (cA h3) (cA h3) (cZ h2) (cA h3) (cZ h2))
theorem e1(b:Int)(a:Rs)(c:Int)(d:Bool)(h1:Cp 49 [(vI (a.length:Int))] (.aF [vI c,vB d]))(h2:a.length≠0)(h3:d=true)(h4:b<c):Cp 15 [vI b,ae a] (vI 10) :=
 eD func15 [] [.q,.aR [.o,(iL a),(.pv (.aF [vI c,vB d]))],.aR [.o,(iL a),.o,.o,.o,.o,.o,.o,.o,.o,(.dec false),(.dec true)],.t,.q] (JV (ak ag.cells a) h1 (ak ag.cells a) (cZ h2) (cZ h2) (cZ h2) (aM h3) (aM h3) (aM h3) (cZ h2) (aM h3) (cZ h2) (br h4))
theorem e2(b:Int)(a:Rs)(c:Int)(d:Bool){r:PV}(h1:Cp 49 [(vI (a.length:Int))] (.aF [vI c,vB d]))(h2:a.length≠0)(h3:d=true)(h4:c≤b)(hL:ai a 0 r):Cp 15 [vI b,ae a] r :=
 eG func15 [] [.q,.aR [.o,(iL a),(.pv (.aF [vI c,vB d]))],.aR [.o,(iL a),.o,.o,.o,.o,.o,.o,.o,.o,(.dec false),(.dec true)],.f,.h 1 (iL a),.aH [27,28,29]] (NI (ak ag.cells a) h1 (ak ag.cells a) (cZ h2) (cZ h2) (cZ h2) (aM h3) (aM h3) (aM h3) (cZ h2) (aM h3) (cZ h2) (bu h4) (ak ag.cells a)) hL
theorem e3(b:Int)(a:Rs)(c:Int)(d:Bool){r:PV}(h1:Cp 49 [(vI (a.length:Int))] (.aF [vI c,vB d]))(h2:a.length=0)(hL:ai a 0 r):Cp 15 [vI b,ae a] r :=
 eG func15 [] [.q,.aR [.o,(iL a),(.pv (.aF [vI c,vB d]))],.aR [.o,(iL a),.o,.o,.skip,.skip,.skip,.skip,.skip,.skip,.skip,(.dec false)],.a,.h 1 (iL a),.aH [27,28,29]] (y9 (ak ag.cells a) h1 (ak ag.cells a) (bX h2) (bX h2) (bX h2) (bX h2) (bX h2) (ak ag.cells a)) hL
theorem l10(a:Rs)(b:Nat)(v:ag)(c:Bool)(h1:b<a.length)(h2:a[b]? = some v)(h3:Cp 50 [v.pv] (vB c))(h4:c=false):ai a b (vI 2) :=
 lD [1,3] [.a,.q,.t,.h 0 (.row b (ag.cells v)),.h 1 (.pv (vB c)),.t,.q] (y4 (aj h1) (bm ag.cells (rN b) h2) h3 (cA h4))
theorem c9(a:Rs)(b:Nat)(v:ag)(c:Bool){r:PV}(h1:b<a.length)(h2:a[b]? = some v)(h3:Cp 50 [v.pv] (vB c))(h4:c=true)(h5:(b+1)<9223372036854775808)(hL:ai a (b+1) r):ai a b r :=
 lG [1,3] [.a,.q,.t,.h 0 (.row b (ag.cells v)),.h 1 (.pv (vB c)),.f,.h 0 (iI (((b+1):Nat):Int)),.aH [27,28,29],.drop [8]] (y5 (aj h1) (bm ag.cells (rN b) h2) h3 (aM h4) (aL h5)) hL
theorem kA(a:Rs)(b:Nat)(h1:a.length≤b):ai a b (vI 0) :=
 lD [] [.a,.q,.f,.q] (y1 (aq h1))
end b8
namespace bP
@[reducible] def fn:Func:=Tryz.f14
def a8:List eR:=focus [0,2,0,0,2,1,2,0,0,2,0,0] [.code (aP fn)]
def inv1(t:aA)(B8:Nat):St:=⟨[(1,(.ptr 1 0)),(11,(.pv (dp (db ag.cells) t.roots))),(12,(eI (t.roots.length:Int))),(13,(eI (B8:Int)))],[(1,(.lit [(.pv (dp (db ag.cells) t.roots))]))]⟩
@[reducible] def ai(t:aA)(B8:Nat)(r:PV):Prop:=L bp fn a8 (inv1 t B8) r
theorem e0(t:aA)(h1:5<t.roots.length):Cp 14 [t.pv] (vI 4) :=
 eD func14 [] [.q,.h 2 (iL t.roots),.t,.q] (y2 (ak lR t.roots) (aj h1))
theorem e1(t:aA){r:PV}(h1:t.roots.length≤5)(hL:ai t 0 r):Cp 14 [t.pv] r :=
 eG func14 [] [.q,.h 2 (iL t.roots),.f,.h 2 (iL t.roots),.aH [1,11,12,13]] (y3 (ak lR t.roots) (aq h1) (ak lR t.roots)) hL
theorem l10(t:aA)(b:Nat)(v:Rs)(h1:b<t.roots.length)(h2:t.roots[b]? = some v)(h3:b≤64)(h4:(1*2^b)<9223372036854775808)(h5:v.length≠(1*2^b)):ai t b (vI 10) :=
 lD [1,3] [.a,.q,.t,.h 1 (.row b (lR v)),.aR [.o,(iL v),.o,(iI (((1*2^b):Nat):Int))],.t,.q] (y5 (aj h1) (bm lR (rN b) h2) (ak ag.cells v) (b7 (k := .i64) h3 h4) (cZ h5))
theorem c9(t:aA)(b:Nat)(v:Rs)(c:Int)(h1:b<t.roots.length)(h2:t.roots[b]? = some v)(h3:b≤64)(h4:(1*2^b)<9223372036854775808)(h5:v.length=(1*2^b))(h6:Cp 15 [(vI (b:Int)),ae v] (vI c))(h7:c≠0):ai t b (vI c) :=
 lD [1,3] [.a,.q,.t,.h 1 (.row b (lR v)),.aR [.o,(iL v),.o,(iI (((1*2^b):Nat):Int))],.f,.h 2 (.pv (vI c)),.q,.t,.q] (y7 (aj h1) (bm lR (rN b) h2) (ak ag.cells v) (b7 (k := .i64) h3 h4) (bX h5) h6 (gG h7))
theorem kA(t:aA)(b:Nat)(v:Rs)(c d:Int)(h1:b<t.roots.length)(h2:t.roots[b]? = some v)(h3:b≤64)(h4:(1*2^b)<9223372036854775808)(h5:v.length=(1*2^b))(h6:Cp 15 [(vI (b:Int)),ae v] (vI c))(h7:c=0)(h8:Cp 48 [t.pv,ae v] (vI d))(h9:d<0):ai t b (vI 3) :=
 lD [1,3] [.a,.q,.t,.h 1 (.row b (lR v)),.aR [.o,(iL v),.o,(iI (((1*2^b):Nat):Int))],.f,.h 2 (.pv (vI c)),.q,.f,.h 2 (.pv (vI d)),.t,.q] (y9 (aj h1) (bm lR (rN b) h2) (ak ag.cells v) (b7 (k := .i64) h3 h4) (bX h5) h6 (cR h7) h8 (br h9))
theorem uA(t:aA)(b:Nat)(v:Rs)(c d:Int){r:PV}(h1:b<t.roots.length)(h2:t.roots[b]? = some v)(h3:b≤64)(h4:(1*2^b)<9223372036854775808)(h5:v.length=(1*2^b))(h6:Cp 15 [(vI (b:Int)),ae v] (vI c))(h7:c=0)(h8:Cp 48 [t.pv,ae v] (vI d))(h9:0≤d)(cw:(b+1)<9223372036854775808)(hL:ai t (b+1) r):ai t b r :=
 lG [1,3] [.a,.q,.t,.h 1 (.row b (lR v)),.aR [.o,(iL v),.o,(iI (((1*2^b):Nat):Int))],.f,.h 2 (.pv (vI c)),.q,.f,.h 2 (.pv (vI d)),.f,.h 0 (iI (((b+1):Nat):Int)),.aH [1,11,12,13]] (JU (aj h1) (bm lR (rN b) h2) (ak ag.cells v) (b7 (k := .i64) h3 h4) (bX h5) h6 (cR h7) h8 (bu h9) (aL cw)) hL
theorem Dp(t:aA)(b:Nat)(h1:t.roots.length≤b):ai t b (vI 0) :=
 lD [] [.a,.q,.f,.q] (y1 (aq h1))
end bP
namespace cK
@[reducible] def fn:Func:=Tryz.f83
def a8:List eR:=focus [0,2,0,0,2,0,2,1,2,0,0,2,0,0] [.code (aP fn)]
def inv1(l:List (List ag))(J6:Nat)(t:aA):St:=⟨[(2,(.ptr 2 0)),(14,(.pv (dp (db ag.cells) l))),(15,(eI (l.length:Int))),(16,(eI (J6:Int)))],[(2,(.lit [(.pv (dp (db ag.cells) t.roots))]))]⟩
@[reducible] def ai(l:List (List ag))(J6:Nat)(t:aA)(r:PV):Prop:=L bp fn a8 (inv1 l J6 t) r
theorem e1(t:aA)(l:List (Rs))(a:Int){r:PV}(h1:Cp 14 [t.pv] (vI a))(h2:a=0)(hL:ai l 0 t r):Cp 83 [t.pv,(dp lR l)] r :=
 eG func83 [] [.q,.h 1 (.pv (vI a)),.q,.f,.h 1 (iL l),.aH [2,14,15,16]] (y3 h1 (cR h2) (ak lR l)) hL
theorem c9(l:List (Rs))(b:Nat)(t:aA)(v:Rs)(c:Int){r:PV}(h1:b<l.length)(h2:l[b]? = some v)(h3:Cp 15 [(vI (t.roots.length:Int)),ae v] (vI c))(h4:c=0)(h5:(b+1)<9223372036854775808)(hL:ai l (b+1) t r):ai l b t r :=
 lG [1,3] [.a,.q,.t,.h 0 (.row b (lR v)),.aR [.o,.o,(iL t.roots),.o,(.pv (vI c))],.q,.f,.h 0 (iI (((b+1):Nat):Int)),.aH [2,14,15,16]] (y6 (aj h1) (bm lR (rN b) h2) (ak lR t.roots) h3 (cR h4) (aL h5)) hL
theorem kA(l:List (Rs))(b:Nat)(t:aA)(h1:l.length≤b):ai l b t (vI 0) :=
 lD [] [.a,.q,.f,.q] (y1 (aq h1))
end cK
namespace cX
@[reducible] def fn:Func:=Tryz.f16
def a8:List eR:=focus [0,2,0,2,0,0,2,1,2,0,2,0,0,0] [.code (aP fn)]
def inv1(a:List ag)(UG:Nat):St:=⟨[(0,(.pv (ae a))),(5,(eI (UG:Int)))],[]⟩
@[reducible] def ai(a:List ag)(UG:Nat)(r:PV):Prop:=L bp fn a8 (inv1 a UG) r
theorem e0(a:Rs)(b:Int)(c:Bool)(h1:Cp 49 [(vI (a.length:Int))] (.aF [vI b,vB c]))(h2:c=false)(h3:(([]:Rs)++a:Rs).length*56≤140737488355328):Cp 16 [ae a] (ae a) :=
 eD func16 [1,1,1,6,3] [.q,.aR [.o,(iL a),(.pv (.aF [vI b,vB c]))],.q,.t,.h 2 (.app (a:Rs).length ((a:Rs).map ag.cells).flatten),.fF 2 ((a:Rs).map ag.cells)] (y5 (ak ag.cells a) h1 (cA h2) (kE aD ([]:Rs) (a:Rs) 56 (Eq.refl ([]:Rs).length) h3 rfl) (cJ aD (a:Rs) (Eq.refl (a:Rs).length)))
theorem e1(a:Rs)(b:Int)(c:Bool){r:PV}(h1:Cp 49 [(vI (a.length:Int))] (.aF [vI b,vB c]))(h2:c=true)(hL:ai a a.length r):Cp 16 [ae a] r :=
 eG func16 [] [.q,.aR [.o,(iL a),(.pv (.aF [vI b,vB c]))],.q,.f,.h 1 (iL a),.aH [0,5]] (y4 (ak ag.cells a) h1 (aM h2) (ak ag.cells a)) hL
theorem l10(a:Rs)(b:Nat)(c:Bool){r:PV}(h1:1<b)(h2:b<9223372036854775808)(h3:b≤a.length)(h4:(b/2)≤b)(h5:Cp 51 [(ae ((a.take b).drop (b/2)))] (vB c))(h6:c=true)(hL:ai a (b/2) r):ai a b r :=
 lG [1,1,1,1,1,1,6] [.a,.aR [.o,.o,.o,.o,.o,(iI (((b/2):Nat):Int)),.o,(.fR (b/2) b ((((a.take b).drop (b/2)):Rs).map ag.cells)),(.pv (vB c)),(.dec true)],.t,.h 1 (iI (((b/2):Nat):Int)),.aH [0,5]] (Jd (aj h1) (aj h1) (aj h1) (cB (y:=2) (by decide) h2) (aj h1) (aj h1) (Rz aD (a:Rs) (rN (b/2)) (rN b) h4 h3) (aj h1) h5 (aj h1) h6 (cB (y:=2) (by decide) h2)) hL
theorem uA(a:Rs)(b:Nat)(c:Bool)(h1:1<b)(h2:b<9223372036854775808)(h3:b≤a.length)(h4:(b/2)≤b)(h5:Cp 51 [(ae ((a.take b).drop (b/2)))] (vB c))(h6:c=false)(h7:b≠1)(h8:(([]:Rs)++(a.take b):Rs).length*56≤140737488355328):ai a b (ae (a.take b)) :=
 lD [1,1,1,1,1,1,6,1,1,1,1,1,1,1,1,6,6,3] [.a,.aR [.o,.o,.o,.o,.o,(iI (((b/2):Nat):Int)),.o,(.fR (b/2) b ((((a.take b).drop (b/2)):Rs).map ag.cells)),(.pv (vB c)),(.dec true)],.f,.aR [.o,.o,.o,.skip,.skip,.skip,(.dec false)],.a,.aR [.o,.o,.o,(.fR 0 b (((a.take b):Rs).map ag.cells)),(.app ((a.take b):Rs).length (((a.take b):Rs).map ag.cells).flatten)],.fF 2 (((a.take b):Rs).map ag.cells)] (Uu (aj h1) (aj h1) (aj h1) (cB (y:=2) (by decide) h2) (aj h1) (aj h1) (Rz aD (a:Rs) (rN (b/2)) (rN b) h4 h3) (aj h1) h5 (aj h1) h6 (ax h7) (ax h7) (ax h7) (ax h7) (fV aD (a:Rs) (rN b) h3) (kE aD ([]:Rs) ((a.take b):Rs) 56 (Eq.refl ([]:Rs).length) h8 rfl) (cJ aD ((a.take b):Rs) (Eq.refl ((a.take b):Rs).length)))
theorem Dp(a:Rs)(b:Nat)(c:Bool)(h1:b≤1)(h2:b=1)(h3:1≤a.length)(h4:Cp 51 [(ae (a.take 1))] (vB c))(h5:c=true):ai a b (ae []) :=
 lD [1,1,1,1,1,1,1,1,1,6] [.a,.aR [.o,.o,.o,.skip,.skip,.skip,.skip,.skip,.skip,(.dec false)],.a,.aR [.o,.o,.o,.o,(.fR 0 1 (((a.take 1):Rs).map ag.cells)),(.pv (vB c)),(.dec true)],.t,.q] (NI (aq h1) (aq h1) (aq h1) (aq h1) (aq h1) (aq h1) (aq h1) (aJ h2) (aJ h2) (fV aD (a:Rs) (Eq.refl (1:Int)) h3) (aJ h2) h4 (aJ h2) h5)
theorem Xc(a:Rs)(b:Nat)(c:Bool)(h1:b≤1)(h2:b=1)(h3:1≤a.length)(h4:Cp 51 [(ae (a.take 1))] (vB c))(h5:c=false)(h6:b≤a.length)(h7:(([]:Rs)++(a.take b):Rs).length*56≤140737488355328):ai a b (ae (a.take b)) :=
 lD [1,1,1,1,1,1,1,1,1,6,1,1,1,1,6,6,3] [.a,.aR [.o,.o,.o,.skip,.skip,.skip,.skip,.skip,.skip,(.dec false)],.a,.aR [.o,.o,.o,.o,(.fR 0 1 (((a.take 1):Rs).map ag.cells)),(.pv (vB c)),(.dec true)],.f,.aR [.o,.o,.o,(.fR 0 b (((a.take b):Rs).map ag.cells)),(.app ((a.take b):Rs).length (((a.take b):Rs).map ag.cells).flatten)],.fF 2 (((a.take b):Rs).map ag.cells)] (QN (aq h1) (aq h1) (aq h1) (aq h1) (aq h1) (aq h1) (aq h1) (aJ h2) (aJ h2) (fV aD (a:Rs) (Eq.refl (1:Int)) h3) (aJ h2) h4 (aJ h2) h5 (fV aD (a:Rs) (rN b) h6) (kE aD ([]:Rs) ((a.take b):Rs) 56 (Eq.refl ([]:Rs).length) h7 rfl) (cJ aD ((a.take b):Rs) (Eq.refl ((a.take b):Rs).length)))
end cX
namespace cY
@[reducible] def fn:Func:=Tryz.f51
def a8:List eR:=focus [0,2,0,0,2,0,0] [.code (aP fn)]
def inv1(a:List ag)(OZ:Nat):St:=⟨[(5,(.pv (ae a))),(6,(eI (a.length:Int))),(7,(eI (OZ:Int)))],[]⟩
@[reducible] def ai(a:List ag)(OZ:Nat)(r:PV):Prop:=L bp fn a8 (inv1 a OZ) r
theorem e0 (a : Rs) {r : PV}  (hL : ai a 0 r) : Cp 51 [ae a] r :=
 eG func51 [] [.q,.h 1 (iL a),.aH [5,6,7]] (y1 (ak ag.cells a)) hL
theorem l10(a:Rs)(b:Nat)(v:ag)(h1:b<a.length)(h2:a[b]? = some v)(h3:v.neg=true):ai a b (vB false) :=
 lD [1,3] [.a,.q,.t,.h 0 (.row b (ag.cells v)),.aR [.o,.o,.o,.skip,.skip,.skip,.skip,(.dec true),.o,.skip,.skip,.skip,.skip],.a,.q] (HY (aj h1) (bm ag.cells (rN b) h2) h3 h3 h3 h3 h3 rT rT rT rT)
theorem c9(a:Rs)(b:Nat)(v:ag)(h1:b<a.length)(h2:a[b]? = some v)(h3:v.neg=false)(h4:v.num.length≠0):ai a b (vB false) :=
 lD [1,3] [.a,.q,.t,.h 0 (.row b (ag.cells v)),.aR [.o,.o,.o,.o,.o,(iL v.num),.o,(.dec false),.o,.skip,.skip,.skip,.skip,(.dec true)],.a,.q] (JV (aj h1) (bm ag.cells (rN b) h2) h3 h3 h3 (ak ah v.num) h3 h3 (cZ h4) (cZ h4) (cZ h4) (cZ h4) (cZ h4))
theorem kA(a:Rs)(b:Nat)(v:ag)(h1:b<a.length)(h2:a[b]? = some v)(h3:v.neg=false)(h4:v.num.length=0)(h5:v.den.length≠0):ai a b (vB false) :=
 lD [1,3] [.a,.q,.t,.h 0 (.row b (ag.cells v)),.aR [.o,.o,.o,.o,.o,(iL v.num),.o,(.dec false),.o,.o,.o,(iL v.den),.o,(.dec false)],.t,.q] (NJ (aj h1) (bm ag.cells (rN b) h2) h3 h3 h3 (ak ah v.num) h3 h3 (bX h4) (bX h4) (bX h4) (ak ah v.den) (bX h4) (bX h4) (cZ h5))
theorem uA(a:Rs)(b:Nat)(v:ag){r:PV}(h1:b<a.length)(h2:a[b]? = some v)(h3:v.neg=false)(h4:v.num.length=0)(h5:v.den.length=0)(h6:(b+1)<9223372036854775808)(hL:ai a (b+1) r):ai a b r :=
 lG [1,3] [.a,.q,.t,.h 0 (.row b (ag.cells v)),.aR [.o,.o,.o,.o,.o,(iL v.num),.o,(.dec false),.o,.o,.o,(iL v.den),.o,(.dec false)],.f,.h 0 (iI (((b+1):Nat):Int)),.aH [5,6,7],.drop [4]] (Lj (aj h1) (bm ag.cells (rN b) h2) h3 h3 h3 (ak ah v.num) h3 h3 (bX h4) (bX h4) (bX h4) (ak ah v.den) (bX h4) (bX h4) (bX h5) (aL h6)) hL
theorem Dp(a:Rs)(b:Nat)(h1:a.length≤b):ai a b (vB true) :=
 lD [] [.a,.q,.f,.q] (y1 (aq h1))
end cY
namespace gg
@[reducible] def fn:Func:=Tryz.f158
def a8:List eR:=focus [0,2,0,2,0,0,0] [.code (aP fn)]
def inv1(n:Int)(sy:List ag):St:=⟨[(1,(eI n)),(5,(.row 8 0 sy.length 3))],[(8,(.pure ((sy:List ag).map ag.cells).flatten))]⟩
@[reducible] def ai(n:Int)(sy:List ag)(r:PV):Prop:=L bp fn a8 (inv1 n sy) r
theorem e0(a:Rs)(n:Int){r:PV}(h1:(([]:Rs)++a:Rs).length*56≤140737488355328)(hL:ai n a r):Cp 158 [ae a,vI n] r :=
 eG func158 [6] [.q,.h 2 (.app (a:Rs).length ((a:Rs).map ag.cells).flatten),.aH [1,5]] (y1 (kE aD ([]:Rs) (a:Rs) 56 (Eq.refl ([]:Rs).length) h1 rfl)) hL
theorem l10(n:Int)(b:Rs){r:PV}(h1:(b.length:Int)<n)(h2:((b++[(⟨false,[],[]⟩:ag)]):Rs).length*56≤140737488355328)(hL:ai n (b++[(⟨false,[],[]⟩:ag)]) r):ai n b r :=
 lG [1,6] [.a,.q,.t,.h 3 (.app ((b++[(⟨false,[],[]⟩:ag)]):Rs).length (((b++[(⟨false,[],[]⟩:ag)]):Rs).map ag.cells).flatten),.aH [1,5],.drop [15],.rJ 16 8] (y2 (br h1) (iQ aD (b:Rs) ([(⟨false,[],[]⟩:ag)]:Rs) 56 (Eq.refl (b:Rs).length) (Eq.refl ([(⟨false,[],[]⟩:ag)]:Rs).length) h2 rfl)) hL
theorem c9(n:Int)(b:Rs)(h1:n≤(b.length:Int)):ai n b (ae b) :=
 lD [1,3] [.a,.q,.f,.q,.fF 4 ((b:Rs).map ag.cells)] (y2 (bu h1) (cJ aD (b:Rs) (Eq.refl (b:Rs).length)))
end gg
namespace fO
@[reducible] def fn:Func:=Tryz.f158
def a8:List eR:=focus [0,2,0,2,0,0,0] [.code (aP fn)]
def inv1(n:Int)(sy:List ag):St:=⟨[(1,(eI n)),(5,(.row 8 0 sy.length 3))],[(8,(.pure ((sy:List ag).map ag.cells).flatten))]⟩
@[reducible] def ai(n:Int)(sy:List ag)(sin:aS)(r:EV)(sout:aS):Prop:=LX bp fn a8 (inv1 n sy) sin r sout
theorem e0(a:Rs)(n:Int){r:EV}{sout:aS}(h1:(([]:Rs)++a:Rs).length*56≤140737488355328)(hL:ai n a [] r sout):au bp 158 [(.pv (ae a)),eI n] [] r sout :=
 NH func158 [6] [.q,.h 2 (.app (a:Rs).length ((a:Rs).map ag.cells).flatten),.aH [1,5]] (y1 (kE aD ([]:Rs) (a:Rs) 56 (Eq.refl ([]:Rs).length) h1 rfl)) hL
theorem l10(n:Int)(b:Rs){r:EV}{sout:aS}{sin:aS}(hs:kF fn sin)(h1:(b.length:Int)<n)(h2:((b++[(⟨false,[],[]⟩:ag)]):Rs).length*56≤140737488355328)(hL:ai n (b++[(⟨false,[],[]⟩:ag)]) sin r sout):ai n b sin r sout :=
 Li [1,6] [.a,.q,.t,.h 3 (.app ((b++[(⟨false,[],[]⟩:ag)]):Rs).length (((b++[(⟨false,[],[]⟩:ag)]):Rs).map ag.cells).flatten),.aH [1,5],.drop [15],.rJ 16 8] hs (y2 (br h1) (iQ aD (b:Rs) ([(⟨false,[],[]⟩:ag)]:Rs) 56 (Eq.refl (b:Rs).length) (Eq.refl ([(⟨false,[],[]⟩:ag)]:Rs).length) h2 rfl)) hL
theorem c9(n:Int)(b:Rs){sin:aS}(hs:kF fn sin)(hi:sin.all (fun p=>vJ p.1||(aS.get [(0,(pC ag.cells b))] p.1).isSome)=true)(h1:n≤(b.length:Int)):ai n b sin (.row 0 0 b.length 3) [(0,(pC ag.cells b))] :=
 FI [] [.a,.q,.f,.q,.rJ 8 0,.ord [0]] hs hi (y1 (bu h1))
end fO
namespace gh
@[reducible] def fn:Func:=Tryz.f92
def a8:List eR:=focus [0,2,0,2,0,2,0,0,2,0,0] [.code (aP fn)]
def inv1(n:Nat)(wid:List ag)(J7:Nat)(iT:List ag):St:=⟨[(0,(.row 14 0 n 3)),(1,(.pv (ae wid))),(19,(eI (n:Int))),(20,(eI (J7:Int)))],[(14,(.pure ((iT:List ag).map ag.cells).flatten))]⟩
@[reducible] def ai(n:Nat)(wid:List ag)(J7:Nat)(iT:List ag)(r:PV):Prop:=L bp fn a8 (inv1 n wid J7 iT) r
theorem e0(a b z:Rs)(n:Nat)(c:Rs){r:PV}(h1:au bp 158 [.pv (ae a),.pv (vI (((max a.length b.length):Nat):Int))] [] (.row 0 0 n 3) [(0,(pC ag.cells z))])(h2:Cp 158 [ae b,(vI (((max a.length b.length):Nat):Int))] (ae c))(hL:ai n c 0 z r):Cp 92 [ae a,ae b] r :=
 eG func92 [] [.q,.aR [.o,(iL a),.o,(iL b),(iI (((max a.length b.length):Nat):Int))],.aR [.o,.o,(.bG [] (some (0,14)) (.row 0 0 n 3) [(0,(pC ag.cells z))]),.o,.o,(.pv (ae c))],.q,.aH [0,1,19,20]] (y5 (ak ag.cells a) (ak ag.cells b) (nd a.length b.length) h1 h2) hL
theorem l10(n:Nat)(b:Rs)(c:Nat)(d:Rs)(v v1 g:ag){r:PV}(h1:c<n)(h2:d[c]? = some v)(h3:b[c]? = some v1)(h4:Cp 86 [v.pv,v1.pv] g.pv)(h5:c<d.length)(h6:(c+1)<9223372036854775808)(hL:ai n b (c+1) (d.set c g) r):ai n b c d r :=
 lG [1,2,2,3,1,2,2] [.a,.q,.t,.q,dr 12 1 [.none,.none,.none,.none,(.nat c),(.Ns [vB v.neg,af v.num,af v.den]),.none,.none,(.row c (ag.cells v1)),.none,(.pv g.pv),(.nat c),(.cells (.pure (((d.set c g):Rs).map ag.cells).flatten))],.h 0 (iI (((c+1):Nat):Int)),.aH [0,1,19,20]] (y8 (aj h1) (cj (rN c) h1) (xl aD h2) (bm ag.cells (rN c) h3) h4 (cj (rN c) h1) (gV aD (d:Rs) g h5) (aL h6)) hL
theorem c9(n:Nat)(b:Rs)(c:Nat)(d:Rs)(h1:n≤c)(h2:n=d.length):ai n b c d (ae d) :=
 lD [1,3] [.a,.q,.f,.q,.fF 4 ((d:Rs).map ag.cells)] (y2 (aq h1) (cJ aD (d:Rs) h2))
end gh
namespace gi
@[reducible] def fn:Func:=Tryz.f84
def a8:List eR:=focus [0,2,0,2,0,0,2,0,0] [.code (aP fn)]
def inv1(gH a:List ag)(xo:Nat):St:=⟨[(3,(.row 16 0 gH.length 3)),(6,(.pv (ae a))),(7,(eI (a.length:Int))),(8,(eI (xo:Int)))],[(16,(.pure ((gH:List ag).map ag.cells).flatten))]⟩
@[reducible] def ai(gH a:List ag)(xo:Nat)(r:PV):Prop:=L bp fn a8 (inv1 gH a xo) r
theorem e0 (a : Rs) {r : PV}  (hL : ai [] a 0 r) : Cp 84 [ae a] r :=
 eG func84 [] [.q,.h 0 .nil,.lL 3 16 3,.h 1 (iL a),.aH [3,6,7,8]] (y1 (ak ag.cells a)) hL
theorem l10(b a:Rs)(c:Nat)(v d:ag){r:PV}(h1:c<a.length)(h2:a[c]? = some v)(h3:Cp 149 [v.pv] d.pv)(h4:((b++[d]):Rs).length*56≤140737488355328)(h5:(c+1)<9223372036854775808)(hL:ai (b++[d]) a (c+1) r):ai b a c r :=
 lG [1,3,1,6] [.a,.q,.t,.h 0 (.row c (ag.cells v)),.aR [.o,.o,(.pv d.pv),.o,(.app ((b++[d]):Rs).length (((b++[d]):Rs).map ag.cells).flatten)],.h 0 (iI (((c+1):Nat):Int)),.aH [3,6,7,8],.drop [15,5]] (y5 (aj h1) (bm ag.cells (rN c) h2) h3 (iQ aD (b:Rs) ([d]:Rs) 56 (Eq.refl (b:Rs).length) (Eq.refl ([d]:Rs).length) h4 rfl) (aL h5)) hL
theorem c9(b a:Rs)(c:Nat)(h1:a.length≤c):ai b a c (ae b) :=
 lD [1,3] [.a,.q,.f,.q,.fF 2 ((b:Rs).map ag.cells)] (y2 (aq h1) (cJ aD (b:Rs) (Eq.refl (b:Rs).length)))
end gi
namespace fP
theorem e0(t:aA)(a b c d:Rs)(h1:Cp 16 [ae a] (ae c))(h2:Cp 16 [ae b] (ae d))(h3:c.length=0):Cp 91 [t.pv,ae a,ae b] (ae []) :=
 eD func91 [] [.q,.aR [.o,(.pv (ae c)),.o,(.pv (ae d))],.aR [.o,(iL c),.o,(iL d),(iI (((max c.length d.length):Nat):Int))],.aR [.o,(iL c),.o,.o,.skip,.skip,.skip,(.dec true)],.a,.q] (JU h1 h2 (ak ag.cells c) (ak ag.cells d) (nd c.length d.length) (ak ag.cells c) (aJ h3) (aJ h3) (aJ h3) (aJ h3))
theorem e1(t:aA)(a b c d:Rs)(h1:Cp 16 [ae a] (ae c))(h2:Cp 16 [ae b] (ae d))(h3:c.length≠0)(h4:d.length=0):Cp 91 [t.pv,ae a,ae b] (ae []) :=
 eD func91 [] [.q,.aR [.o,(.pv (ae c)),.o,(.pv (ae d))],.aR [.o,(iL c),.o,(iL d),(iI (((max c.length d.length):Nat):Int))],.aR [.o,(iL c),.o,.o,.o,(iL d),.o,(.dec false)],.t,.q] (Jd h1 h2 (ak ag.cells c) (ak ag.cells d) (nd c.length d.length) (ak ag.cells c) (ax h3) (ax h3) (ak ag.cells d) (ax h3) (ax h3) (aJ h4))
theorem e2(t:aA)(a b c d:Rs)(v v1 g:ag)(h1:Cp 16 [ae a] (ae c))(h2:Cp 16 [ae b] (ae d))(h3:c.length≠0)(h4:d.length≠0)(h5:(max c.length d.length)=1)(h6:c[0]? = some v)(h7:d[0]? = some v1)(h8:Cp 157 [v.pv,v1.pv] g.pv):Cp 91 [t.pv,ae a,ae b] (ae [g]) :=
 eD func91 [1,1,1,1,1,1,1,1,1,1,1,1,1,3,3,1,3] [.q,.aR [.o,(.pv (ae c)),.o,(.pv (ae d))],.aR [.o,(iL c),.o,(iL d),(iI (((max c.length d.length):Nat):Int))],.aR [.o,(iL c),.o,.o,.o,(iL d),.o,(.dec false)],.f,.q,.t,dr 8 1 [.none,(.row 0 (ag.cells v)),.none,.none,(.row 0 (ag.cells v1)),.none,(.pv g.pv)],.fF 6 (([g]:Rs).map ag.cells)] (QN h1 h2 (ak ag.cells c) (ak ag.cells d) (nd c.length d.length) (ak ag.cells c) (ax h3) (ax h3) (ak ag.cells d) (ax h3) (ax h3) (ax h4) (aJ h5) (bm ag.cells (Eq.refl (0:Int)) h6) (bm ag.cells (Eq.refl (0:Int)) h7) h8 (cJ aD ([g]:Rs) (Eq.refl ([g]:Rs).length)))
theorem e3(t:aA)(a b c d g i:Rs)(j:Int)(l:Bool)(m p:Rs)(k:Nat)(v s u w x aa z:Rs)(n:Nat)(ab:Rs)(h1:Cp 16 [ae a] (ae c))(h2:Cp 16 [ae b] (ae d))(h3:c.length≠0)(h4:d.length≠0)(h5:(max c.length d.length)≠1)(h6:Cp 158 [ae c,(vI (((max c.length d.length):Nat):Int))] (ae g))(h7:Cp 158 [ae d,(vI (((max c.length d.length):Nat):Int))] (ae i))(h8:Cp 49 [(vI (((max c.length d.length):Nat):Int))] (.aF [vI j,vB l]))(h9:(max c.length d.length)<9223372036854775808)(cw:((max c.length d.length)/2)≤g.length)(fg:((max c.length d.length)/2)≤(g:Rs).length)(iC:((max c.length d.length)/2)≤i.length)(mn:((max c.length d.length)/2)≤(i:Rs).length)(qR:Cp 91 [t.pv,(ae (g.take ((max c.length d.length)/2))),(ae (i.take ((max c.length d.length)/2)))] (ae m))(mS:Cp 91 [t.pv,(ae (g.drop ((max c.length d.length)/2))),(ae (i.drop ((max c.length d.length)/2)))] (ae p))(qX:az (j-1))(v7:(j-1)=(k:Int))(Er:t.roots[k]? = some v)(B6:Cp 91 [t.pv,ae p,ae v] (ae s))(J1:Cp 92 [ae m,ae s] (ae u))(RI:Cp 91 [t.pv,(ae (g.take ((max c.length d.length)/2))),(ae (i.drop ((max c.length d.length)/2)))] (ae w))(UJ:Cp 91 [t.pv,(ae (g.drop ((max c.length d.length)/2))),(ae (i.take ((max c.length d.length)/2)))] (ae x))(h23:Cp 92 [ae w,ae x] (ae aa))(h24:au bp 158 [.pv (ae u),.pv (vI ((((max c.length d.length)/2):Nat):Int))] [] (.row 0 0 n 3) [(0,(pC ag.cells z))])(h25:Cp 158 [ae aa,(vI ((((max c.length d.length)/2):Nat):Int))] (ae ab))(h26:z.length=n)(h27:((z++ab):Rs).length*56≤140737488355328):Cp 91 [t.pv,ae a,ae b] (ae (z++ab)) :=
 eD func91 [1,1,1,1,1,1,1,1,1,1,1,1,1,1,1,1,1,6,1,6,1,6,1,6,1,1,1,3,1,1,1,1,1,1,1,1,1,6,3] [.q,.aR [.o,(.pv (ae c)),.o,(.pv (ae d))],.aR [.o,(iL c),.o,(iL d),(iI (((max c.length d.length):Nat):Int))],.aR [.o,(iL c),.o,.o,.o,(iL d),.o,(.dec false)],.f,.q,.f,.aR [.o,.o,(.pv (ae g)),.o,.o,(.pv (ae i))],.h 1 (.pv (.aF [vI j,vB l])),dr 19 1 [.none,.none,(iI ((((max c.length d.length)/2):Nat):Int)),(.fR 0 ((max c.length d.length)/2) (((g.take ((max c.length d.length)/2)):Rs).map ag.cells)),.none,.none,(iI ((((max c.length d.length)/2):Nat):Int)),(.fR ((max c.length d.length)/2) ((g:Rs).length) (((g.drop ((max c.length d.length)/2)):Rs).map ag.cells)),.none,.none,(iI ((((max c.length d.length)/2):Nat):Int)),(.fR 0 ((max c.length d.length)/2) (((i.take ((max c.length d.length)/2)):Rs).map ag.cells)),.none,.none,(iI ((((max c.length d.length)/2):Nat):Int)),(.fR ((max c.length d.length)/2) ((i:Rs).length) (((i.drop ((max c.length d.length)/2)):Rs).map ag.cells))],dr 17 1 [.none,.none,.none,(.pv (ae m)),.none,.none,.none,.none,(.pv (ae p)),.none,.none,.none,(iI (j-1)),(.row k (lR v)),.none,(.pv (ae s)),(.pv (ae u))],dr 9 1 [.none,.none,.none,(.pv (ae w)),.none,.none,.none,(.pv (ae x)),(.pv (ae aa))],.aR [.o,.o,(iI ((((max c.length d.length)/2):Nat):Int)),(.bG [] (some (0,99)) (.row 0 0 n 3) [(0,(pC ag.cells z))]),.o,.o,(iI ((((max c.length d.length)/2):Nat):Int)),(.pv (ae ab)),(.app ((z++ab):Rs).length (((z++ab):Rs).map ag.cells).flatten)],.fF 6 (((z++ab):Rs).map ag.cells)] (y39 h1 h2 (ak ag.cells c) (ak ag.cells d) (nd c.length d.length) (ak ag.cells c) (ax h3) (ax h3) (ak ag.cells d) (ax h3) (ax h3) (ax h4) (ax h5) h6 h7 h8 (cB (y:=2) (by decide) h9) (fV aD (g:Rs) (Eq.refl (((((max c.length d.length)/2):Nat):Int):Int)) cw) (cB (y:=2) (by decide) h9) (mQ aD (g:Rs) (Eq.refl (((((max c.length d.length)/2):Nat):Int):Int)) fg) (cB (y:=2) (by decide) h9) (fV aD (i:Rs) (Eq.refl (((((max c.length d.length)/2):Nat):Int):Int)) iC) (cB (y:=2) (by decide) h9) (mQ aD (i:Rs) (Eq.refl (((((max c.length d.length)/2):Nat):Int):Int)) mn) qR mS (aU qX) (bm lR v7 Er) B6 J1 RI UJ h23 (cB (y:=2) (by decide) h9) h24 (cB (y:=2) (by decide) h9) h25 (kE aD (z:Rs) (ab:Rs) 56 h26 h27 rfl) (cJ aD ((z++ab):Rs) (Eq.refl ((z++ab):Rs).length)))
end fP
namespace dU
theorem e0(t:aA)(a b:Rs)(h1:Cp 16 [ae a] (ae b))(h2:b.length=0):Cp 48 [t.pv,ae a] (vI 0) :=
 eD func48 [] [.q,.h 1 (.pv (ae b)),.h 1 (iL b),.t,.q] (y3 h1 (ak ag.cells b) (aJ h2))
theorem e1(t:aA)(a b:Rs)(v:ag)(c:Int)(h1:Cp 16 [ae a] (ae b))(h2:b.length≠0)(h3:b.length=1)(h4:b[0]? = some v)(h5:Cp 85 [v.pv] (vI c)):Cp 48 [t.pv,ae a] (vI c) :=
 eD func48 [1,1,1,1,1,3] [.q,.h 1 (.pv (ae b)),.h 1 (iL b),.f,.h 1 (iL b),.q,.t,.aR [.o,(.row 0 (ag.cells v)),.o,(.pv (vI c))]] (y7 h1 (ak ag.cells b) (ax h2) (ak ag.cells b) (aJ h3) (bm ag.cells (Eq.refl (0:Int)) h4) h5)
theorem e2(t:aA)(a b:Rs)(c:Int)(d:Bool)(k:Nat)(v:Rs)(g i j:Int)(h1:Cp 16 [ae a] (ae b))(h2:b.length≠0)(h3:b.length≠1)(h4:Cp 49 [(vI (b.length:Int))] (.aF [vI c,vB d]))(h5:az (c-1))(h6:(c-1)=(k:Int))(h7:t.roots[k]? = some v)(h8:b.length<9223372036854775808)(h9:(b.length/2)≤b.length)(cw:Cp 48 [t.pv,(ae (b.take (b.length/2)))] (vI g))(fg:(b.length/2)≤(b:Rs).length)(iC:Cp 48 [t.pv,(ae (b.drop (b.length/2)))] (vI i))(mn:Cp 48 [t.pv,ae v] (vI j))(qR:az (i*j))(mS:g=(i*j)):Cp 48 [t.pv,ae a] (vI g) :=
 eD func48 [1,1,1,1,1,1,1,3,1,6,1,1,6] [.q,.h 1 (.pv (ae b)),.h 1 (iL b),.f,.h 1 (iL b),.q,.f,.h 1 (.pv (.aF [vI c,vB d])),.aR [.o,.o,.o,(iI (c-1)),(.row k (lR v))],dr 17 1 [.none,.none,.none,(iI (((b.length/2):Nat):Int)),(.fR 0 (b.length/2) (((b.take (b.length/2)):Rs).map ag.cells)),(.pv (vI g)),.none,.none,.none,(iI (((b.length/2):Nat):Int)),(.fR (b.length/2) ((b:Rs).length) (((b.drop (b.length/2)):Rs).map ag.cells)),(.pv (vI i)),.none,.none,(.pv (vI j)),(iI (i*j))],.aR [.o,.o,.o,.o,.skip,.skip,(.dec true)],.a,.q] (YM h1 (ak ag.cells b) (ax h2) (ak ag.cells b) (ax h3) h4 (aU h5) (bm lR h6 h7) (cB (y:=2) (by decide) h8) (fV aD (b:Rs) (rN (b.length/2)) h9) cw (cB (y:=2) (by decide) h8) (mQ aD (b:Rs) (rN (b.length/2)) fg) iC mn (o8 qR) (bQ mS) (bQ mS) (bQ mS))
theorem e3(t:aA)(a b:Rs)(c:Int)(d:Bool)(k:Nat)(v:Rs)(g i j:Int)(h1:Cp 16 [ae a] (ae b))(h2:b.length≠0)(h3:b.length≠1)(h4:Cp 49 [(vI (b.length:Int))] (.aF [vI c,vB d]))(h5:az (c-1))(h6:(c-1)=(k:Int))(h7:t.roots[k]? = some v)(h8:b.length<9223372036854775808)(h9:(b.length/2)≤b.length)(cw:Cp 48 [t.pv,(ae (b.take (b.length/2)))] (vI g))(fg:(b.length/2)≤(b:Rs).length)(iC:Cp 48 [t.pv,(ae (b.drop (b.length/2)))] (vI i))(mn:Cp 48 [t.pv,ae v] (vI j))(qR:az (i*j))(mS:g≠(i*j))(qX:(i*j)=0):Cp 48 [t.pv,ae a] (vI g) :=
 eD func48 [1,1,1,1,1,1,1,3,1,6,1,1,6] [.q,.h 1 (.pv (ae b)),.h 1 (iL b),.f,.h 1 (iL b),.q,.f,.h 1 (.pv (.aF [vI c,vB d])),.aR [.o,.o,.o,(iI (c-1)),(.row k (lR v))],dr 17 1 [.none,.none,.none,(iI (((b.length/2):Nat):Int)),(.fR 0 (b.length/2) (((b.take (b.length/2)):Rs).map ag.cells)),(.pv (vI g)),.none,.none,.none,(iI (((b.length/2):Nat):Int)),(.fR (b.length/2) ((b:Rs).length) (((b.drop (b.length/2)):Rs).map ag.cells)),(.pv (vI i)),.none,.none,(.pv (vI j)),(iI (i*j))],.h 6 (.dec false),.t,.q] (S5 h1 (ak ag.cells b) (ax h2) (ak ag.cells b) (ax h3) h4 (aU h5) (bm lR h6 h7) (cB (y:=2) (by decide) h8) (fV aD (b:Rs) (rN (b.length/2)) h9) cw (cB (y:=2) (by decide) h8) (mQ aD (b:Rs) (rN (b.length/2)) fg) iC mn (o8 qR) (bA mS) (bA mS) (bA mS) (bQ qX))
theorem e4(t:aA)(a b:Rs)(c:Int)(d:Bool)(k:Nat)(v:Rs)(g i j:Int)(h1:Cp 16 [ae a] (ae b))(h2:b.length≠0)(h3:b.length≠1)(h4:Cp 49 [(vI (b.length:Int))] (.aF [vI c,vB d]))(h5:az (c-1))(h6:(c-1)=(k:Int))(h7:t.roots[k]? = some v)(h8:b.length<9223372036854775808)(h9:(b.length/2)≤b.length)(cw:Cp 48 [t.pv,(ae (b.take (b.length/2)))] (vI g))(fg:(b.length/2)≤(b:Rs).length)(iC:Cp 48 [t.pv,(ae (b.drop (b.length/2)))] (vI i))(mn:Cp 48 [t.pv,ae v] (vI j))(qR:az (i*j))(mS:g≠(i*j))(qX:(i*j)≠0)(v7:g=0):Cp 48 [t.pv,ae a] (vI (i*j)) :=
 eD func48 [1,1,1,1,1,1,1,3,1,6,1,1,6] [.q,.h 1 (.pv (ae b)),.h 1 (iL b),.f,.h 1 (iL b),.q,.f,.h 1 (.pv (.aF [vI c,vB d])),.aR [.o,.o,.o,(iI (c-1)),(.row k (lR v))],dr 17 1 [.none,.none,.none,(iI (((b.length/2):Nat):Int)),(.fR 0 (b.length/2) (((b.take (b.length/2)):Rs).map ag.cells)),(.pv (vI g)),.none,.none,.none,(iI (((b.length/2):Nat):Int)),(.fR (b.length/2) ((b:Rs).length) (((b.drop (b.length/2)):Rs).map ag.cells)),(.pv (vI i)),.none,.none,(.pv (vI j)),(iI (i*j))],.h 6 (.dec false),.f,.q,.t,.q] (YN h1 (ak ag.cells b) (ax h2) (ak ag.cells b) (ax h3) h4 (aU h5) (bm lR h6 h7) (cB (y:=2) (by decide) h8) (fV aD (b:Rs) (rN (b.length/2)) h9) cw (cB (y:=2) (by decide) h8) (mQ aD (b:Rs) (rN (b.length/2)) fg) iC mn (o8 qR) (bA mS) (bA mS) (bA mS) (bA qX) (bQ v7))
theorem e5(t:aA)(a b:Rs)(c:Int)(d:Bool)(k:Nat)(v:Rs)(g i j:Int)(l:Rs)(m:Int)(h1:Cp 16 [ae a] (ae b))(h2:b.length≠0)(h3:b.length≠1)(h4:Cp 49 [(vI (b.length:Int))] (.aF [vI c,vB d]))(h5:az (c-1))(h6:(c-1)=(k:Int))(h7:t.roots[k]? = some v)(h8:b.length<9223372036854775808)(h9:(b.length/2)≤b.length)(cw:Cp 48 [t.pv,(ae (b.take (b.length/2)))] (vI g))(fg:(b.length/2)≤(b:Rs).length)(iC:Cp 48 [t.pv,(ae (b.drop (b.length/2)))] (vI i))(mn:Cp 48 [t.pv,ae v] (vI j))(qR:az (i*j))(mS:g≠(i*j))(qX:(i*j)≠0)(v7:g≠0)(Er:Cp 98 [t.pv,ae b,(vI (b.length:Int))] (ae l))(B6:Cp 48 [t.pv,ae l] (vI m))(J1:az (g*m)):Cp 48 [t.pv,ae a] (vI (g*m)) :=
 eD func48 [1,1,1,1,1,1,1,3,1,6,1,1,6] [.q,.h 1 (.pv (ae b)),.h 1 (iL b),.f,.h 1 (iL b),.q,.f,.h 1 (.pv (.aF [vI c,vB d])),.aR [.o,.o,.o,(iI (c-1)),(.row k (lR v))],dr 17 1 [.none,.none,.none,(iI (((b.length/2):Nat):Int)),(.fR 0 (b.length/2) (((b.take (b.length/2)):Rs).map ag.cells)),(.pv (vI g)),.none,.none,.none,(iI (((b.length/2):Nat):Int)),(.fR (b.length/2) ((b:Rs).length) (((b.drop (b.length/2)):Rs).map ag.cells)),(.pv (vI i)),.none,.none,(.pv (vI j)),(iI (i*j))],.h 6 (.dec false),.f,.q,.f,dr 8 1 [.none,.none,.none,.none,.none,(.pv (ae l)),(.pv (vI m)),(iI (g*m))]] (Wf h1 (ak ag.cells b) (ax h2) (ak ag.cells b) (ax h3) h4 (aU h5) (bm lR h6 h7) (cB (y:=2) (by decide) h8) (fV aD (b:Rs) (rN (b.length/2)) h9) cw (cB (y:=2) (by decide) h8) (mQ aD (b:Rs) (rN (b.length/2)) fg) iC mn (o8 qR) (bA mS) (bA mS) (bA mS) (bA qX) (bA v7) Er B6 (o8 J1))
end dU
namespace pz
theorem e0(t:aA)(a:Rs)(n:Int)(b:Rs)(c:Int)(d:Bool)(k k1:Nat)(g i:Rs)(k2:Nat)(v j l m:Rs)(h1:Cp 158 [ae a,vI n] (ae b))(h2:Cp 49 [vI n] (.aF [vI c,vB d]))(h3:n=(k:Int))(h4:k<9223372036854775808)(h5:(k/2)≤b.length)(h6:n=(k1:Int))(h7:k1<9223372036854775808)(h8:(k1/2)≤(b:Rs).length)(h9:Cp 91 [t.pv,(ae (b.take (k/2))),(ae (b.take (k/2)))] (ae g))(cw:Cp 91 [t.pv,(ae (b.drop (k1/2))),(ae (b.drop (k1/2)))] (ae i))(fg:az (c-1))(iC:(c-1)=(k2:Int))(mn:t.roots[k2]? = some v)(qR:Cp 91 [t.pv,ae i,ae v] (ae j))(mS:Cp 84 [ae j] (ae l))(qX:Cp 92 [ae g,ae l] (ae m)):Cp 98 [t.pv,ae a,vI n] (ae m) :=
 eD func98 [1,1,1,6,1,6,1,1,1,3] [.q,.h 2 (.pv (ae b)),.h 1 (.pv (.aF [vI c,vB d])),dr 9 1 [.none,.none,(iI (((k/2):Nat):Int)),(.fR 0 (k/2) (((b.take (k/2)):Rs).map ag.cells)),.none,.none,(iI (((k1/2):Nat):Int)),(.fR (k1/2) ((b:Rs).length) (((b.drop (k1/2)):Rs).map ag.cells))],dr 18 1 [.none,.none,.none,(.pv (ae g)),.none,.none,.none,.none,(.pv (ae i)),.none,.none,.none,(iI (c-1)),(.row k2 (lR v)),.none,(.pv (ae j)),(.pv (ae l)),(.pv (ae m))]] (JV h1 h2 (ML h3 (cB (y:=2) (by decide) h4)) (fV aD (b:Rs) (rN (k/2)) h5) (ML h6 (cB (y:=2) (by decide) h7)) (mQ aD (b:Rs) (rN (k1/2)) h8) h9 cw (aU fg) (bm lR iC mn) qR mS qX)
end pz
namespace iu
@[reducible] def fn:Func:=Tryz.f27
def a8:List eR:=focus [0,2,0,2,0,0,2,0,0] [.code (aP fn)]
def inv1(gH:List ag)(l:List Int)(xo:Nat):St:=⟨[(3,(.row 16 0 gH.length 3)),(6,(.pv (dp gF l))),(7,(eI (l.length:Int))),(8,(eI (xo:Int)))],[(16,(.pure ((gH:List ag).map ag.cells).flatten))]⟩
@[reducible] def ai(gH:List ag)(l:List Int)(xo:Nat)(r:PV):Prop:=L bp fn a8 (inv1 gH l xo) r
theorem e0 (l : List Int) {r : PV}  (hL : ai [] l 0 r) : Cp 27 [dp gF l] r :=
 eG func27 [] [.q,.h 0 .nil,.lL 3 16 3,.h 1 (iL l),.aH [3,6,7,8]] (y1 (ak gF l)) hL
theorem l10(b:Rs)(l:List Int)(c:Nat)(v:Int)(of:ag){r:PV}(h1:c<l.length)(h2:l[c]? = some v)(h3:Cp 36 [vI v] of.pv)(h4:((b++[of]):Rs).length*56≤140737488355328)(h5:(c+1)<9223372036854775808)(hL:ai (b++[of]) l (c+1) r):ai b l c r :=
 lG [1,3,1,6] [.a,.q,.t,.h 0 (.row c (gF v)),.aR [.o,.o,(.pv of.pv),.o,(.app ((b++[of]):Rs).length (((b++[of]):Rs).map ag.cells).flatten)],.h 0 (iI (((c+1):Nat):Int)),.aH [3,6,7,8],.drop [15]] (y5 (aj h1) (bm gF (rN c) h2) h3 (iQ aD (b:Rs) ([of]:Rs) 56 (Eq.refl (b:Rs).length) (Eq.refl ([of]:Rs).length) h4 rfl) (aL h5)) hL
theorem c9(b:Rs)(l:List Int)(c:Nat)(h1:l.length≤c):ai b l c (ae b) :=
 lD [1,3] [.a,.q,.f,.q,.fF 2 ((b:Rs).map ag.cells)] (y2 (aq h1) (cJ aD (b:Rs) (Eq.refl (b:Rs).length)))
end iu
namespace ov
theorem e2(of:Rs)(a:List bk)(b:Rs)(c:List bk)(d g i:Rs)(v v1:bk)(j:Int)(k:aw)(l:ag)(m n:ByteArray)(p:Rs)(s:Bool)(h1:Cp 27 [(dp gF [(-2),0,1])] (ae of))(h2:Cp 26 [ae of] (.aF [dp bk.cells a,.ay]))(h3:Cp 27 [(dp gF [(-3),0,1])] (ae b))(h4:Cp 26 [ae b] (.aF [dp bk.cells c,.ay]))(h5:Cp 27 [(dp gF [2])] (ae d))(h6:Cp 27 [(dp gF [1,1])] (ae g))(h7:Cp 7 [(⟨[d]⟩:aA).pv,ae g] (.aF [ae i,.ay]))(h8:a.length=2)(h9:c.length=2)(cw:a[1]? = some v)(fg:c[1]? = some v1)(iC:Cp 23 [v.pv,v1.pv] (.aF [vI j,.ay]))(mn:Cp 28 [v.pv,vI 1] (.aF [k.pv,.ay]))(qR:Cp 29 [v.pv,v1.pv] (.aF [l.pv,.ay]))(mS:j=(-1))(qX:Cp 30 [k.pv] (.str m))(v7:m=(ByteArray.mk #[49,46,46,51,47,50]))(Er:Cp 31 [l.pv] (.str n))(B6:n=(ByteArray.mk #[51,47,50]))(J1:Cp 27 [(dp gF [(-1),(-2),1])] (ae p))(RI:Cp 12 [ae i,ae p] (vB s)):Cp 6 [] (vB s) :=
 eD func6 [3,1,1,3,1,1,3,1,3,3,1,1,1,1,1,1,1,1,1,1,1,1,1,1,1,1,3,3,1,3,1,3,3,1,1,1,1,1,1,1,1,1,1,1,1,1,1,1,1,1,1,1,3] [.q,.aR [(.fR 0 0 (([(-2),0,1]:List Int).map gF)),(.pv (ae of)),(.pv (.aF [dp bk.cells a,.ay]))],.aR [(.fR 0 0 (([(-3),0,1]:List Int).map gF)),(.pv (ae b)),(.pv (.aF [dp bk.cells c,.ay]))],.aR [(.fR 0 0 (([2]:List Int).map gF)),(.pv (ae d)),(.fR 0 0 (([d]:List (Rs)).map lR)),.o,(.fR 0 0 (([1,1]:List Int).map gF)),(.pv (ae g)),(.pv (.aF [ae i,.ay]))],.aR [.o,.o,.o,.o,.o,.o,.o,.o,.o,.o,.o,.o,(iL a),.o,.o,.o,.o,(iL c),.o,(.dec false)],.f,dr 11 1 [.none,(.row 1 (bk.cells v)),.none,.none,(.row 1 (bk.cells v1)),.none,(.pv (.aF [vI j,.ay]))],.aR [.o,(.row 1 (bk.cells v)),.o,(.pv (.aF [k.pv,.ay]))],dr 12 1 [.none,(.row 1 (bk.cells v)),.none,.none,(.row 1 (bk.cells v1)),.none,(.pv (.aF [l.pv,.ay]))],.aR [.o,.o,.o,.o,.o,.o,.o,.o,.o,.o,.o,.o,.o,.o,.o,.o,(.pv (.str m)),.o,(.dec true),.o,.o,(.pv (.str n)),.o,(.dec true),.o,.o,(.fR 0 0 (([(-1),(-2),1]:List Int).map gF)),(.pv (ae p)),(.pv (vB s)),(.dec true)]] (cj (oB BU ([(-2),0,1]:List Int)) (cj h1 (cj h2 (cj (oB BU ([(-3),0,1]:List Int)) (cj h3 (cj h4 (cj (oB BU ([2]:List Int)) (cj h5 (cj (oB (qM ag.cells) ([d]:List (Rs))) (cj (oB BU ([1,1]:List Int)) (cj h6 (cj h7 (cj rF (cj rF (cj rF (cj rF (cj rF (cj rF (y40 (ak bk.cells a) rF (bX h8) (bX h8) (ak bk.cells c) (bX h8) (bX h8) (bX h9) (bm bk.cells (Eq.refl (1:Int)) cw) (bm bk.cells (Eq.refl (1:Int)) fg) iC (bm bk.cells (Eq.refl (1:Int)) cw) mn (bm bk.cells (Eq.refl (1:Int)) cw) (bm bk.cells (Eq.refl (1:Int)) fg) qR rT rT rT rT rT rT (bQ mS) (bQ mS) qX (bQ mS) (bQ mS) (r9 v7) (r9 v7) Er (r9 v7) (r9 v7) (r9 B6) (r9 B6) (oB BU ([(-1),(-2),1]:List Int)) (r9 B6) J1 (r9 B6) RI (r9 B6))))))))))))))))))))
end ov
namespace dE
@[reducible] def fn:Func:=Tryz.f25
def a8:List eR:=focus [0,2,0,0,2,1,2,0,0,2,0,0] [.code (aP fn)]
def inv1(l:List ag)(J8:Nat):St:=⟨[(8,(.pv (ae l))),(9,(eI (l.length:Int))),(10,(eI (J8:Int)))],[]⟩
@[reducible] def ai(l:List ag)(J8:Nat)(r:PV):Prop:=L bp fn a8 (inv1 l J8) r
theorem e0(l:Rs)(h1:6<l.length):Cp 25 [ae l] (vB false) :=
 eD func25 [] [.q,.h 1 (iL l),.t,.q] (y2 (ak ag.cells l) (aj h1))
theorem e1(l:Rs){r:PV}(h1:l.length≤6)(hL:ai l 0 r):Cp 25 [ae l] r :=
 eG func25 [] [.q,.h 1 (iL l),.f,.h 1 (iL l),.aH [8,9,10]] (y3 (ak ag.cells l) (aq h1) (ak ag.cells l)) hL
theorem l10(l:Rs)(b:Nat)(v:ag)(c:Bool)(h1:b<l.length)(h2:l[b]? = some v)(h3:Cp 67 [v.pv,(vW (1000:UInt32)),(vW (1000:UInt32))] (vB c))(h4:c=false):ai l b (vB false) :=
 lD [1,3] [.a,.q,.t,.h 0 (.row b (ag.cells v)),.h 1 (.pv (vB c)),.t,.q] (y4 (aj h1) (bm ag.cells (rN b) h2) h3 (cA h4))
theorem c9(l:Rs)(b:Nat)(v:ag)(c:Bool){r:PV}(h1:b<l.length)(h2:l[b]? = some v)(h3:Cp 67 [v.pv,(vW (1000:UInt32)),(vW (1000:UInt32))] (vB c))(h4:c=true)(h5:(b+1)<9223372036854775808)(hL:ai l (b+1) r):ai l b r :=
 lG [1,3] [.a,.q,.t,.h 0 (.row b (ag.cells v)),.h 1 (.pv (vB c)),.f,.h 0 (iI (((b+1):Nat):Int)),.aH [8,9,10],.drop [4]] (y5 (aj h1) (bm ag.cells (rN b) h2) h3 (aM h4) (aL h5)) hL
theorem kA(l:Rs)(b:Nat)(h1:l.length≤b):ai l b (vB true) :=
 lD [] [.a,.q,.f,.q] (y1 (aq h1))
end dE
namespace dH
theorem e0(x:ag)(a b:UInt32)(h1:x.num.length<2)(h2:x.den.length<2)(h3:x.num.length=0)(h4:x.den.length=0):Cp 67 [x.pv,vW a,vW b] (vB true) :=
 eD func67 [] [.q,.aR [.o,.o,(iL x.num),.o,.o,.o,.o,(iL x.den),.o,(.dec true),.o,.o,.o,(iL x.num),.o,.o,.skip,.skip,.skip,.skip,.skip,.skip,(.dec true),(.dec true),.o,.o,.o,(iL x.den),.o,.o,.skip,.skip,.skip,.skip,.skip,.skip,(.dec true)]] (y36 (ak ah x.num) (aj h1) (aj h1) (aj h1) (ak ah x.den) (aj h1) (aj h1) (aj h2) (aj h2) (aj h2) (ak ah x.num) (aj h2) (aj h2) (aJ h3) (aJ h3) (aJ h3) (aJ h3) (aJ h3) (aJ h3) (aj h2) (aJ h3) (aj h2) rT rT rT (ak ah x.den) rT rT (aJ h4) (aJ h4) (aJ h4) (aJ h4) (aJ h4) (aJ h4) rT (aJ h4))
theorem e1(x:ag)(a b v:UInt32)(h1:x.num.length<2)(h2:x.den.length<2)(h3:x.num.length=0)(h4:x.den.length≠0)(h5:x.den[0]? = some v):Cp 67 [x.pv,vW a,vW b] (vB (decide ((v.toNat:Int)≤(b.toNat:Int)))) :=
 eD func67 [1,1,1,1,1,1,1,1,1,1,1,1,1,1,1,1,1,1,1,1,1,1,1,1,1,1,1,1,1,1,1,3] [.q,.aR [.o,.o,(iL x.num),.o,.o,.o,.o,(iL x.den),.o,(.dec true),.o,.o,.o,(iL x.num),.o,.o,.skip,.skip,.skip,.skip,.skip,.skip,(.dec true),(.dec true),.o,.o,.o,(iL x.den),.o,.o,.o,.o,(.row 0 (ah v)),.o,.o,.o,(.dec false)]] (y37 (ak ah x.num) (aj h1) (aj h1) (aj h1) (ak ah x.den) (aj h1) (aj h1) (aj h2) (aj h2) (aj h2) (ak ah x.num) (aj h2) (aj h2) (aJ h3) (aJ h3) (aJ h3) (aJ h3) (aJ h3) (aJ h3) (aj h2) (aJ h3) (aj h2) rT rT rT (ak ah x.den) rT rT (ax h4) (ax h4) (ax h4) (bm ah (Eq.refl (0:Int)) h5) (ax h4) (ax h4) (ax h4) rT (ax h4))
theorem e2(x:ag)(a b v:UInt32)(h1:x.num.length<2)(h2:x.den.length<2)(h3:x.num.length≠0)(h4:x.num[0]? = some v)(h5:v.toNat≤a.toNat)(h6:x.den.length=0):Cp 67 [x.pv,vW a,vW b] (vB true) :=
 eD func67 [1,1,1,1,1,1,1,1,1,1,1,1,1,1,1,1,3] [.q,.aR [.o,.o,(iL x.num),.o,.o,.o,.o,(iL x.den),.o,(.dec true),.o,.o,.o,(iL x.num),.o,.o,.o,.o,(.row 0 (ah v)),.o,.o,.o,(.dec false),(.dec true),.o,.o,.o,(iL x.den),.o,.o,.skip,.skip,.skip,.skip,.skip,.skip,(.dec true),(.dec true)]] (y38 (ak ah x.num) (aj h1) (aj h1) (aj h1) (ak ah x.den) (aj h1) (aj h1) (aj h2) (aj h2) (aj h2) (ak ah x.num) (aj h2) (aj h2) (ax h3) (ax h3) (ax h3) (bm ah (Eq.refl (0:Int)) h4) (ax h3) (ax h3) (ax h3) (aj h2) (ax h3) (aj h2) (cH h5) (cH h5) (cH h5) (ak ah x.den) (cH h5) (cH h5) (aJ h6) (aJ h6) (aJ h6) (aJ h6) (aJ h6) (aJ h6) (cH h5) (aJ h6) (cH h5))
theorem e3(x:ag)(a b v v1:UInt32)(h1:x.num.length<2)(h2:x.den.length<2)(h3:x.num.length≠0)(h4:x.num[0]? = some v)(h5:v.toNat≤a.toNat)(h6:x.den.length≠0)(h7:x.den[0]? = some v1):Cp 67 [x.pv,vW a,vW b] (vB (decide ((v1.toNat:Int)≤(b.toNat:Int)))) :=
 eD func67 [1,1,1,1,1,1,1,1,1,1,1,1,1,1,1,1,3,1,1,1,1,1,1,1,1,1,1,1,1,1,1,1,3] [.q,.aR [.o,.o,(iL x.num),.o,.o,.o,.o,(iL x.den),.o,(.dec true),.o,.o,.o,(iL x.num),.o,.o,.o,.o,(.row 0 (ah v)),.o,.o,.o,(.dec false),(.dec true),.o,.o,.o,(iL x.den),.o,.o,.o,.o,(.row 0 (ah v1)),.o,.o,.o,(.dec false),(.dec true)]] (y39 (ak ah x.num) (aj h1) (aj h1) (aj h1) (ak ah x.den) (aj h1) (aj h1) (aj h2) (aj h2) (aj h2) (ak ah x.num) (aj h2) (aj h2) (ax h3) (ax h3) (ax h3) (bm ah (Eq.refl (0:Int)) h4) (ax h3) (ax h3) (ax h3) (aj h2) (ax h3) (aj h2) (cH h5) (cH h5) (cH h5) (ak ah x.den) (cH h5) (cH h5) (ax h6) (ax h6) (ax h6) (bm ah (Eq.refl (0:Int)) h7) (ax h6) (ax h6) (ax h6) (cH h5) (ax h6) (cH h5))
theorem e4(x:ag)(a b v:UInt32)(h1:x.num.length<2)(h2:x.den.length<2)(h3:x.num.length≠0)(h4:x.num[0]? = some v)(h5:a.toNat<v.toNat):Cp 67 [x.pv,vW a,vW b] (vB false) :=
 eD func67 [1,1,1,1,1,1,1,1,1,1,1,1,1,1,1,1,3] [.q,.aR [.o,.o,(iL x.num),.o,.o,.o,.o,(iL x.den),.o,(.dec true),.o,.o,.o,(iL x.num),.o,.o,.o,.o,(.row 0 (ah v)),.o,.o,.o,(.dec false),(.dec true),.o,.skip,.skip,.skip,.skip,.skip,.skip,.skip,.skip,.skip,.skip,.skip,.skip,(.dec false)]] (y30 (ak ah x.num) (aj h1) (aj h1) (aj h1) (ak ah x.den) (aj h1) (aj h1) (aj h2) (aj h2) (aj h2) (ak ah x.num) (aj h2) (aj h2) (ax h3) (ax h3) (ax h3) (bm ah (Eq.refl (0:Int)) h4) (ax h3) (ax h3) (ax h3) (aj h2) (ax h3) (aj h2) (bh h5) (bh h5) (bh h5) (bh h5) (bh h5) (bh h5) (bh h5))
theorem e5(x:ag)(a b:UInt32)(h1:x.num.length<2)(h2:2≤x.den.length):Cp 67 [x.pv,vW a,vW b] (vB false) :=
 eD func67 [] [.q,.aR [.o,.o,(iL x.num),.o,.o,.o,.o,(iL x.den),.o,(.dec true),.o,.skip,.skip,.skip,.skip,.skip,.skip,.skip,.skip,.skip,.skip,.skip,.skip,(.dec false),.o,.skip,.skip,.skip,.skip,.skip,.skip,.skip,.skip,.skip,.skip,.skip,.skip]] (S5 (ak ah x.num) (aj h1) (aj h1) (aj h1) (ak ah x.den) (aj h1) (aj h1) (aq h2) (aq h2) (aq h2) (aq h2) (aq h2) (aq h2) (aq h2) rF rF rF rF rF rF)
theorem e6(x:ag)(a b:UInt32)(h1:2≤x.num.length):Cp 67 [x.pv,vW a,vW b] (vB false) :=
 eD func67 [] [.q,.aR [.o,.o,(iL x.num),.o,.o,.skip,.skip,.skip,.skip,(.dec false),.o,.skip,.skip,.skip,.skip,.skip,.skip,.skip,.skip,.skip,.skip,.skip,.skip,.o,.o,.skip,.skip,.skip,.skip,.skip,.skip,.skip,.skip,.skip,.skip,.skip,.skip]] (Uu (ak ah x.num) (aq h1) (aq h1) (aq h1) (aq h1) (aq h1) rF rF rF rF rF rF rF rF rF rF rF rF)
end dH
namespace bY
@[reducible] def fn:Func:=Tryz.f5
def a8:List eR:=focus [0,2,0,0,2,1,2,0,0,2,0,0] [.code (aP fn)]
def inv1(t:aA)(UL:Nat):St:=⟨[(29,(.pv (dp (db ag.cells) t.roots))),(30,(eI (t.roots.length:Int))),(31,(eI (UL:Int)))],[]⟩
@[reducible] def ai(t:aA)(UL:Nat)(r:PV):Prop:=L bp fn a8 (inv1 t UL) r
theorem e0(t:aA)(x:Rs)(h1:2<t.roots.length)(h2:t.roots.length≤5):Cp 5 [t.pv,ae x] (vB false) :=
 eD func5 [] [.q,.aR [.o,.o,(iL t.roots),.o,.o,.o,.o,(iL t.roots),.o,(.dec true),.o,.skip,.skip,.skip,.skip,(.dec true),.o,.skip,.skip,.skip],.a,.q] (NJ (ak lR t.roots) (aj h1) (aj h1) (aj h1) (ak lR t.roots) (aj h1) (aj h1) (cH h2) (cH h2) (cH h2) (cH h2) (cH h2) rT rT rT)
theorem e1(t:aA)(x:Rs)(h1:2<t.roots.length)(h2:5<t.roots.length)(h3:8<t.roots.length):Cp 5 [t.pv,ae x] (vB false) :=
 eD func5 [] [.q,.aR [.o,.o,(iL t.roots),.o,.o,.o,.o,(iL t.roots),.o,(.dec true),.o,.o,.o,(iL t.roots),.o,(.dec false),.o,.skip,.skip,.skip,(.dec true)],.a,.q] (QN (ak lR t.roots) (aj h1) (aj h1) (aj h1) (ak lR t.roots) (aj h1) (aj h1) (bh h2) (bh h2) (bh h2) (ak lR t.roots) (bh h2) (bh h2) (aj h3) (aj h3) (aj h3) (aj h3))
theorem e2(t:aA)(x:Rs)(a:Bool)(h1:2<t.roots.length)(h2:5<t.roots.length)(h3:t.roots.length≤8)(h4:Cp 25 [ae x] (vB a))(h5:a=false):Cp 5 [t.pv,ae x] (vB false) :=
 eD func5 [] [.q,.aR [.o,.o,(iL t.roots),.o,.o,.o,.o,(iL t.roots),.o,(.dec true),.o,.o,.o,(iL t.roots),.o,(.dec false),.o,.o,(.pv (vB a)),.o,(.dec false)],.t,.q] (YM (ak lR t.roots) (aj h1) (aj h1) (aj h1) (ak lR t.roots) (aj h1) (aj h1) (bh h2) (bh h2) (bh h2) (ak lR t.roots) (bh h2) (bh h2) (aq h3) (aq h3) h4 (aq h3) (aq h3) (cA h5))
theorem e3(t:aA)(x:Rs)(a:Bool){r:PV}(h1:2<t.roots.length)(h2:5<t.roots.length)(h3:t.roots.length≤8)(h4:Cp 25 [ae x] (vB a))(h5:a=true)(hL:ai t 0 r):Cp 5 [t.pv,ae x] r :=
 eG func5 [] [.q,.aR [.o,.o,(iL t.roots),.o,.o,.o,.o,(iL t.roots),.o,(.dec true),.o,.o,.o,(iL t.roots),.o,(.dec false),.o,.o,(.pv (vB a)),.o,(.dec false)],.f,.h 2 (iL t.roots),.aH [29,30,31],.drop [2]] (S5 (ak lR t.roots) (aj h1) (aj h1) (aj h1) (ak lR t.roots) (aj h1) (aj h1) (bh h2) (bh h2) (bh h2) (ak lR t.roots) (bh h2) (bh h2) (aq h3) (aq h3) h4 (aq h3) (aq h3) (aM h5) (ak lR t.roots)) hL
theorem e5(t:aA)(x:Rs)(a:Bool)(h1:t.roots.length≤2)(h2:t.roots.length≤8)(h3:Cp 25 [ae x] (vB a))(h4:a=false):Cp 5 [t.pv,ae x] (vB false) :=
 eD func5 [] [.q,.aR [.o,.o,(iL t.roots),.o,.o,.skip,.skip,.skip,.skip,(.dec false),.o,.o,.o,(iL t.roots),.o,.o,.o,.o,(.pv (vB a)),.o,(.dec false)],.t,.q] (QN (ak lR t.roots) (aq h1) (aq h1) (aq h1) (aq h1) (aq h1) rF rF rF (ak lR t.roots) rF (aq h2) (aq h2) h3 (aq h2) (aq h2) (cA h4))
theorem e6(t:aA)(x:Rs)(a:Bool){r:PV}(h1:t.roots.length≤2)(h2:t.roots.length≤8)(h3:Cp 25 [ae x] (vB a))(h4:a=true)(hL:ai t 0 r):Cp 5 [t.pv,ae x] r :=
 eG func5 [] [.q,.aR [.o,.o,(iL t.roots),.o,.o,.skip,.skip,.skip,.skip,(.dec false),.o,.o,.o,(iL t.roots),.o,.o,.o,.o,(.pv (vB a)),.o,(.dec false)],.f,.h 2 (iL t.roots),.aH [29,30,31],.drop [2]] (Uu (ak lR t.roots) (aq h1) (aq h1) (aq h1) (aq h1) (aq h1) rF rF rF (ak lR t.roots) rF (aq h2) (aq h2) h3 (aq h2) (aq h2) (aM h4) (ak lR t.roots)) hL
theorem l10(t:aA)(b:Nat)(v:Rs)(c:Bool)(h1:b<t.roots.length)(h2:t.roots[b]? = some v)(h3:Cp 25 [ae v] (vB c))(h4:c=false):ai t b (vB false) :=
 lD [1,3] [.a,.q,.t,.h 0 (.row b (lR v)),.h 1 (.pv (vB c)),.t,.q] (y4 (aj h1) (bm lR (rN b) h2) h3 (cA h4))
theorem c9(t:aA)(b:Nat)(v:Rs)(c:Bool){r:PV}(h1:b<t.roots.length)(h2:t.roots[b]? = some v)(h3:Cp 25 [ae v] (vB c))(h4:c=true)(h5:(b+1)<9223372036854775808)(hL:ai t (b+1) r):ai t b r :=
 lG [1,3] [.a,.q,.t,.h 0 (.row b (lR v)),.h 1 (.pv (vB c)),.f,.h 0 (iI (((b+1):Nat):Int)),.aH [29,30,31]] (y5 (aj h1) (bm lR (rN b) h2) h3 (aM h4) (aL h5)) hL
theorem kA(t:aA)(b:Nat)(h1:t.roots.length≤b):ai t b (vB true) :=
 lD [] [.a,.q,.f,.q] (y1 (aq h1))
end bY
end Go.Proofs.YtcpnocgollpbhaaGreatDoor.Sym.Path
end
