/- Lemmas for the statements of this seat. -/
import Derived.Test.YtcpnocgollpbhaaGreatDoorT0
noncomputable section
namespace Go.Proofs.YtcpnocgollpbhaaGreatDoor.Sym.Path
open Go Tryz
set_option maxRecDepth 20000
set_option linter.unusedVariables false
namespace bL
@[reducible] def fn:Func:=Tryz.f49
def aY:List dJ:=focus [0,2,0,0,2,0,0] [.code (aL fn)]
def inv1(n:Int)(t_5:Nat):St:=⟨[(0,(eI n)),(5,(eI (t_5:Int)))],[]⟩
@[reducible] def ah(n:Int)(t_5:Nat)(r:PV):Prop:=L bu fn aY (inv1 n t_5) r
theorem e0 (n : Int) {r : PV}  (hL : ah n 0 r) : Cp 49 [vI n] r :=
 eG func49 [] [.q,.q,.aG [0,5]] True.intro hL
theorem l10(n:Int)(b:Nat)(h1:b<6)(h2:b≤64)(h3:(1*2^b)<9223372036854775808)(h4:n=(((1*2^b):Nat):Int)):ah n b (.aF [(vI (b:Int)),vB true]) :=
 lD [] [.a,.q,.t,.q,.h 2 (iI (((1*2^b):Nat):Int)),.t,.q] (y3 (ai h1) (bS (k := .i64) h2 h3) (aU h4))
theorem cB(n:Int)(b:Nat){r:PV}(h1:b<6)(h2:b≤64)(h3:(1*2^b)<9223372036854775808)(h4:n≠(((1*2^b):Nat):Int))(h5:(b+1)<9223372036854775808)(hL:ah n (b+1) r):ah n b r :=
 lG [] [.a,.q,.t,.q,.h 2 (iI (((1*2^b):Nat):Int)),.f,.h 0 (iI (((b+1):Nat):Int)),.aG [0,5]] (y4 (ai h1) (bS (k := .i64) h2 h3) (bf h4) (aJ h5)) hL
theorem jT(n:Int)(b:Nat)(h1:6≤b):ah n b (.aF [vI 0,vB false]) :=
 lD [] [.a,.q,.f,.q] (y1 (ar h1))
end bL
namespace cD
@[reducible] def fn:Func:=Tryz.f15
def aY:List dJ:=focus [0,2,0,2,0,0,2,1,2,0,0,2,0,0] [.code (aL fn)]
def inv1(a:List ag)(Vl:Nat):St:=⟨[(27,(.pv (ae a))),(28,(eI (a.length:Int))),(29,(eI (Vl:Int)))],[]⟩
@[reducible] def ah(a:List ag)(Vl:Nat)(r:PV):Prop:=L bu fn aY (inv1 a Vl) r
theorem e0(b:Int)(a:Rs)(c:Int)(d:Bool)(h1:Cp 49 [(vI (a.length:Int))] (.aF [vI c,vB d]))(h2:a.length≠0)(h3:d=false):Cp 15 [vI b,ae a] (vI 10) :=
 eD func15 [] [.q,.aR [.o,(iL a),(.pv (.aF [vI c,vB d]))],.aR [.o,(iL a),.o,.o,.o,.o,.o,.skip,.skip,.skip,(.dec true),(.dec true)],.a,.q] (IF (an ag.cells a) h1 (an ag.cells a) (dj h2) (dj h2) (dj h2) (dm h3) (dm h3) (dm h3) (dj h2) (dm h3) (dj h2))
theorem e1(b:Int)(a:Rs)(c:Int)(d:Bool)(h1:Cp 49 [(vI (a.length:Int))] (.aF [vI c,vB d]))(h2:a.length≠0)(h3:d=true)(h4:b<c):Cp 15 [vI b,ae a] (vI 10) :=
 eD func15 [] [.q,.aR [.o,(iL a),(.pv (.aF [vI c,vB d]))],.aR [.o,(iL a),.o,.o,.o,.o,.o,.o,.o,.o,(.dec false),(.dec true)],.t,.q] (IG (an ag.cells a) h1 (an ag.cells a) (dj h2) (dj h2) (dj h2) (bw h3) (bw h3) (bw h3) (dj h2) (bw h3) (dj h2) (bA h4))
theorem e2(b:Int)(a:Rs)(c:Int)(d:Bool){r:PV}(h1:Cp 49 [(vI (a.length:Int))] (.aF [vI c,vB d]))(h2:a.length≠0)(h3:d=true)(h4:c≤b)(hL:ah a 0 r):Cp 15 [vI b,ae a] r :=
 eG func15 [] [.q,.aR [.o,(iL a),(.pv (.aF [vI c,vB d]))],.aR [.o,(iL a),.o,.o,.o,.o,.o,.o,.o,.o,(.dec false),(.dec true)],.f,.h 1 (iL a),.aG [27,28,29]] (Nv (an ag.cells a) h1 (an ag.cells a) (dj h2) (dj h2) (dj h2) (bw h3) (bw h3) (bw h3) (dj h2) (bw h3) (dj h2) (bm h4) (an ag.cells a)) hL
theorem e3(b:Int)(a:Rs)(c:Int)(d:Bool){r:PV}(h1:Cp 49 [(vI (a.length:Int))] (.aF [vI c,vB d]))(h2:a.length=0)(hL:ah a 0 r):Cp 15 [vI b,ae a] r :=
 eG func15 [] [.q,.aR [.o,(iL a),(.pv (.aF [vI c,vB d]))],.aR [.o,(iL a),.o,.o,.skip,.skip,.skip,.skip,.skip,.skip,.skip,(.dec false)],.a,.h 1 (iL a),.aG [27,28,29]] (y9 (an ag.cells a) h1 (an ag.cells a) (dk h2) (dk h2) (dk h2) (dk h2) (dk h2) (an ag.cells a)) hL
theorem l10(a:Rs)(b:Nat)(v:ag)(c:Bool)(h1:b<a.length)(h2:a[b]? = some v)(h3:Cp 50 [v.pv] (vB c))(h4:c=false):ah a b (vI 2) :=
 lD [1,3] [.a,.q,.t,.h 0 (.row b (ag.cells v)),.h 1 (.pv (vB c)),.t,.q] (y4 (ai h1) (ba ag.cells (rN b) h2) h3 (dm h4))
theorem cB(a:Rs)(b:Nat)(v:ag)(c:Bool){r:PV}(h1:b<a.length)(h2:a[b]? = some v)(h3:Cp 50 [v.pv] (vB c))(h4:c=true)(h5:(b+1)<9223372036854775808)(hL:ah a (b+1) r):ah a b r :=
 lG [1,3] [.a,.q,.t,.h 0 (.row b (ag.cells v)),.h 1 (.pv (vB c)),.f,.h 0 (iI (((b+1):Nat):Int)),.aG [27,28,29],.drop [8]] (y5 (ai h1) (ba ag.cells (rN b) h2) h3 (bw h4) (aJ h5)) hL
theorem jT(a:Rs)(b:Nat)(h1:a.length≤b):ah a b (vI 0) :=
 lD [] [.a,.q,.f,.q] (y1 (ar h1))
end cD
namespace b7
@[reducible] def fn:Func:=Tryz.f14
def aY:List dJ:=focus [0,2,0,0,2,1,2,0,0,2,0,0] [.code (aL fn)]
def inv1(t:aA)(Du:Nat):St:=⟨[(1,(.ptr 1 0)),(11,(.pv (bB (bp ag.cells) t.roots))),(12,(eI (t.roots.length:Int))),(13,(eI (Du:Int)))],[(1,(.lit [(.pv (bB (bp ag.cells) t.roots))]))]⟩
@[reducible] def ah(t:aA)(Du:Nat)(r:PV):Prop:=L bu fn aY (inv1 t Du) r
theorem e0(t:aA)(h1:5<t.roots.length):Cp 14 [t.pv] (vI 4) :=
 eD func14 [] [.q,.h 2 (iL t.roots),.t,.q] (y2 (an lR t.roots) (ai h1))
theorem e1(t:aA){r:PV}(h1:t.roots.length≤5)(hL:ah t 0 r):Cp 14 [t.pv] r :=
 eG func14 [] [.q,.h 2 (iL t.roots),.f,.h 2 (iL t.roots),.aG [1,11,12,13]] (y3 (an lR t.roots) (ar h1) (an lR t.roots)) hL
theorem l10(t:aA)(b:Nat)(v:Rs)(h1:b<t.roots.length)(h2:t.roots[b]? = some v)(h3:b≤64)(h4:(1*2^b)<9223372036854775808)(h5:v.length≠(1*2^b)):ah t b (vI 10) :=
 lD [1,3] [.a,.q,.t,.h 1 (.row b (lR v)),.aR [.o,(iL v),.o,(iI (((1*2^b):Nat):Int))],.t,.q] (y5 (ai h1) (ba lR (rN b) h2) (an ag.cells v) (bS (k := .i64) h3 h4) (dj h5))
theorem cB(t:aA)(b:Nat)(v:Rs)(c:Int)(h1:b<t.roots.length)(h2:t.roots[b]? = some v)(h3:b≤64)(h4:(1*2^b)<9223372036854775808)(h5:v.length=(1*2^b))(h6:Cp 15 [(vI (b:Int)),ae v] (vI c))(h7:c≠0):ah t b (vI c) :=
 lD [1,3] [.a,.q,.t,.h 1 (.row b (lR v)),.aR [.o,(iL v),.o,(iI (((1*2^b):Nat):Int))],.f,.h 2 (.pv (vI c)),.q,.t,.q] (y7 (ai h1) (ba lR (rN b) h2) (an ag.cells v) (bS (k := .i64) h3 h4) (dk h5) h6 (kg h7))
theorem jT(t:aA)(b:Nat)(v:Rs)(c d:Int)(h1:b<t.roots.length)(h2:t.roots[b]? = some v)(h3:b≤64)(h4:(1*2^b)<9223372036854775808)(h5:v.length=(1*2^b))(h6:Cp 15 [(vI (b:Int)),ae v] (vI c))(h7:c=0)(h8:Cp 48 [t.pv,ae v] (vI d))(h9:d<0):ah t b (vI 3) :=
 lD [1,3] [.a,.q,.t,.h 1 (.row b (lR v)),.aR [.o,(iL v),.o,(iI (((1*2^b):Nat):Int))],.f,.h 2 (.pv (vI c)),.q,.f,.h 2 (.pv (vI d)),.t,.q] (y9 (ai h1) (ba lR (rN b) h2) (an ag.cells v) (bS (k := .i64) h3 h4) (dk h5) h6 (gr h7) h8 (bA h9))
theorem tN(t:aA)(b:Nat)(v:Rs)(c d:Int){r:PV}(h1:b<t.roots.length)(h2:t.roots[b]? = some v)(h3:b≤64)(h4:(1*2^b)<9223372036854775808)(h5:v.length=(1*2^b))(h6:Cp 15 [(vI (b:Int)),ae v] (vI c))(h7:c=0)(h8:Cp 48 [t.pv,ae v] (vI d))(h9:0≤d)(bQ:(b+1)<9223372036854775808)(hL:ah t (b+1) r):ah t b r :=
 lG [1,3] [.a,.q,.t,.h 1 (.row b (lR v)),.aR [.o,(iL v),.o,(iI (((1*2^b):Nat):Int))],.f,.h 2 (.pv (vI c)),.q,.f,.h 2 (.pv (vI d)),.f,.h 0 (iI (((b+1):Nat):Int)),.aG [1,11,12,13]] (JT (ai h1) (ba lR (rN b) h2) (an ag.cells v) (bS (k := .i64) h3 h4) (dk h5) h6 (gr h7) h8 (bm h9) (aJ bQ)) hL
theorem Bz(t:aA)(b:Nat)(h1:t.roots.length≤b):ah t b (vI 0) :=
 lD [] [.a,.q,.f,.q] (y1 (ar h1))
end b7
namespace bT
@[reducible] def fn:Func:=Tryz.f83
def aY:List dJ:=focus [0,2,0,0,2,0,2,1,2,0,0,2,0,0] [.code (aL fn)]
def inv1(l:List (List ag))(KL:Nat)(t:aA):St:=⟨[(2,(.ptr 2 0)),(14,(.pv (bB (bp ag.cells) l))),(15,(eI (l.length:Int))),(16,(eI (KL:Int)))],[(2,(.lit [(.pv (bB (bp ag.cells) t.roots))]))]⟩
@[reducible] def ah(l:List (List ag))(KL:Nat)(t:aA)(r:PV):Prop:=L bu fn aY (inv1 l KL t) r
theorem e0(t:aA)(l:List (Rs))(a:Int)(h1:Cp 14 [t.pv] (vI a))(h2:a≠0):Cp 83 [t.pv,(bB lR l)] (vI a) :=
 eD func83 [] [.q,.h 1 (.pv (vI a)),.q,.t,.q] (y2 h1 (kg h2))
theorem e1(t:aA)(l:List (Rs))(a:Int){r:PV}(h1:Cp 14 [t.pv] (vI a))(h2:a=0)(hL:ah l 0 t r):Cp 83 [t.pv,(bB lR l)] r :=
 eG func83 [] [.q,.h 1 (.pv (vI a)),.q,.f,.h 1 (iL l),.aG [2,14,15,16]] (y3 h1 (gr h2) (an lR l)) hL
theorem l10(l:List (Rs))(b:Nat)(t:aA)(v:Rs)(c:Int)(h1:b<l.length)(h2:l[b]? = some v)(h3:Cp 15 [(vI (t.roots.length:Int)),ae v] (vI c))(h4:c≠0):ah l b t (vI c) :=
 lD [1,3] [.a,.q,.t,.h 0 (.row b (lR v)),.aR [.o,.o,(iL t.roots),.o,(.pv (vI c))],.q,.t,.q] (y5 (ai h1) (ba lR (rN b) h2) (an lR t.roots) h3 (kg h4))
theorem cB(l:List (Rs))(b:Nat)(t:aA)(v:Rs)(c:Int){r:PV}(h1:b<l.length)(h2:l[b]? = some v)(h3:Cp 15 [(vI (t.roots.length:Int)),ae v] (vI c))(h4:c=0)(h5:(b+1)<9223372036854775808)(hL:ah l (b+1) t r):ah l b t r :=
 lG [1,3] [.a,.q,.t,.h 0 (.row b (lR v)),.aR [.o,.o,(iL t.roots),.o,(.pv (vI c))],.q,.f,.h 0 (iI (((b+1):Nat):Int)),.aG [2,14,15,16]] (y6 (ai h1) (ba lR (rN b) h2) (an lR t.roots) h3 (gr h4) (aJ h5)) hL
theorem jT(l:List (Rs))(b:Nat)(t:aA)(h1:l.length≤b):ah l b t (vI 0) :=
 lD [] [.a,.q,.f,.q] (y1 (ar h1))
end bT
namespace dh
@[reducible] def fn:Func:=Tryz.f16
def aY:List dJ:=focus [0,2,0,2,0,0,2,1,2,0,2,0,0,0] [.code (aL fn)]
def inv1(a:List ag)(PB:Nat):St:=⟨[(0,(.pv (ae a))),(5,(eI (PB:Int)))],[]⟩
@[reducible] def ah(a:List ag)(PB:Nat)(r:PV):Prop:=L bu fn aY (inv1 a PB) r
theorem e0(a:Rs)(b:Int)(c:Bool)(h1:Cp 49 [(vI (a.length:Int))] (.aF [vI b,vB c]))(h2:c=false)(h3:(([]:Rs)++a:Rs).length*56≤140737488355328):Cp 16 [ae a] (ae a) :=
 eD func16 [1,1,1,6,3] [.q,.aR [.o,(iL a),(.pv (.aF [vI b,vB c]))],.q,.t,.h 2 (.app (a:Rs).length ((a:Rs).map ag.cells).flatten),.dH 2 ((a:Rs).map ag.cells)] (y5 (an ag.cells a) h1 (dm h2) (iw aD ([]:Rs) (a:Rs) 56 (Eq.refl ([]:Rs).length) h3 rfl) (bU aD (a:Rs) (Eq.refl (a:Rs).length)))
theorem e1(a:Rs)(b:Int)(c:Bool){r:PV}(h1:Cp 49 [(vI (a.length:Int))] (.aF [vI b,vB c]))(h2:c=true)(hL:ah a a.length r):Cp 16 [ae a] r :=
 eG func16 [] [.q,.aR [.o,(iL a),(.pv (.aF [vI b,vB c]))],.q,.f,.h 1 (iL a),.aG [0,5]] (y4 (an ag.cells a) h1 (bw h2) (an ag.cells a)) hL
theorem l10(a:Rs)(b:Nat)(c:Bool){r:PV}(h1:1<b)(h2:b<9223372036854775808)(h3:b≤a.length)(h4:(b/2)≤b)(h5:Cp 51 [(ae ((a.take b).drop (b/2)))] (vB c))(h6:c=true)(hL:ah a (b/2) r):ah a b r :=
 lG [1,1,1,1,1,1,6] [.a,.aR [.o,.o,.o,.o,.o,(iI (((b/2):Nat):Int)),.o,(.fj (b/2) b ((((a.take b).drop (b/2)):Rs).map ag.cells)),(.pv (vB c)),(.dec true)],.t,.h 1 (iI (((b/2):Nat):Int)),.aG [0,5]] (IF (ai h1) (ai h1) (ai h1) (cC (y:=2) (by decide) h2) (ai h1) (ai h1) (R8 aD (a:Rs) (rN (b/2)) (rN b) h4 h3) (ai h1) h5 (ai h1) h6 (cC (y:=2) (by decide) h2)) hL
theorem tN(a:Rs)(b:Nat)(c:Bool)(h1:1<b)(h2:b<9223372036854775808)(h3:b≤a.length)(h4:(b/2)≤b)(h5:Cp 51 [(ae ((a.take b).drop (b/2)))] (vB c))(h6:c=false)(h7:b≠1)(h8:(([]:Rs)++(a.take b):Rs).length*56≤140737488355328):ah a b (ae (a.take b)) :=
 lD [1,1,1,1,1,1,6,1,1,1,1,1,1,1,1,6,6,3] [.a,.aR [.o,.o,.o,.o,.o,(iI (((b/2):Nat):Int)),.o,(.fj (b/2) b ((((a.take b).drop (b/2)):Rs).map ag.cells)),(.pv (vB c)),(.dec true)],.f,.aR [.o,.o,.o,.skip,.skip,.skip,(.dec false)],.a,.aR [.o,.o,.o,(.fj 0 b (((a.take b):Rs).map ag.cells)),(.app ((a.take b):Rs).length (((a.take b):Rs).map ag.cells).flatten)],.dH 2 (((a.take b):Rs).map ag.cells)] (U3 (ai h1) (ai h1) (ai h1) (cC (y:=2) (by decide) h2) (ai h1) (ai h1) (R8 aD (a:Rs) (rN (b/2)) (rN b) h4 h3) (ai h1) h5 (ai h1) h6 (aB h7) (aB h7) (aB h7) (aB h7) (fY aD (a:Rs) (rN b) h3) (iw aD ([]:Rs) ((a.take b):Rs) 56 (Eq.refl ([]:Rs).length) h8 rfl) (bU aD ((a.take b):Rs) (Eq.refl ((a.take b):Rs).length)))
theorem Bz(a:Rs)(b:Nat)(c:Bool)(h1:b≤1)(h2:b=1)(h3:1≤a.length)(h4:Cp 51 [(ae (a.take 1))] (vB c))(h5:c=true):ah a b (ae []) :=
 lD [1,1,1,1,1,1,1,1,1,6] [.a,.aR [.o,.o,.o,.skip,.skip,.skip,.skip,.skip,.skip,(.dec false)],.a,.aR [.o,.o,.o,.o,(.fj 0 1 (((a.take 1):Rs).map ag.cells)),(.pv (vB c)),(.dec true)],.t,.q] (Nv (ar h1) (ar h1) (ar h1) (ar h1) (ar h1) (ar h1) (ar h1) (aM h2) (aM h2) (fY aD (a:Rs) (Eq.refl (1:Int)) h3) (aM h2) h4 (aM h2) h5)
theorem Vj(a:Rs)(b:Nat)(c:Bool)(h1:b≤1)(h2:b=1)(h3:1≤a.length)(h4:Cp 51 [(ae (a.take 1))] (vB c))(h5:c=false)(h6:b≤a.length)(h7:(([]:Rs)++(a.take b):Rs).length*56≤140737488355328):ah a b (ae (a.take b)) :=
 lD [1,1,1,1,1,1,1,1,1,6,1,1,1,1,6,6,3] [.a,.aR [.o,.o,.o,.skip,.skip,.skip,.skip,.skip,.skip,(.dec false)],.a,.aR [.o,.o,.o,.o,(.fj 0 1 (((a.take 1):Rs).map ag.cells)),(.pv (vB c)),(.dec true)],.f,.aR [.o,.o,.o,(.fj 0 b (((a.take b):Rs).map ag.cells)),(.app ((a.take b):Rs).length (((a.take b):Rs).map ag.cells).flatten)],.dH 2 (((a.take b):Rs).map ag.cells)] (Ny (ar h1) (ar h1) (ar h1) (ar h1) (ar h1) (ar h1) (ar h1) (aM h2) (aM h2) (fY aD (a:Rs) (Eq.refl (1:Int)) h3) (aM h2) h4 (aM h2) h5 (fY aD (a:Rs) (rN b) h6) (iw aD ([]:Rs) ((a.take b):Rs) 56 (Eq.refl ([]:Rs).length) h7 rfl) (bU aD ((a.take b):Rs) (Eq.refl ((a.take b):Rs).length)))
end dh
namespace di
@[reducible] def fn:Func:=Tryz.f51
def aY:List dJ:=focus [0,2,0,0,2,0,0] [.code (aL fn)]
def inv1(a:List ag)(PC:Nat):St:=⟨[(5,(.pv (ae a))),(6,(eI (a.length:Int))),(7,(eI (PC:Int)))],[]⟩
@[reducible] def ah(a:List ag)(PC:Nat)(r:PV):Prop:=L bu fn aY (inv1 a PC) r
theorem e0 (a : Rs) {r : PV}  (hL : ah a 0 r) : Cp 51 [ae a] r :=
 eG func51 [] [.q,.h 1 (iL a),.aG [5,6,7]] (y1 (an ag.cells a)) hL
theorem l10(a:Rs)(b:Nat)(v:ag)(h1:b<a.length)(h2:a[b]? = some v)(h3:v.neg=true):ah a b (vB false) :=
 lD [1,3] [.a,.q,.t,.h 0 (.row b (ag.cells v)),.aR [.o,.o,.o,.skip,.skip,.skip,.skip,(.dec true),.o,.skip,.skip,.skip,.skip],.a,.q] (EK (ai h1) (ba ag.cells (rN b) h2) h3 h3 h3 h3 h3 rT rT rT rT)
theorem cB(a:Rs)(b:Nat)(v:ag)(h1:b<a.length)(h2:a[b]? = some v)(h3:v.neg=false)(h4:v.num.length≠0):ah a b (vB false) :=
 lD [1,3] [.a,.q,.t,.h 0 (.row b (ag.cells v)),.aR [.o,.o,.o,.o,.o,(iL v.num),.o,(.dec false),.o,.skip,.skip,.skip,.skip,(.dec true)],.a,.q] (IG (ai h1) (ba ag.cells (rN b) h2) h3 h3 h3 (an aj v.num) h3 h3 (dj h4) (dj h4) (dj h4) (dj h4) (dj h4))
theorem jT(a:Rs)(b:Nat)(v:ag)(h1:b<a.length)(h2:a[b]? = some v)(h3:v.neg=false)(h4:v.num.length=0)(h5:v.den.length≠0):ah a b (vB false) :=
 lD [1,3] [.a,.q,.t,.h 0 (.row b (ag.cells v)),.aR [.o,.o,.o,.o,.o,(iL v.num),.o,(.dec false),.o,.o,.o,(iL v.den),.o,(.dec false)],.t,.q] (Nx (ai h1) (ba ag.cells (rN b) h2) h3 h3 h3 (an aj v.num) h3 h3 (dk h4) (dk h4) (dk h4) (an aj v.den) (dk h4) (dk h4) (dj h5))
theorem tN(a:Rs)(b:Nat)(v:ag){r:PV}(h1:b<a.length)(h2:a[b]? = some v)(h3:v.neg=false)(h4:v.num.length=0)(h5:v.den.length=0)(h6:(b+1)<9223372036854775808)(hL:ah a (b+1) r):ah a b r :=
 lG [1,3] [.a,.q,.t,.h 0 (.row b (ag.cells v)),.aR [.o,.o,.o,.o,.o,(iL v.num),.o,(.dec false),.o,.o,.o,(iL v.den),.o,(.dec false)],.f,.h 0 (iI (((b+1):Nat):Int)),.aG [5,6,7],.drop [4]] (HM (ai h1) (ba ag.cells (rN b) h2) h3 h3 h3 (an aj v.num) h3 h3 (dk h4) (dk h4) (dk h4) (an aj v.den) (dk h4) (dk h4) (dk h5) (aJ h6)) hL
theorem Bz(a:Rs)(b:Nat)(h1:a.length≤b):ah a b (vB true) :=
 lD [] [.a,.q,.f,.q] (y1 (ar h1))
end di
namespace gF
@[reducible] def fn:Func:=Tryz.f158
def aY:List dJ:=focus [0,2,0,2,0,0,0] [.code (aL fn)]
def inv1(n:Int)(tm:List ag):St:=⟨[(1,(eI n)),(5,(.row 8 0 tm.length 3))],[(8,(.pure ((tm:List ag).map ag.cells).flatten))]⟩
@[reducible] def ah(n:Int)(tm:List ag)(r:PV):Prop:=L bu fn aY (inv1 n tm) r
theorem e0(a:Rs)(n:Int){r:PV}(h1:(([]:Rs)++a:Rs).length*56≤140737488355328)(hL:ah n a r):Cp 158 [ae a,vI n] r :=
 eG func158 [6] [.q,.h 2 (.app (a:Rs).length ((a:Rs).map ag.cells).flatten),.aG [1,5]] (y1 (iw aD ([]:Rs) (a:Rs) 56 (Eq.refl ([]:Rs).length) h1 rfl)) hL
theorem l10(n:Int)(b:Rs){r:PV}(h1:(b.length:Int)<n)(h2:((b++[(⟨false,[],[]⟩:ag)]):Rs).length*56≤140737488355328)(hL:ah n (b++[(⟨false,[],[]⟩:ag)]) r):ah n b r :=
 lG [1,6] [.a,.q,.t,.h 3 (.app ((b++[(⟨false,[],[]⟩:ag)]):Rs).length (((b++[(⟨false,[],[]⟩:ag)]):Rs).map ag.cells).flatten),.aG [1,5],.drop [15],.pn 16 8] (y2 (bA h1) (fv aD (b:Rs) ([(⟨false,[],[]⟩:ag)]:Rs) 56 (Eq.refl (b:Rs).length) (Eq.refl ([(⟨false,[],[]⟩:ag)]:Rs).length) h2 rfl)) hL
theorem cB(n:Int)(b:Rs)(h1:n≤(b.length:Int)):ah n b (ae b) :=
 lD [1,3] [.a,.q,.f,.q,.dH 4 ((b:Rs).map ag.cells)] (y2 (bm h1) (bU aD (b:Rs) (Eq.refl (b:Rs).length)))
end gF
namespace gg
@[reducible] def fn:Func:=Tryz.f158
def aY:List dJ:=focus [0,2,0,2,0,0,0] [.code (aL fn)]
def inv1(n:Int)(tm:List ag):St:=⟨[(1,(eI n)),(5,(.row 8 0 tm.length 3))],[(8,(.pure ((tm:List ag).map ag.cells).flatten))]⟩
@[reducible] def ah(n:Int)(tm:List ag)(sin:aT)(r:EV)(sout:aT):Prop:=LX bu fn aY (inv1 n tm) sin r sout
theorem e0(a:Rs)(n:Int){r:EV}{sout:aT}(h1:(([]:Rs)++a:Rs).length*56≤140737488355328)(hL:ah n a [] r sout):au bu 158 [(.pv (ae a)),eI n] [] r sout :=
 Nu func158 [6] [.q,.h 2 (.app (a:Rs).length ((a:Rs).map ag.cells).flatten),.aG [1,5]] (y1 (iw aD ([]:Rs) (a:Rs) 56 (Eq.refl ([]:Rs).length) h1 rfl)) hL
theorem l10(n:Int)(b:Rs){r:EV}{sout:aT}{sin:aT}(hs:jR fn sin)(h1:(b.length:Int)<n)(h2:((b++[(⟨false,[],[]⟩:ag)]):Rs).length*56≤140737488355328)(hL:ah n (b++[(⟨false,[],[]⟩:ag)]) sin r sout):ah n b sin r sout :=
 IE [1,6] [.a,.q,.t,.h 3 (.app ((b++[(⟨false,[],[]⟩:ag)]):Rs).length (((b++[(⟨false,[],[]⟩:ag)]):Rs).map ag.cells).flatten),.aG [1,5],.drop [15],.pn 16 8] hs (y2 (bA h1) (fv aD (b:Rs) ([(⟨false,[],[]⟩:ag)]:Rs) 56 (Eq.refl (b:Rs).length) (Eq.refl ([(⟨false,[],[]⟩:ag)]:Rs).length) h2 rfl)) hL
theorem cB(n:Int)(b:Rs){sin:aT}(hs:jR fn sin)(hi:sin.all (fun p=>wo p.1||(aT.get [(0,(pC ag.cells b))] p.1).isSome)=true)(h1:n≤(b.length:Int)):ah n b sin (.row 0 0 b.length 3) [(0,(pC ag.cells b))] :=
 Fj [] [.a,.q,.f,.q,.pn 8 0,.ord [0]] hs hi (y1 (bm h1))
end gg
namespace gG
@[reducible] def fn:Func:=Tryz.f92
def aY:List dJ:=focus [0,2,0,2,0,2,0,0,2,0,0] [.code (aL fn)]
def inv1(n:Nat)(wid:List ag)(KM:Nat)(jn:List ag):St:=⟨[(0,(.row 14 0 n 3)),(1,(.pv (ae wid))),(19,(eI (n:Int))),(20,(eI (KM:Int)))],[(14,(.pure ((jn:List ag).map ag.cells).flatten))]⟩
@[reducible] def ah(n:Nat)(wid:List ag)(KM:Nat)(jn:List ag)(r:PV):Prop:=L bu fn aY (inv1 n wid KM jn) r
theorem e0(a b z:Rs)(n:Nat)(c:Rs){r:PV}(h1:au bu 158 [.pv (ae a),.pv (vI (((max a.length b.length):Nat):Int))] [] (.row 0 0 n 3) [(0,(pC ag.cells z))])(h2:Cp 158 [ae b,(vI (((max a.length b.length):Nat):Int))] (ae c))(hL:ah n c 0 z r):Cp 92 [ae a,ae b] r :=
 eG func92 [] [.q,.aR [.o,(iL a),.o,(iL b),(iI (((max a.length b.length):Nat):Int))],.aR [.o,.o,(.bJ [] (some (0,14)) (.row 0 0 n 3) [(0,(pC ag.cells z))]),.o,.o,(.pv (ae c))],.q,.aG [0,1,19,20]] (y5 (an ag.cells a) (an ag.cells b) (oK a.length b.length) h1 h2) hL
theorem l10(n:Nat)(b:Rs)(c:Nat)(d:Rs)(v v1 g:ag){r:PV}(h1:c<n)(h2:d[c]? = some v)(h3:b[c]? = some v1)(h4:Cp 86 [v.pv,v1.pv] g.pv)(h5:c<d.length)(h6:(c+1)<9223372036854775808)(hL:ah n b (c+1) (d.set c g) r):ah n b c d r :=
 lG [1,2,2,3,1,2,2] [.a,.q,.t,.q,dr 12 1 [.none,.none,.none,.none,(.nat c),(.JZ [vB v.neg,af v.num,af v.den]),.none,.none,(.row c (ag.cells v1)),.none,(.pv g.pv),(.nat c),(.cells (.pure (((d.set c g):Rs).map ag.cells).flatten))],.h 0 (iI (((c+1):Nat):Int)),.aG [0,1,19,20]] (y8 (ai h1) (cj (rN c) h1) (tL aD h2) (ba ag.cells (rN c) h3) h4 (cj (rN c) h1) (gu aD (d:Rs) g h5) (aJ h6)) hL
theorem cB(n:Nat)(b:Rs)(c:Nat)(d:Rs)(h1:n≤c)(h2:n=d.length):ah n b c d (ae d) :=
 lD [1,3] [.a,.q,.f,.q,.dH 4 ((d:Rs).map ag.cells)] (y2 (ar h1) (bU aD (d:Rs) h2))
end gG
namespace gH
@[reducible] def fn:Func:=Tryz.f84
def aY:List dJ:=focus [0,2,0,2,0,0,2,0,0] [.code (aL fn)]
def inv1(gY a:List ag)(tW:Nat):St:=⟨[(3,(.row 16 0 gY.length 3)),(6,(.pv (ae a))),(7,(eI (a.length:Int))),(8,(eI (tW:Int)))],[(16,(.pure ((gY:List ag).map ag.cells).flatten))]⟩
@[reducible] def ah(gY a:List ag)(tW:Nat)(r:PV):Prop:=L bu fn aY (inv1 gY a tW) r
theorem e0 (a : Rs) {r : PV}  (hL : ah [] a 0 r) : Cp 84 [ae a] r :=
 eG func84 [] [.q,.h 0 .nil,.iK 3 16 3,.h 1 (iL a),.aG [3,6,7,8]] (y1 (an ag.cells a)) hL
theorem l10(b a:Rs)(c:Nat)(v d:ag){r:PV}(h1:c<a.length)(h2:a[c]? = some v)(h3:Cp 149 [v.pv] d.pv)(h4:((b++[d]):Rs).length*56≤140737488355328)(h5:(c+1)<9223372036854775808)(hL:ah (b++[d]) a (c+1) r):ah b a c r :=
 lG [1,3,1,6] [.a,.q,.t,.h 0 (.row c (ag.cells v)),.aR [.o,.o,(.pv d.pv),.o,(.app ((b++[d]):Rs).length (((b++[d]):Rs).map ag.cells).flatten)],.h 0 (iI (((c+1):Nat):Int)),.aG [3,6,7,8],.drop [15,5]] (y5 (ai h1) (ba ag.cells (rN c) h2) h3 (fv aD (b:Rs) ([d]:Rs) 56 (Eq.refl (b:Rs).length) (Eq.refl ([d]:Rs).length) h4 rfl) (aJ h5)) hL
theorem cB(b a:Rs)(c:Nat)(h1:a.length≤c):ah b a c (ae b) :=
 lD [1,3] [.a,.q,.f,.q,.dH 2 ((b:Rs).map ag.cells)] (y2 (ar h1) (bU aD (b:Rs) (Eq.refl (b:Rs).length)))
end gH
namespace gh
theorem e0(t:aA)(a b c d:Rs)(h1:Cp 16 [ae a] (ae c))(h2:Cp 16 [ae b] (ae d))(h3:c.length=0):Cp 91 [t.pv,ae a,ae b] (ae []) :=
 eD func91 [] [.q,.aR [.o,(.pv (ae c)),.o,(.pv (ae d))],.aR [.o,(iL c),.o,(iL d),(iI (((max c.length d.length):Nat):Int))],.aR [.o,(iL c),.o,.o,.skip,.skip,.skip,(.dec true)],.a,.q] (JT h1 h2 (an ag.cells c) (an ag.cells d) (oK c.length d.length) (an ag.cells c) (aM h3) (aM h3) (aM h3) (aM h3))
theorem e1(t:aA)(a b c d:Rs)(h1:Cp 16 [ae a] (ae c))(h2:Cp 16 [ae b] (ae d))(h3:c.length≠0)(h4:d.length=0):Cp 91 [t.pv,ae a,ae b] (ae []) :=
 eD func91 [] [.q,.aR [.o,(.pv (ae c)),.o,(.pv (ae d))],.aR [.o,(iL c),.o,(iL d),(iI (((max c.length d.length):Nat):Int))],.aR [.o,(iL c),.o,.o,.o,(iL d),.o,(.dec false)],.t,.q] (IF h1 h2 (an ag.cells c) (an ag.cells d) (oK c.length d.length) (an ag.cells c) (aB h3) (aB h3) (an ag.cells d) (aB h3) (aB h3) (aM h4))
theorem e2(t:aA)(a b c d:Rs)(v v1 g:ag)(h1:Cp 16 [ae a] (ae c))(h2:Cp 16 [ae b] (ae d))(h3:c.length≠0)(h4:d.length≠0)(h5:(max c.length d.length)=1)(h6:c[0]? = some v)(h7:d[0]? = some v1)(h8:Cp 157 [v.pv,v1.pv] g.pv):Cp 91 [t.pv,ae a,ae b] (ae [g]) :=
 eD func91 [1,1,1,1,1,1,1,1,1,1,1,1,1,3,3,1,3] [.q,.aR [.o,(.pv (ae c)),.o,(.pv (ae d))],.aR [.o,(iL c),.o,(iL d),(iI (((max c.length d.length):Nat):Int))],.aR [.o,(iL c),.o,.o,.o,(iL d),.o,(.dec false)],.f,.q,.t,dr 8 1 [.none,(.row 0 (ag.cells v)),.none,.none,(.row 0 (ag.cells v1)),.none,(.pv g.pv)],.dH 6 (([g]:Rs).map ag.cells)] (Ny h1 h2 (an ag.cells c) (an ag.cells d) (oK c.length d.length) (an ag.cells c) (aB h3) (aB h3) (an ag.cells d) (aB h3) (aB h3) (aB h4) (aM h5) (ba ag.cells (Eq.refl (0:Int)) h6) (ba ag.cells (Eq.refl (0:Int)) h7) h8 (bU aD ([g]:Rs) (Eq.refl ([g]:Rs).length)))
theorem e3(t:aA)(a b c d g i:Rs)(j:Int)(l:Bool)(m p:Rs)(k:Nat)(v s u w x aa z:Rs)(n:Nat)(ab:Rs)(h1:Cp 16 [ae a] (ae c))(h2:Cp 16 [ae b] (ae d))(h3:c.length≠0)(h4:d.length≠0)(h5:(max c.length d.length)≠1)(h6:Cp 158 [ae c,(vI (((max c.length d.length):Nat):Int))] (ae g))(h7:Cp 158 [ae d,(vI (((max c.length d.length):Nat):Int))] (ae i))(h8:Cp 49 [(vI (((max c.length d.length):Nat):Int))] (.aF [vI j,vB l]))(h9:(max c.length d.length)<9223372036854775808)(bQ:((max c.length d.length)/2)≤g.length)(dU:((max c.length d.length)/2)≤(g:Rs).length)(fP:((max c.length d.length)/2)≤i.length)(k7:((max c.length d.length)/2)≤(i:Rs).length)(oS:Cp 91 [t.pv,(ae (g.take ((max c.length d.length)/2))),(ae (i.take ((max c.length d.length)/2)))] (ae m))(nz:Cp 91 [t.pv,(ae (g.drop ((max c.length d.length)/2))),(ae (i.drop ((max c.length d.length)/2)))] (ae p))(wU:ay (j-1))(zv:(j-1)=(k:Int))(HN:t.roots[k]? = some v)(EL:Cp 91 [t.pv,ae p,ae v] (ae s))(Nz:Cp 92 [ae m,ae s] (ae u))(Vk:Cp 91 [t.pv,(ae (g.take ((max c.length d.length)/2))),(ae (i.drop ((max c.length d.length)/2)))] (ae w))(XC:Cp 91 [t.pv,(ae (g.drop ((max c.length d.length)/2))),(ae (i.take ((max c.length d.length)/2)))] (ae x))(h23:Cp 92 [ae w,ae x] (ae aa))(h24:au bu 158 [.pv (ae u),.pv (vI ((((max c.length d.length)/2):Nat):Int))] [] (.row 0 0 n 3) [(0,(pC ag.cells z))])(h25:Cp 158 [ae aa,(vI ((((max c.length d.length)/2):Nat):Int))] (ae ab))(h26:z.length=n)(h27:((z++ab):Rs).length*56≤140737488355328):Cp 91 [t.pv,ae a,ae b] (ae (z++ab)) :=
 eD func91 [1,1,1,1,1,1,1,1,1,1,1,1,1,1,1,1,1,6,1,6,1,6,1,6,1,1,1,3,1,1,1,1,1,1,1,1,1,6,3] [.q,.aR [.o,(.pv (ae c)),.o,(.pv (ae d))],.aR [.o,(iL c),.o,(iL d),(iI (((max c.length d.length):Nat):Int))],.aR [.o,(iL c),.o,.o,.o,(iL d),.o,(.dec false)],.f,.q,.f,.aR [.o,.o,(.pv (ae g)),.o,.o,(.pv (ae i))],.h 1 (.pv (.aF [vI j,vB l])),dr 19 1 [.none,.none,(iI ((((max c.length d.length)/2):Nat):Int)),(.fj 0 ((max c.length d.length)/2) (((g.take ((max c.length d.length)/2)):Rs).map ag.cells)),.none,.none,(iI ((((max c.length d.length)/2):Nat):Int)),(.fj ((max c.length d.length)/2) ((g:Rs).length) (((g.drop ((max c.length d.length)/2)):Rs).map ag.cells)),.none,.none,(iI ((((max c.length d.length)/2):Nat):Int)),(.fj 0 ((max c.length d.length)/2) (((i.take ((max c.length d.length)/2)):Rs).map ag.cells)),.none,.none,(iI ((((max c.length d.length)/2):Nat):Int)),(.fj ((max c.length d.length)/2) ((i:Rs).length) (((i.drop ((max c.length d.length)/2)):Rs).map ag.cells))],dr 17 1 [.none,.none,.none,(.pv (ae m)),.none,.none,.none,.none,(.pv (ae p)),.none,.none,.none,(iI (j-1)),(.row k (lR v)),.none,(.pv (ae s)),(.pv (ae u))],dr 9 1 [.none,.none,.none,(.pv (ae w)),.none,.none,.none,(.pv (ae x)),(.pv (ae aa))],.aR [.o,.o,(iI ((((max c.length d.length)/2):Nat):Int)),(.bJ [] (some (0,99)) (.row 0 0 n 3) [(0,(pC ag.cells z))]),.o,.o,(iI ((((max c.length d.length)/2):Nat):Int)),(.pv (ae ab)),(.app ((z++ab):Rs).length (((z++ab):Rs).map ag.cells).flatten)],.dH 6 (((z++ab):Rs).map ag.cells)] (y39 h1 h2 (an ag.cells c) (an ag.cells d) (oK c.length d.length) (an ag.cells c) (aB h3) (aB h3) (an ag.cells d) (aB h3) (aB h3) (aB h4) (aB h5) h6 h7 h8 (cC (y:=2) (by decide) h9) (fY aD (g:Rs) (Eq.refl (((((max c.length d.length)/2):Nat):Int):Int)) bQ) (cC (y:=2) (by decide) h9) (mD aD (g:Rs) (Eq.refl (((((max c.length d.length)/2):Nat):Int):Int)) dU) (cC (y:=2) (by decide) h9) (fY aD (i:Rs) (Eq.refl (((((max c.length d.length)/2):Nat):Int):Int)) fP) (cC (y:=2) (by decide) h9) (mD aD (i:Rs) (Eq.refl (((((max c.length d.length)/2):Nat):Int):Int)) k7) oS nz (aQ wU) (ba lR zv HN) EL Nz Vk XC h23 (cC (y:=2) (by decide) h9) h24 (cC (y:=2) (by decide) h9) h25 (iw aD (z:Rs) (ab:Rs) 56 h26 h27 rfl) (bU aD ((z++ab):Rs) (Eq.refl ((z++ab):Rs).length)))
end gh
namespace ej
theorem e0(t:aA)(a b:Rs)(h1:Cp 16 [ae a] (ae b))(h2:b.length=0):Cp 48 [t.pv,ae a] (vI 0) :=
 eD func48 [] [.q,.h 1 (.pv (ae b)),.h 1 (iL b),.t,.q] (y3 h1 (an ag.cells b) (aM h2))
theorem e1(t:aA)(a b:Rs)(v:ag)(c:Int)(h1:Cp 16 [ae a] (ae b))(h2:b.length≠0)(h3:b.length=1)(h4:b[0]? = some v)(h5:Cp 85 [v.pv] (vI c)):Cp 48 [t.pv,ae a] (vI c) :=
 eD func48 [1,1,1,1,1,3] [.q,.h 1 (.pv (ae b)),.h 1 (iL b),.f,.h 1 (iL b),.q,.t,.aR [.o,(.row 0 (ag.cells v)),.o,(.pv (vI c))]] (y7 h1 (an ag.cells b) (aB h2) (an ag.cells b) (aM h3) (ba ag.cells (Eq.refl (0:Int)) h4) h5)
theorem e2(t:aA)(a b:Rs)(c:Int)(d:Bool)(k:Nat)(v:Rs)(g i j:Int)(h1:Cp 16 [ae a] (ae b))(h2:b.length≠0)(h3:b.length≠1)(h4:Cp 49 [(vI (b.length:Int))] (.aF [vI c,vB d]))(h5:ay (c-1))(h6:(c-1)=(k:Int))(h7:t.roots[k]? = some v)(h8:b.length<9223372036854775808)(h9:(b.length/2)≤b.length)(bQ:Cp 48 [t.pv,(ae (b.take (b.length/2)))] (vI g))(dU:(b.length/2)≤(b:Rs).length)(fP:Cp 48 [t.pv,(ae (b.drop (b.length/2)))] (vI i))(k7:Cp 48 [t.pv,ae v] (vI j))(oS:ay (i*j))(nz:g=(i*j)):Cp 48 [t.pv,ae a] (vI g) :=
 eD func48 [1,1,1,1,1,1,1,3,1,6,1,1,6] [.q,.h 1 (.pv (ae b)),.h 1 (iL b),.f,.h 1 (iL b),.q,.f,.h 1 (.pv (.aF [vI c,vB d])),.aR [.o,.o,.o,(iI (c-1)),(.row k (lR v))],dr 17 1 [.none,.none,.none,(iI (((b.length/2):Nat):Int)),(.fj 0 (b.length/2) (((b.take (b.length/2)):Rs).map ag.cells)),(.pv (vI g)),.none,.none,.none,(iI (((b.length/2):Nat):Int)),(.fj (b.length/2) ((b:Rs).length) (((b.drop (b.length/2)):Rs).map ag.cells)),(.pv (vI i)),.none,.none,(.pv (vI j)),(iI (i*j))],.aR [.o,.o,.o,.o,.skip,.skip,(.dec true)],.a,.q] (YT h1 (an ag.cells b) (aB h2) (an ag.cells b) (aB h3) h4 (aQ h5) (ba lR h6 h7) (cC (y:=2) (by decide) h8) (fY aD (b:Rs) (rN (b.length/2)) h9) bQ (cC (y:=2) (by decide) h8) (mD aD (b:Rs) (rN (b.length/2)) dU) fP k7 (pL oS) (aU nz) (aU nz) (aU nz))
theorem e3(t:aA)(a b:Rs)(c:Int)(d:Bool)(k:Nat)(v:Rs)(g i j:Int)(h1:Cp 16 [ae a] (ae b))(h2:b.length≠0)(h3:b.length≠1)(h4:Cp 49 [(vI (b.length:Int))] (.aF [vI c,vB d]))(h5:ay (c-1))(h6:(c-1)=(k:Int))(h7:t.roots[k]? = some v)(h8:b.length<9223372036854775808)(h9:(b.length/2)≤b.length)(bQ:Cp 48 [t.pv,(ae (b.take (b.length/2)))] (vI g))(dU:(b.length/2)≤(b:Rs).length)(fP:Cp 48 [t.pv,(ae (b.drop (b.length/2)))] (vI i))(k7:Cp 48 [t.pv,ae v] (vI j))(oS:ay (i*j))(nz:g≠(i*j))(wU:(i*j)=0):Cp 48 [t.pv,ae a] (vI g) :=
 eD func48 [1,1,1,1,1,1,1,3,1,6,1,1,6] [.q,.h 1 (.pv (ae b)),.h 1 (iL b),.f,.h 1 (iL b),.q,.f,.h 1 (.pv (.aF [vI c,vB d])),.aR [.o,.o,.o,(iI (c-1)),(.row k (lR v))],dr 17 1 [.none,.none,.none,(iI (((b.length/2):Nat):Int)),(.fj 0 (b.length/2) (((b.take (b.length/2)):Rs).map ag.cells)),(.pv (vI g)),.none,.none,.none,(iI (((b.length/2):Nat):Int)),(.fj (b.length/2) ((b:Rs).length) (((b.drop (b.length/2)):Rs).map ag.cells)),(.pv (vI i)),.none,.none,(.pv (vI j)),(iI (i*j))],.h 6 (.dec false),.t,.q] (Pu h1 (an ag.cells b) (aB h2) (an ag.cells b) (aB h3) h4 (aQ h5) (ba lR h6 h7) (cC (y:=2) (by decide) h8) (fY aD (b:Rs) (rN (b.length/2)) h9) bQ (cC (y:=2) (by decide) h8) (mD aD (b:Rs) (rN (b.length/2)) dU) fP k7 (pL oS) (bf nz) (bf nz) (bf nz) (aU wU))
theorem e4(t:aA)(a b:Rs)(c:Int)(d:Bool)(k:Nat)(v:Rs)(g i j:Int)(h1:Cp 16 [ae a] (ae b))(h2:b.length≠0)(h3:b.length≠1)(h4:Cp 49 [(vI (b.length:Int))] (.aF [vI c,vB d]))(h5:ay (c-1))(h6:(c-1)=(k:Int))(h7:t.roots[k]? = some v)(h8:b.length<9223372036854775808)(h9:(b.length/2)≤b.length)(bQ:Cp 48 [t.pv,(ae (b.take (b.length/2)))] (vI g))(dU:(b.length/2)≤(b:Rs).length)(fP:Cp 48 [t.pv,(ae (b.drop (b.length/2)))] (vI i))(k7:Cp 48 [t.pv,ae v] (vI j))(oS:ay (i*j))(nz:g≠(i*j))(wU:(i*j)≠0)(zv:g=0):Cp 48 [t.pv,ae a] (vI (i*j)) :=
 eD func48 [1,1,1,1,1,1,1,3,1,6,1,1,6] [.q,.h 1 (.pv (ae b)),.h 1 (iL b),.f,.h 1 (iL b),.q,.f,.h 1 (.pv (.aF [vI c,vB d])),.aR [.o,.o,.o,(iI (c-1)),(.row k (lR v))],dr 17 1 [.none,.none,.none,(iI (((b.length/2):Nat):Int)),(.fj 0 (b.length/2) (((b.take (b.length/2)):Rs).map ag.cells)),(.pv (vI g)),.none,.none,.none,(iI (((b.length/2):Nat):Int)),(.fj (b.length/2) ((b:Rs).length) (((b.drop (b.length/2)):Rs).map ag.cells)),(.pv (vI i)),.none,.none,(.pv (vI j)),(iI (i*j))],.h 6 (.dec false),.f,.q,.t,.q] (U4 h1 (an ag.cells b) (aB h2) (an ag.cells b) (aB h3) h4 (aQ h5) (ba lR h6 h7) (cC (y:=2) (by decide) h8) (fY aD (b:Rs) (rN (b.length/2)) h9) bQ (cC (y:=2) (by decide) h8) (mD aD (b:Rs) (rN (b.length/2)) dU) fP k7 (pL oS) (bf nz) (bf nz) (bf nz) (bf wU) (aU zv))
theorem e5(t:aA)(a b:Rs)(c:Int)(d:Bool)(k:Nat)(v:Rs)(g i j:Int)(l:Rs)(m:Int)(h1:Cp 16 [ae a] (ae b))(h2:b.length≠0)(h3:b.length≠1)(h4:Cp 49 [(vI (b.length:Int))] (.aF [vI c,vB d]))(h5:ay (c-1))(h6:(c-1)=(k:Int))(h7:t.roots[k]? = some v)(h8:b.length<9223372036854775808)(h9:(b.length/2)≤b.length)(bQ:Cp 48 [t.pv,(ae (b.take (b.length/2)))] (vI g))(dU:(b.length/2)≤(b:Rs).length)(fP:Cp 48 [t.pv,(ae (b.drop (b.length/2)))] (vI i))(k7:Cp 48 [t.pv,ae v] (vI j))(oS:ay (i*j))(nz:g≠(i*j))(wU:(i*j)≠0)(zv:g≠0)(HN:Cp 98 [t.pv,ae b,(vI (b.length:Int))] (ae l))(EL:Cp 48 [t.pv,ae l] (vI m))(Nz:ay (g*m)):Cp 48 [t.pv,ae a] (vI (g*m)) :=
 eD func48 [1,1,1,1,1,1,1,3,1,6,1,1,6] [.q,.h 1 (.pv (ae b)),.h 1 (iL b),.f,.h 1 (iL b),.q,.f,.h 1 (.pv (.aF [vI c,vB d])),.aR [.o,.o,.o,(iI (c-1)),(.row k (lR v))],dr 17 1 [.none,.none,.none,(iI (((b.length/2):Nat):Int)),(.fj 0 (b.length/2) (((b.take (b.length/2)):Rs).map ag.cells)),(.pv (vI g)),.none,.none,.none,(iI (((b.length/2):Nat):Int)),(.fj (b.length/2) ((b:Rs).length) (((b.drop (b.length/2)):Rs).map ag.cells)),(.pv (vI i)),.none,.none,(.pv (vI j)),(iI (i*j))],.h 6 (.dec false),.f,.q,.f,dr 8 1 [.none,.none,.none,.none,.none,(.pv (ae l)),(.pv (vI m)),(iI (g*m))]] (Xx h1 (an ag.cells b) (aB h2) (an ag.cells b) (aB h3) h4 (aQ h5) (ba lR h6 h7) (cC (y:=2) (by decide) h8) (fY aD (b:Rs) (rN (b.length/2)) h9) bQ (cC (y:=2) (by decide) h8) (mD aD (b:Rs) (rN (b.length/2)) dU) fP k7 (pL oS) (bf nz) (bf nz) (bf nz) (bf wU) (bf zv) HN EL (pL Nz))
end ej
namespace qo
theorem e0(t:aA)(a:Rs)(n:Int)(b:Rs)(c:Int)(d:Bool)(k k1:Nat)(g i:Rs)(k2:Nat)(v j l m:Rs)(h1:Cp 158 [ae a,vI n] (ae b))(h2:Cp 49 [vI n] (.aF [vI c,vB d]))(h3:n=(k:Int))(h4:k<9223372036854775808)(h5:(k/2)≤b.length)(h6:n=(k1:Int))(h7:k1<9223372036854775808)(h8:(k1/2)≤(b:Rs).length)(h9:Cp 91 [t.pv,(ae (b.take (k/2))),(ae (b.take (k/2)))] (ae g))(bQ:Cp 91 [t.pv,(ae (b.drop (k1/2))),(ae (b.drop (k1/2)))] (ae i))(dU:ay (c-1))(fP:(c-1)=(k2:Int))(k7:t.roots[k2]? = some v)(oS:Cp 91 [t.pv,ae i,ae v] (ae j))(nz:Cp 84 [ae j] (ae l))(wU:Cp 92 [ae g,ae l] (ae m)):Cp 98 [t.pv,ae a,vI n] (ae m) :=
 eD func98 [1,1,1,6,1,6,1,1,1,3] [.q,.h 2 (.pv (ae b)),.h 1 (.pv (.aF [vI c,vB d])),dr 9 1 [.none,.none,(iI (((k/2):Nat):Int)),(.fj 0 (k/2) (((b.take (k/2)):Rs).map ag.cells)),.none,.none,(iI (((k1/2):Nat):Int)),(.fj (k1/2) ((b:Rs).length) (((b.drop (k1/2)):Rs).map ag.cells))],dr 18 1 [.none,.none,.none,(.pv (ae g)),.none,.none,.none,.none,(.pv (ae i)),.none,.none,.none,(iI (c-1)),(.row k2 (lR v)),.none,(.pv (ae j)),(.pv (ae l)),(.pv (ae m))]] (IG h1 h2 (Nr h3 (cC (y:=2) (by decide) h4)) (fY aD (b:Rs) (rN (k/2)) h5) (Nr h6 (cC (y:=2) (by decide) h7)) (mD aD (b:Rs) (rN (k1/2)) h8) h9 bQ (aQ dU) (ba lR fP k7) oS nz wU)
end qo
namespace nO
theorem e0(x:ag)(a:Int)(h1:Cp 85 [x.pv] (vI a))(h2:a=0):Cp 35 [x.pv] (ae []) :=
 eD func35 [] [.q,.h 1 (.pv (vI a)),.t,.q] (y2 h1 (aU h2))
theorem e1(x:ag)(a:Int)(b:ag)(h1:Cp 85 [x.pv] (vI a))(h2:a≠0)(h3:Cp 86 [x.pv,(⟨false,[],[]⟩:ag).pv] b.pv):Cp 35 [x.pv] (ae [b]) :=
 eD func35 [1,1,1,3] [.q,.h 1 (.pv (vI a)),.f,.h 2 (.pv b.pv),.dH 2 (([b]:Rs).map ag.cells)] (y4 h1 (bf h2) h3 (bU aD ([b]:Rs) (Eq.refl ([b]:Rs).length)))
end nO
namespace mS
theorem e1(t:aA)(a:Rs)(b:Int)(c:Rs)(h1:Cp 83 [t.pv,(bB lR [a])] (vI b))(h2:b=0)(h3:Cp 16 [ae a] (ae c))(h4:c.length=0):Cp 41 [t.pv,ae a] (.aF [(⟨false,[],[]⟩:ag).pv,vB true]) :=
 eD func41 [3] [.q,.aR [.o,.o,(.fj 0 0 (([a]:List (Rs)).map lR)),(.pv (vI b))],.f,.h 1 (.pv (ae c)),.h 1 (iL c),.q,.t,.q] (y6 (kV (iM ag.cells) ([a]:List (Rs))) h1 (gr h2) h3 (an ag.cells c) (aM h4))
theorem e2(t:aA)(a:Rs)(b:Int)(c:Rs)(v:ag)(h1:Cp 83 [t.pv,(bB lR [a])] (vI b))(h2:b=0)(h3:Cp 16 [ae a] (ae c))(h4:c.length≠0)(h5:c.length=1)(h6:c[0]? = some v):Cp 41 [t.pv,ae a] (.aF [v.pv,vB true]) :=
 eD func41 [3,1,1,1,1,1,1,3] [.q,.aR [.o,.o,(.fj 0 0 (([a]:List (Rs)).map lR)),(.pv (vI b))],.f,.h 1 (.pv (ae c)),.h 1 (iL c),.q,.f,.q,.t,.h 1 (.row 0 (ag.cells v))] (y8 (kV (iM ag.cells) ([a]:List (Rs))) h1 (gr h2) h3 (an ag.cells c) (aB h4) (aM h5) (ba ag.cells (Eq.refl (0:Int)) h6))
end mS
namespace mT
theorem e0(t:aA)(a:Rs)(b:Int)(h1:Cp 83 [t.pv,(bB lR [a])] (vI b))(h2:b≠0):Cp 34 [t.pv,ae a] (.aF [(ae []),vI b]) :=
 eD func34 [3] [.q,.aR [.o,.o,(.fj 0 0 (([a]:List (Rs)).map lR)),(.pv (vI b))],.q,.t,.q] (y3 (kV (iM ag.cells) ([a]:List (Rs))) h1 (kg h2))
theorem e1(t:aA)(a:Rs)(b:Int)(c d:Rs)(h1:Cp 83 [t.pv,(bB lR [a])] (vI b))(h2:b=0)(h3:Cp 84 [ae a] (ae c))(h4:Cp 16 [ae c] (ae d)):Cp 34 [t.pv,ae a] (.aF [ae d,vI 0]) :=
 eD func34 [3] [.q,.aR [.o,.o,(.fj 0 0 (([a]:List (Rs)).map lR)),(.pv (vI b))],.q,.f,.aR [.o,(.pv (ae c)),(.pv (ae d))]] (y5 (kV (iM ag.cells) ([a]:List (Rs))) h1 (gr h2) h3 h4)
end mT
namespace rl
theorem e1(t:aA)(a b:Rs)(c:Int)(d g:Rs)(h1:Cp 83 [t.pv,(bB lR [a,b])] (vI c))(h2:c=0)(h3:Cp 92 [ae a,ae b] (ae d))(h4:Cp 16 [ae d] (ae g)):Cp 90 [t.pv,ae a,ae b] (.aF [ae g,vI 0]) :=
 eD func90 [3] [.q,.aR [.o,.o,.o,(.fj 0 0 (([a,b]:List (Rs)).map lR)),(.pv (vI c))],.q,.f,.aR [.o,.o,(.pv (ae d)),(.pv (ae g))]] (y5 (kV (iM ag.cells) ([a,b]:List (Rs))) h1 (gr h2) h3 h4)
end rl
namespace rm
theorem e1(t:aA)(a b:Rs)(c:Int)(d g i:Rs)(h1:Cp 83 [t.pv,(bB lR [a,b])] (vI c))(h2:c=0)(h3:Cp 84 [ae b] (ae d))(h4:Cp 92 [ae a,ae d] (ae g))(h5:Cp 16 [ae g] (ae i)):Cp 40 [t.pv,ae a,ae b] (.aF [ae i,vI 0]) :=
 eD func40 [3] [.q,.aR [.o,.o,.o,(.fj 0 0 (([a,b]:List (Rs)).map lR)),(.pv (vI c))],.q,.f,.aR [.o,.o,(.pv (ae d)),(.pv (ae g)),(.pv (ae i))]] (y6 (kV (iM ag.cells) ([a,b]:List (Rs))) h1 (gr h2) h3 h4 h5)
end rm
namespace rn
theorem e1(t:aA)(a b:Rs)(c:Int)(d g:Rs)(h1:Cp 83 [t.pv,(bB lR [a,b])] (vI c))(h2:c=0)(h3:Cp 91 [t.pv,ae a,ae b] (ae d))(h4:Cp 16 [ae d] (ae g)):Cp 39 [t.pv,ae a,ae b] (.aF [ae g,vI 0]) :=
 eD func39 [3] [.q,.aR [.o,.o,.o,(.fj 0 0 (([a,b]:List (Rs)).map lR)),(.pv (vI c))],.q,.f,.aR [.o,.o,.o,(.pv (ae d)),(.pv (ae g))]] (y5 (kV (iM ag.cells) ([a,b]:List (Rs))) h1 (gr h2) h3 h4)
end rn
namespace rp
theorem e1(t:aA)(a b:Rs)(c:Int)(d g:Rs)(i:Int)(h1:Cp 83 [t.pv,(bB lR [a,b])] (vI c))(h2:c=0)(h3:Cp 84 [ae b] (ae d))(h4:Cp 92 [ae a,ae d] (ae g))(h5:Cp 48 [t.pv,ae g] (vI i)):Cp 44 [t.pv,ae a,ae b] (.aF [vI i,vI 0]) :=
 eD func44 [3] [.q,.aR [.o,.o,.o,(.fj 0 0 (([a,b]:List (Rs)).map lR)),(.pv (vI c))],.q,.f,dr 6 2 [.none,.none,.none,(.pv (ae d)),(.pv (ae g)),(.pv (vI i))]] (y6 (kV (iM ag.cells) ([a,b]:List (Rs))) h1 (gr h2) h3 h4 h5)
end rp
namespace iQ
@[reducible] def fn:Func:=Tryz.f27
def aY:List dJ:=focus [0,2,0,2,0,0,2,0,0] [.code (aL fn)]
def inv1(gY:List ag)(l:List Int)(tW:Nat):St:=⟨[(3,(.row 16 0 gY.length 3)),(6,(.pv (bB gX l))),(7,(eI (l.length:Int))),(8,(eI (tW:Int)))],[(16,(.pure ((gY:List ag).map ag.cells).flatten))]⟩
@[reducible] def ah(gY:List ag)(l:List Int)(tW:Nat)(r:PV):Prop:=L bu fn aY (inv1 gY l tW) r
theorem e0 (l : List Int) {r : PV}  (hL : ah [] l 0 r) : Cp 27 [bB gX l] r :=
 eG func27 [] [.q,.h 0 .nil,.iK 3 16 3,.h 1 (iL l),.aG [3,6,7,8]] (y1 (an gX l)) hL
theorem l10(b:Rs)(l:List Int)(c:Nat)(v:Int)(of:ag){r:PV}(h1:c<l.length)(h2:l[c]? = some v)(h3:Cp 36 [vI v] of.pv)(h4:((b++[of]):Rs).length*56≤140737488355328)(h5:(c+1)<9223372036854775808)(hL:ah (b++[of]) l (c+1) r):ah b l c r :=
 lG [1,3,1,6] [.a,.q,.t,.h 0 (.row c (gX v)),.aR [.o,.o,(.pv of.pv),.o,(.app ((b++[of]):Rs).length (((b++[of]):Rs).map ag.cells).flatten)],.h 0 (iI (((c+1):Nat):Int)),.aG [3,6,7,8],.drop [15]] (y5 (ai h1) (ba gX (rN c) h2) h3 (fv aD (b:Rs) ([of]:Rs) 56 (Eq.refl (b:Rs).length) (Eq.refl ([of]:Rs).length) h4 rfl) (aJ h5)) hL
theorem cB(b:Rs)(l:List Int)(c:Nat)(h1:l.length≤c):ah b l c (ae b) :=
 lD [1,3] [.a,.q,.f,.q,.dH 2 ((b:Rs).map ag.cells)] (y2 (ar h1) (bU aD (b:Rs) (Eq.refl (b:Rs).length)))
end iQ
namespace oW
theorem e2(of:Rs)(a:List aW)(b:Rs)(c:List aW)(d g i:Rs)(v v1:aW)(j:Int)(k:ak)(l:ag)(m n:ByteArray)(p:Rs)(s:Bool)(h1:Cp 27 [(bB gX [(-2),0,1])] (ae of))(h2:Cp 26 [ae of] (.aF [bB aW.cells a,.aC]))(h3:Cp 27 [(bB gX [(-3),0,1])] (ae b))(h4:Cp 26 [ae b] (.aF [bB aW.cells c,.aC]))(h5:Cp 27 [(bB gX [2])] (ae d))(h6:Cp 27 [(bB gX [1,1])] (ae g))(h7:Cp 7 [(⟨[d]⟩:aA).pv,ae g] (.aF [ae i,.aC]))(h8:a.length=2)(h9:c.length=2)(bQ:a[1]? = some v)(dU:c[1]? = some v1)(fP:Cp 23 [v.pv,v1.pv] (.aF [vI j,.aC]))(k7:Cp 28 [v.pv,vI 1] (.aF [k.pv,.aC]))(oS:Cp 29 [v.pv,v1.pv] (.aF [l.pv,.aC]))(nz:j=(-1))(wU:Cp 30 [k.pv] (.str m))(zv:m=(ByteArray.mk #[49,46,46,51,47,50]))(HN:Cp 31 [l.pv] (.str n))(EL:n=(ByteArray.mk #[51,47,50]))(Nz:Cp 27 [(bB gX [(-1),(-2),1])] (ae p))(Vk:Cp 12 [ae i,ae p] (vB s)):Cp 6 [] (vB s) :=
 eD func6 [3,1,1,3,1,1,3,1,3,3,1,1,1,1,1,1,1,1,1,1,1,1,1,1,1,1,3,3,1,3,1,3,3,1,1,1,1,1,1,1,1,1,1,1,1,1,1,1,1,1,1,1,3] [.q,.aR [(.fj 0 0 (([(-2),0,1]:List Int).map gX)),(.pv (ae of)),(.pv (.aF [bB aW.cells a,.aC]))],.aR [(.fj 0 0 (([(-3),0,1]:List Int).map gX)),(.pv (ae b)),(.pv (.aF [bB aW.cells c,.aC]))],.aR [(.fj 0 0 (([2]:List Int).map gX)),(.pv (ae d)),(.fj 0 0 (([d]:List (Rs)).map lR)),.o,(.fj 0 0 (([1,1]:List Int).map gX)),(.pv (ae g)),(.pv (.aF [ae i,.aC]))],.aR [.o,.o,.o,.o,.o,.o,.o,.o,.o,.o,.o,.o,(iL a),.o,.o,.o,.o,(iL c),.o,(.dec false)],.f,dr 11 1 [.none,(.row 1 (aW.cells v)),.none,.none,(.row 1 (aW.cells v1)),.none,(.pv (.aF [vI j,.aC]))],.aR [.o,(.row 1 (aW.cells v)),.o,(.pv (.aF [k.pv,.aC]))],dr 12 1 [.none,(.row 1 (aW.cells v)),.none,.none,(.row 1 (aW.cells v1)),.none,(.pv (.aF [l.pv,.aC]))],.aR [.o,.o,.o,.o,.o,.o,.o,.o,.o,.o,.o,.o,.o,.o,.o,.o,(.pv (.str m)),.o,(.dec true),.o,.o,(.pv (.str n)),.o,(.dec true),.o,.o,(.fj 0 0 (([(-1),(-2),1]:List Int).map gX)),(.pv (ae p)),(.pv (vB s)),(.dec true)]] (cj (kV Dg ([(-2),0,1]:List Int)) (cj h1 (cj h2 (cj (kV Dg ([(-3),0,1]:List Int)) (cj h3 (cj h4 (cj (kV Dg ([2]:List Int)) (cj h5 (cj (kV (iM ag.cells) ([d]:List (Rs))) (cj (kV Dg ([1,1]:List Int)) (cj h6 (cj h7 (cj rF (cj rF (cj rF (cj rF (cj rF (cj rF (y40 (an aW.cells a) rF (dk h8) (dk h8) (an aW.cells c) (dk h8) (dk h8) (dk h9) (ba aW.cells (Eq.refl (1:Int)) bQ) (ba aW.cells (Eq.refl (1:Int)) dU) fP (ba aW.cells (Eq.refl (1:Int)) bQ) k7 (ba aW.cells (Eq.refl (1:Int)) bQ) (ba aW.cells (Eq.refl (1:Int)) dU) oS rT rT rT rT rT rT (aU nz) (aU nz) wU (aU nz) (aU nz) (sX zv) (sX zv) HN (sX zv) (sX zv) (sX EL) (sX EL) (kV Dg ([(-1),(-2),1]:List Int)) (sX EL) Nz (sX EL) Vk (sX EL))))))))))))))))))))
end oW
namespace dN
@[reducible] def fn:Func:=Tryz.f25
def aY:List dJ:=focus [0,2,0,0,2,1,2,0,0,2,0,0] [.code (aL fn)]
def inv1(l:List ag)(Dy:Nat):St:=⟨[(8,(.pv (ae l))),(9,(eI (l.length:Int))),(10,(eI (Dy:Int)))],[]⟩
@[reducible] def ah(l:List ag)(Dy:Nat)(r:PV):Prop:=L bu fn aY (inv1 l Dy) r
theorem e0(l:Rs)(h1:6<l.length):Cp 25 [ae l] (vB false) :=
 eD func25 [] [.q,.h 1 (iL l),.t,.q] (y2 (an ag.cells l) (ai h1))
theorem e1(l:Rs){r:PV}(h1:l.length≤6)(hL:ah l 0 r):Cp 25 [ae l] r :=
 eG func25 [] [.q,.h 1 (iL l),.f,.h 1 (iL l),.aG [8,9,10]] (y3 (an ag.cells l) (ar h1) (an ag.cells l)) hL
theorem l10(l:Rs)(b:Nat)(v:ag)(c:Bool)(h1:b<l.length)(h2:l[b]? = some v)(h3:Cp 67 [v.pv,(vW (1000:UInt32)),(vW (1000:UInt32))] (vB c))(h4:c=false):ah l b (vB false) :=
 lD [1,3] [.a,.q,.t,.h 0 (.row b (ag.cells v)),.h 1 (.pv (vB c)),.t,.q] (y4 (ai h1) (ba ag.cells (rN b) h2) h3 (dm h4))
theorem cB(l:Rs)(b:Nat)(v:ag)(c:Bool){r:PV}(h1:b<l.length)(h2:l[b]? = some v)(h3:Cp 67 [v.pv,(vW (1000:UInt32)),(vW (1000:UInt32))] (vB c))(h4:c=true)(h5:(b+1)<9223372036854775808)(hL:ah l (b+1) r):ah l b r :=
 lG [1,3] [.a,.q,.t,.h 0 (.row b (ag.cells v)),.h 1 (.pv (vB c)),.f,.h 0 (iI (((b+1):Nat):Int)),.aG [8,9,10],.drop [4]] (y5 (ai h1) (ba ag.cells (rN b) h2) h3 (bw h4) (aJ h5)) hL
theorem jT(l:Rs)(b:Nat)(h1:l.length≤b):ah l b (vB true) :=
 lD [] [.a,.q,.f,.q] (y1 (ar h1))
end dN
namespace dQ
theorem e0(x:ag)(a b:UInt32)(h1:x.num.length<2)(h2:x.den.length<2)(h3:x.num.length=0)(h4:x.den.length=0):Cp 67 [x.pv,vW a,vW b] (vB true) :=
 eD func67 [] [.q,.aR [.o,.o,(iL x.num),.o,.o,.o,.o,(iL x.den),.o,(.dec true),.o,.o,.o,(iL x.num),.o,.o,.skip,.skip,.skip,.skip,.skip,.skip,(.dec true),(.dec true),.o,.o,.o,(iL x.den),.o,.o,.skip,.skip,.skip,.skip,.skip,.skip,(.dec true)]] (y36 (an aj x.num) (ai h1) (ai h1) (ai h1) (an aj x.den) (ai h1) (ai h1) (ai h2) (ai h2) (ai h2) (an aj x.num) (ai h2) (ai h2) (aM h3) (aM h3) (aM h3) (aM h3) (aM h3) (aM h3) (ai h2) (aM h3) (ai h2) rT rT rT (an aj x.den) rT rT (aM h4) (aM h4) (aM h4) (aM h4) (aM h4) (aM h4) rT (aM h4))
theorem e1(x:ag)(a b v:UInt32)(h1:x.num.length<2)(h2:x.den.length<2)(h3:x.num.length=0)(h4:x.den.length≠0)(h5:x.den[0]? = some v):Cp 67 [x.pv,vW a,vW b] (vB (decide ((v.toNat:Int)≤(b.toNat:Int)))) :=
 eD func67 [1,1,1,1,1,1,1,1,1,1,1,1,1,1,1,1,1,1,1,1,1,1,1,1,1,1,1,1,1,1,1,3] [.q,.aR [.o,.o,(iL x.num),.o,.o,.o,.o,(iL x.den),.o,(.dec true),.o,.o,.o,(iL x.num),.o,.o,.skip,.skip,.skip,.skip,.skip,.skip,(.dec true),(.dec true),.o,.o,.o,(iL x.den),.o,.o,.o,.o,(.row 0 (aj v)),.o,.o,.o,(.dec false)]] (y37 (an aj x.num) (ai h1) (ai h1) (ai h1) (an aj x.den) (ai h1) (ai h1) (ai h2) (ai h2) (ai h2) (an aj x.num) (ai h2) (ai h2) (aM h3) (aM h3) (aM h3) (aM h3) (aM h3) (aM h3) (ai h2) (aM h3) (ai h2) rT rT rT (an aj x.den) rT rT (aB h4) (aB h4) (aB h4) (ba aj (Eq.refl (0:Int)) h5) (aB h4) (aB h4) (aB h4) rT (aB h4))
theorem e2(x:ag)(a b v:UInt32)(h1:x.num.length<2)(h2:x.den.length<2)(h3:x.num.length≠0)(h4:x.num[0]? = some v)(h5:v.toNat≤a.toNat)(h6:x.den.length=0):Cp 67 [x.pv,vW a,vW b] (vB true) :=
 eD func67 [1,1,1,1,1,1,1,1,1,1,1,1,1,1,1,1,3] [.q,.aR [.o,.o,(iL x.num),.o,.o,.o,.o,(iL x.den),.o,(.dec true),.o,.o,.o,(iL x.num),.o,.o,.o,.o,(.row 0 (aj v)),.o,.o,.o,(.dec false),(.dec true),.o,.o,.o,(iL x.den),.o,.o,.skip,.skip,.skip,.skip,.skip,.skip,(.dec true),(.dec true)]] (y38 (an aj x.num) (ai h1) (ai h1) (ai h1) (an aj x.den) (ai h1) (ai h1) (ai h2) (ai h2) (ai h2) (an aj x.num) (ai h2) (ai h2) (aB h3) (aB h3) (aB h3) (ba aj (Eq.refl (0:Int)) h4) (aB h3) (aB h3) (aB h3) (ai h2) (aB h3) (ai h2) (cI h5) (cI h5) (cI h5) (an aj x.den) (cI h5) (cI h5) (aM h6) (aM h6) (aM h6) (aM h6) (aM h6) (aM h6) (cI h5) (aM h6) (cI h5))
theorem e3(x:ag)(a b v v1:UInt32)(h1:x.num.length<2)(h2:x.den.length<2)(h3:x.num.length≠0)(h4:x.num[0]? = some v)(h5:v.toNat≤a.toNat)(h6:x.den.length≠0)(h7:x.den[0]? = some v1):Cp 67 [x.pv,vW a,vW b] (vB (decide ((v1.toNat:Int)≤(b.toNat:Int)))) :=
 eD func67 [1,1,1,1,1,1,1,1,1,1,1,1,1,1,1,1,3,1,1,1,1,1,1,1,1,1,1,1,1,1,1,1,3] [.q,.aR [.o,.o,(iL x.num),.o,.o,.o,.o,(iL x.den),.o,(.dec true),.o,.o,.o,(iL x.num),.o,.o,.o,.o,(.row 0 (aj v)),.o,.o,.o,(.dec false),(.dec true),.o,.o,.o,(iL x.den),.o,.o,.o,.o,(.row 0 (aj v1)),.o,.o,.o,(.dec false),(.dec true)]] (y39 (an aj x.num) (ai h1) (ai h1) (ai h1) (an aj x.den) (ai h1) (ai h1) (ai h2) (ai h2) (ai h2) (an aj x.num) (ai h2) (ai h2) (aB h3) (aB h3) (aB h3) (ba aj (Eq.refl (0:Int)) h4) (aB h3) (aB h3) (aB h3) (ai h2) (aB h3) (ai h2) (cI h5) (cI h5) (cI h5) (an aj x.den) (cI h5) (cI h5) (aB h6) (aB h6) (aB h6) (ba aj (Eq.refl (0:Int)) h7) (aB h6) (aB h6) (aB h6) (cI h5) (aB h6) (cI h5))
theorem e4(x:ag)(a b v:UInt32)(h1:x.num.length<2)(h2:x.den.length<2)(h3:x.num.length≠0)(h4:x.num[0]? = some v)(h5:a.toNat<v.toNat):Cp 67 [x.pv,vW a,vW b] (vB false) :=
 eD func67 [1,1,1,1,1,1,1,1,1,1,1,1,1,1,1,1,3] [.q,.aR [.o,.o,(iL x.num),.o,.o,.o,.o,(iL x.den),.o,(.dec true),.o,.o,.o,(iL x.num),.o,.o,.o,.o,(.row 0 (aj v)),.o,.o,.o,(.dec false),(.dec true),.o,.skip,.skip,.skip,.skip,.skip,.skip,.skip,.skip,.skip,.skip,.skip,.skip,(.dec false)]] (YU (an aj x.num) (ai h1) (ai h1) (ai h1) (an aj x.den) (ai h1) (ai h1) (ai h2) (ai h2) (ai h2) (an aj x.num) (ai h2) (ai h2) (aB h3) (aB h3) (aB h3) (ba aj (Eq.refl (0:Int)) h4) (aB h3) (aB h3) (aB h3) (ai h2) (aB h3) (ai h2) (bn h5) (bn h5) (bn h5) (bn h5) (bn h5) (bn h5) (bn h5))
theorem e5(x:ag)(a b:UInt32)(h1:x.num.length<2)(h2:2≤x.den.length):Cp 67 [x.pv,vW a,vW b] (vB false) :=
 eD func67 [] [.q,.aR [.o,.o,(iL x.num),.o,.o,.o,.o,(iL x.den),.o,(.dec true),.o,.skip,.skip,.skip,.skip,.skip,.skip,.skip,.skip,.skip,.skip,.skip,.skip,(.dec false),.o,.skip,.skip,.skip,.skip,.skip,.skip,.skip,.skip,.skip,.skip,.skip,.skip]] (Pu (an aj x.num) (ai h1) (ai h1) (ai h1) (an aj x.den) (ai h1) (ai h1) (ar h2) (ar h2) (ar h2) (ar h2) (ar h2) (ar h2) (ar h2) rF rF rF rF rF rF)
theorem e6(x:ag)(a b:UInt32)(h1:2≤x.num.length):Cp 67 [x.pv,vW a,vW b] (vB false) :=
 eD func67 [] [.q,.aR [.o,.o,(iL x.num),.o,.o,.skip,.skip,.skip,.skip,(.dec false),.o,.skip,.skip,.skip,.skip,.skip,.skip,.skip,.skip,.skip,.skip,.skip,.skip,.o,.o,.skip,.skip,.skip,.skip,.skip,.skip,.skip,.skip,.skip,.skip,.skip,.skip]] (U3 (an aj x.num) (ar h1) (ar h1) (ar h1) (ar h1) (ar h1) rF rF rF rF rF rF rF rF rF rF rF rF)
end dQ
namespace cz
@[reducible] def fn:Func:=Tryz.f5
def aY:List dJ:=focus [0,2,0,0,2,1,2,0,0,2,0,0] [.code (aL fn)]
def inv1(t:aA)(Vm:Nat):St:=⟨[(29,(.pv (bB (bp ag.cells) t.roots))),(30,(eI (t.roots.length:Int))),(31,(eI (Vm:Int)))],[]⟩
@[reducible] def ah(t:aA)(Vm:Nat)(r:PV):Prop:=L bu fn aY (inv1 t Vm) r
theorem e0(t:aA)(x:Rs)(h1:2<t.roots.length)(h2:t.roots.length≤5):Cp 5 [t.pv,ae x] (vB false) :=
 eD func5 [] [.q,.aR [.o,.o,(iL t.roots),.o,.o,.o,.o,(iL t.roots),.o,(.dec true),.o,.skip,.skip,.skip,.skip,(.dec true),.o,.skip,.skip,.skip],.a,.q] (Nx (an lR t.roots) (ai h1) (ai h1) (ai h1) (an lR t.roots) (ai h1) (ai h1) (cI h2) (cI h2) (cI h2) (cI h2) (cI h2) rT rT rT)
theorem e1(t:aA)(x:Rs)(h1:2<t.roots.length)(h2:5<t.roots.length)(h3:8<t.roots.length):Cp 5 [t.pv,ae x] (vB false) :=
 eD func5 [] [.q,.aR [.o,.o,(iL t.roots),.o,.o,.o,.o,(iL t.roots),.o,(.dec true),.o,.o,.o,(iL t.roots),.o,(.dec false),.o,.skip,.skip,.skip,(.dec true)],.a,.q] (Ny (an lR t.roots) (ai h1) (ai h1) (ai h1) (an lR t.roots) (ai h1) (ai h1) (bn h2) (bn h2) (bn h2) (an lR t.roots) (bn h2) (bn h2) (ai h3) (ai h3) (ai h3) (ai h3))
theorem e2(t:aA)(x:Rs)(a:Bool)(h1:2<t.roots.length)(h2:5<t.roots.length)(h3:t.roots.length≤8)(h4:Cp 25 [ae x] (vB a))(h5:a=false):Cp 5 [t.pv,ae x] (vB false) :=
 eD func5 [] [.q,.aR [.o,.o,(iL t.roots),.o,.o,.o,.o,(iL t.roots),.o,(.dec true),.o,.o,.o,(iL t.roots),.o,(.dec false),.o,.o,(.pv (vB a)),.o,(.dec false)],.t,.q] (YT (an lR t.roots) (ai h1) (ai h1) (ai h1) (an lR t.roots) (ai h1) (ai h1) (bn h2) (bn h2) (bn h2) (an lR t.roots) (bn h2) (bn h2) (ar h3) (ar h3) h4 (ar h3) (ar h3) (dm h5))
theorem e3(t:aA)(x:Rs)(a:Bool){r:PV}(h1:2<t.roots.length)(h2:5<t.roots.length)(h3:t.roots.length≤8)(h4:Cp 25 [ae x] (vB a))(h5:a=true)(hL:ah t 0 r):Cp 5 [t.pv,ae x] r :=
 eG func5 [] [.q,.aR [.o,.o,(iL t.roots),.o,.o,.o,.o,(iL t.roots),.o,(.dec true),.o,.o,.o,(iL t.roots),.o,(.dec false),.o,.o,(.pv (vB a)),.o,(.dec false)],.f,.h 2 (iL t.roots),.aG [29,30,31],.drop [2]] (Pu (an lR t.roots) (ai h1) (ai h1) (ai h1) (an lR t.roots) (ai h1) (ai h1) (bn h2) (bn h2) (bn h2) (an lR t.roots) (bn h2) (bn h2) (ar h3) (ar h3) h4 (ar h3) (ar h3) (bw h5) (an lR t.roots)) hL
theorem e5(t:aA)(x:Rs)(a:Bool)(h1:t.roots.length≤2)(h2:t.roots.length≤8)(h3:Cp 25 [ae x] (vB a))(h4:a=false):Cp 5 [t.pv,ae x] (vB false) :=
 eD func5 [] [.q,.aR [.o,.o,(iL t.roots),.o,.o,.skip,.skip,.skip,.skip,(.dec false),.o,.o,.o,(iL t.roots),.o,.o,.o,.o,(.pv (vB a)),.o,(.dec false)],.t,.q] (Ny (an lR t.roots) (ar h1) (ar h1) (ar h1) (ar h1) (ar h1) rF rF rF (an lR t.roots) rF (ar h2) (ar h2) h3 (ar h2) (ar h2) (dm h4))
theorem e6(t:aA)(x:Rs)(a:Bool){r:PV}(h1:t.roots.length≤2)(h2:t.roots.length≤8)(h3:Cp 25 [ae x] (vB a))(h4:a=true)(hL:ah t 0 r):Cp 5 [t.pv,ae x] r :=
 eG func5 [] [.q,.aR [.o,.o,(iL t.roots),.o,.o,.skip,.skip,.skip,.skip,(.dec false),.o,.o,.o,(iL t.roots),.o,.o,.o,.o,(.pv (vB a)),.o,(.dec false)],.f,.h 2 (iL t.roots),.aG [29,30,31],.drop [2]] (U3 (an lR t.roots) (ar h1) (ar h1) (ar h1) (ar h1) (ar h1) rF rF rF (an lR t.roots) rF (ar h2) (ar h2) h3 (ar h2) (ar h2) (bw h4) (an lR t.roots)) hL
theorem l10(t:aA)(b:Nat)(v:Rs)(c:Bool)(h1:b<t.roots.length)(h2:t.roots[b]? = some v)(h3:Cp 25 [ae v] (vB c))(h4:c=false):ah t b (vB false) :=
 lD [1,3] [.a,.q,.t,.h 0 (.row b (lR v)),.h 1 (.pv (vB c)),.t,.q] (y4 (ai h1) (ba lR (rN b) h2) h3 (dm h4))
theorem cB(t:aA)(b:Nat)(v:Rs)(c:Bool){r:PV}(h1:b<t.roots.length)(h2:t.roots[b]? = some v)(h3:Cp 25 [ae v] (vB c))(h4:c=true)(h5:(b+1)<9223372036854775808)(hL:ah t (b+1) r):ah t b r :=
 lG [1,3] [.a,.q,.t,.h 0 (.row b (lR v)),.h 1 (.pv (vB c)),.f,.h 0 (iI (((b+1):Nat):Int)),.aG [29,30,31]] (y5 (ai h1) (ba lR (rN b) h2) h3 (bw h4) (aJ h5)) hL
theorem jT(t:aA)(b:Nat)(h1:t.roots.length≤b):ah t b (vB true) :=
 lD [] [.a,.q,.f,.q] (y1 (ar h1))
end cz
namespace bP
@[reducible] def fn:Func:=Tryz.f33
def aY:List dJ:=focus [0,2,0,2,0,2,0,0,0] [.code (aL fn)]
def inv1(sho:List ag)(GL:Nat)(t:aA):St:=⟨[(2,(.ptr 2 0)),(6,(.pv (ae sho))),(7,(eI (GL:Int)))],[(2,(.lit [(.pv (bB (bp ag.cells) t.roots))]))]⟩
@[reducible] def ah(sho:List ag)(GL:Nat)(t:aA)(r:PV):Prop:=L bu fn aY (inv1 sho GL t) r
def kZ:List dJ:=focus [0,2,0,2,0,2,0,0,0,0,0,0,2,1,2,2,2,2,0,2,0,0,2,1,2,0,2,0,0,2,0,0] [.code (aL fn)]
def inv2(Vn:List (List ag))(Vo:Int)(t:aA):St:=⟨[(2,(.ptr 2 0)),(10,(.pv (bB (bp ag.cells) Vn))),(11,(eI Vo))],[(2,(.lit [(.pv (bB (bp ag.cells) t.roots))]))]⟩
@[reducible] def a8(Vn:List (List ag))(Vo:Int)(t:aA)(r:PV):Prop:=L bu fn kZ (inv2 Vn Vo t) r
def KH:List dJ:=focus [0,2,0,2,0,2,0,0,0,0,0,0,2,1,2,2,2,2,0,2,0,0,2,1,2,0,2,0,0,2,0,0,0,0,0,2,1,2,2,2,2,0,2,0,0,2,0,0] [.code (aL fn)]
def KI(BV:List ag)(Vp:List (List ag))(Vq Vr:Nat)(t:aA):St:=⟨[(2,(.ptr 2 0)),(12,(.row 72 0 BV.length 3)),(54,(.pv (bB (bp ag.cells) Vp))),(55,(eI (Vq:Int))),(56,(eI (Vr:Int)))],[(2,(.lit [(.pv (bB (bp ag.cells) t.roots))])),(72,(.pure ((BV:List ag).map ag.cells).flatten))]⟩
@[reducible] def j5(BV:List ag)(Vp:List (List ag))(Vq Vr:Nat)(t:aA)(r:PV):Prop:=L bu fn KH (KI BV Vp Vq Vr t) r
theorem e0(t:aA)(x a:Rs){r:PV}(h1:Cp 59 [ae x] (ae a))(hL:ah a 0 t r):Cp 33 [t.pv,ae x] r :=
 eG func33 [] [.q,.h 1 (.pv (ae a)),.q,.aG [2,6,7]] (y1 h1) hL
theorem l10(b:Rs)(c:Nat)(t:aA){r:PV}(h1:c≤64)(h2:(1*2^c)<9223372036854775808)(h3:(1*2^c)<b.length)(h4:(c+1)<9223372036854775808)(hL:ah b (c+1) t r):ah b c t r :=
 lG [] [.a,.aR [.o,(iI (((1*2^c):Nat):Int)),.o,(iL b)],.t,.h 1 (iI (((c+1):Nat):Int)),.aG [2,6,7]] (y4 (bS (k := .i64) h1 h2) (an ag.cells b) (ai h3) (aJ h4)) hL
theorem cB(b:Rs)(c:Nat)(t:aA)(d:Rs)(of:ag)(g:Rs){r:PV}(h1:c≤64)(h2:(1*2^c)<9223372036854775808)(h3:b.length≤(1*2^c))(h4:Cp 79 [t.pv,ae b] (.aF [ae d,.aC]))(h5:Cp 18 [vI 1] of.pv)(h6:Cp 21 [of.pv] (ae g))(hL:a8 [d,g] (c:Int) t r):ah b c t r :=
 lG [1,1,1,1,1,1,3] [.a,.aR [.o,(iI (((1*2^c):Nat):Int)),.o,(iL b)],.f,.h 2 (.pv (.aF [ae d,.aC])),.q,.a,.aR [.o,(.pv of.pv),(.pv (ae g))],.q,.dH 10 (([d,g]:List (Rs)).map lR),.aG [2,10,11]] (y7 (bS (k := .i64) h1 h2) (an ag.cells b) (ar h3) h4 h5 h6 (bU (iM ag.cells) ([d,g]:List (Rs)) (Eq.refl ([d,g]:List (Rs)).length))) hL
theorem uF(b:List (Rs))(c:Int)(t:aA)(d:List (Rs)){r:PV}(h1:0<c)(h2:Cp 80 [t.pv,(bB lR b),vI c] (.aF [(bB lR d),.aC]))(h3:ay (c-1))(hL:a8 d (c-1) t r):a8 b c t r :=
 lG [] [.a,.q,.t,.h 3 (.pv (.aF [(bB lR d),.aC])),.q,.a,.h 1 (iI (c-1)),.aG [2,10,11]] (y3 (bA h1) h2 (aQ h3)) hL
theorem Py(b:List (Rs))(c:Int)(t:aA){r:PV}(h1:c≤0)(hL:j5 [] b b.length 0 t r):a8 b c t r :=
 lG [] [.a,.q,.f,.h 0 .nil,.iK 12 72 3,.h 1 (iL b),.aG [2,12,54,55,56],.ord [2,72]] (y2 (bm h1) (an lR b)) hL
theorem XA(b:Rs)(c:List (Rs))(d g:Nat)(t:aA)(v:Rs)(i:ag)(j:Bool){r:PV}(h1:g<d)(h2:c[g]? = some v)(h3:Cp 81 [t.pv,ae v] (.aF [i.pv,vB j]))(h4:j=true)(h5:((b++[i]):Rs).length*56≤140737488355328)(h6:(g+1)<9223372036854775808)(hL:j5 (b++[i]) c d (g+1) t r):j5 b c d g t r :=
 lG [1,3,1,1,6] [.a,.q,.t,.h 0 (.row g (lR v)),.h 2 (.pv (.aF [i.pv,vB j])),.q,.f,.h 3 (.app ((b++[i]):Rs).length (((b++[i]):Rs).map ag.cells).flatten),.h 0 (iI (((g+1):Nat):Int)),.aG [2,12,54,55,56],.drop [71,15],.ord [2,72]] (y6 (ai h1) (ba lR (rN g) h2) h3 (bw h4) (fv aD (b:Rs) ([i]:Rs) 56 (Eq.refl (b:Rs).length) (Eq.refl ([i]:Rs).length) h5 rfl) (aJ h6)) hL
theorem l32(b:Rs)(c:List (Rs))(d g:Nat)(t:aA)(i:Rs)(h1:d≤g)(h2:Cp 82 [ae b] (ae i)):j5 b c d g t (.aF [ae i,.aC]) :=
 lD [1,3] [.a,.q,.f,.dH 12 ((b:Rs).map ag.cells),.h 1 (.pv (ae i))] (y3 (ar h1) (bU aD (b:Rs) (Eq.refl (b:Rs).length)) h2)
end bP
namespace cZ
@[reducible] def fn:Func:=Tryz.f80
def aY:List dJ:=focus [0,2,0,2,0,2,0,0,2,0,0] [.code (aL fn)]
def inv1(c:List (List ag))(j:Int)(k:Nat)(fh fi:List (List ag))(z8:Nat)(t:aA):St:=⟨[(1,(.pv (bB (bp ag.cells) c))),(2,(eI j)),(3,(.ptr 3 0)),(8,(eI (((1*2^k):Nat):Int))),(9,(.row 44 0 fh.length 1)),(10,(.row 50 0 fi.length 1)),(23,(.pv (bB (bp ag.cells) c))),(24,(eI (c.length:Int))),(25,(eI (z8:Int)))],[(3,(.lit [(.pv (bB (bp ag.cells) t.roots))])),(44,(.pure ((fh:List (List ag)).map (bp ag.cells)).flatten)),(50,(.pure ((fi:List (List ag)).map (bp ag.cells)).flatten))]⟩
@[reducible] def ah(c:List (List ag))(j:Int)(k:Nat)(fh fi:List (List ag))(z8:Nat)(t:aA)(r:PV):Prop:=L bu fn aY (inv1 c j k fh fi z8 t) r
def kZ:List dJ:=focus [0,2,0,2,0,2,0,0,2,0,0,0,0,2,0,1,2,2,2,2,0,2,0,0,2,0,0] [.code (aL fn)]
def inv2(c:List (List ag))(j:Int)(fh fi:List (List ag))(m GM:Nat)(t:aA)(pc:List (List ag)):St:=⟨[(1,(.pv (bB (bp ag.cells) c))),(2,(eI j)),(3,(.ptr 3 0)),(9,(.row 44 0 fh.length 1)),(10,(.row 50 0 fi.length 1)),(14,(.row 56 0 m 1)),(58,(eI (c.length:Int))),(59,(eI (GM:Int)))],[(3,(.lit [(.pv (bB (bp ag.cells) t.roots))])),(44,(.pure ((fh:List (List ag)).map (bp ag.cells)).flatten)),(50,(.pure ((fi:List (List ag)).map (bp ag.cells)).flatten)),(56,(.pure ((pc:List (List ag)).map (bp ag.cells)).flatten))]⟩
@[reducible] def a8(c:List (List ag))(j:Int)(fh fi:List (List ag))(m GM:Nat)(t:aA)(pc:List (List ag))(r:PV):Prop:=L bu fn kZ (inv2 c j fh fi m GM t pc) r
def KH:List dJ:=focus [0,2,0,2,0,2,0,0,2,0,0,0,0,2,0,1,2,2,2,2,0,2,0,0,2,0,0,0,0,2,0,0,2,0,0,0,2,0,2,0,0] [.code (aL fn)]
def KI(c:List (List ag))(j:Int)(fh fi:List (List ag))(m PD GM ym:Nat)(t:aA)(pc:List (List ag)):St:=⟨[(1,(.pv (bB (bp ag.cells) c))),(2,(eI j)),(3,(.ptr 3 0)),(9,(.row 44 0 fh.length 1)),(10,(.row 50 0 fi.length 1)),(14,(.row 56 0 m 1)),(15,(eI (PD:Int))),(58,(eI (c.length:Int))),(59,(eI (GM:Int))),(63,(eI (c.length:Int))),(64,(eI (ym:Int)))],[(3,(.lit [(.pv (bB (bp ag.cells) t.roots))])),(44,(.pure ((fh:List (List ag)).map (bp ag.cells)).flatten)),(50,(.pure ((fi:List (List ag)).map (bp ag.cells)).flatten)),(56,(.pure ((pc:List (List ag)).map (bp ag.cells)).flatten))]⟩
@[reducible] def j5(c:List (List ag))(j:Int)(fh fi:List (List ag))(m PD GM ym:Nat)(t:aA)(pc:List (List ag))(r:PV):Prop:=L bu fn KH (KI c j fh fi m PD GM ym t pc) r
theorem e0(t:aA)(c:List (Rs))(j:Int)(k:Nat){r:PV}(h1:ay (j-1))(h2:(j-1)=(k:Int))(h3:k≤64)(h4:(1*2^k)<9223372036854775808)(hL:ah c j k [] [] 0 t r):Cp 80 [t.pv,(bB lR c),vI j] r :=
 eG func80 [] [.q,.aR [.o,(iI (j-1)),(iI (((1*2^k):Nat):Int))],.aR [.nil,.nil],.iK 9 44 1,.iK 10 50 1,.h 1 (iL c),.aG [1,2,3,8,9,10,23,24,25],.ord [3,44,50]] (y3 (aQ h1) (Ns h2 (bS (k := .i64) h3 h4)) (an lR c)) hL
theorem Dz(c:List (List ag))(j:Int)(k:Nat)(fh fi:List (List ag))(z8:Nat)(t:aA)(v:List ag)(m:Nat):qF bu Fi fn [0,2,0,2,0,2,0,0,2,0,0,0,0,2,0,0,2,0,0,0,2,0,2] [0,1,2,6,7,8] [.none,.none,.none,(.fj 0 (1*2^k) (((((v:List ag)++List.replicate m (⟨false,[],[]⟩:ag)).take (1*2^k)):List ag).map ag.cells)),.none,(.app ((fh++[(((v:List ag)++List.replicate m (⟨false,[],[]⟩:ag)).take (1*2^k))]):List (List ag)).length (((fh++[(((v:List ag)++List.replicate m (⟨false,[],[]⟩:ag)).take (1*2^k))]):List (List ag)).map lR).flatten),.none,.none,.none,(.fj (1*2^k) ((((v:List ag)++List.replicate m (⟨false,[],[]⟩:ag)):List ag).length) (((((v:List ag)++List.replicate m (⟨false,[],[]⟩:ag)).drop (1*2^k)):List ag).map ag.cells)),.none,(.app ((fi++[(((v:List ag)++List.replicate m (⟨false,[],[]⟩:ag)).drop (1*2^k))]):List (List ag)).length (((fi++[(((v:List ag)++List.replicate m (⟨false,[],[]⟩:ag)).drop (1*2^k))]):List (List ag)).map lR).flatten),.none,.none] ⟨[(1,(.pv (bB lR c))),(2,(eI j)),(3,(.ptr 3 0)),(8,(eI (((1*2^k):Nat):Int))),(9,(.row 44 0 fh.length 1)),(10,(.row 50 0 fi.length 1)),(13,(.pv (ae ((v:List ag)++List.replicate m (⟨false,[],[]⟩:ag))))),(23,(.pv (bB lR c))),(24,(eI (c.length:Int))),(25,(eI (z8:Int)))],[(3,(.lit [(.pv (bB lR t.roots))])),(44,(.pure ((fh:List (List ag)).map lR).flatten)),(50,(.pure ((fi:List (List ag)).map lR).flatten))]⟩:=by unfold qF z6;kernel_rfl
theorem l10(c:List (Rs))(j:Int)(k:Nat)(b d:List (Rs))(g:Nat)(t:aA)(v:Rs)(m:Nat){r:PV}(h1:g<c.length)(h2:c[g]? = some v)(h3:(([]:Rs)++v:Rs).length*56≤140737488355328)(h4:(2*(1*2^k))<9223372036854775808)(h5:ay ((((2*(1*2^k)):Nat):Int)-(v.length:Int)))(h6:(max 0 ((((2*(1*2^k)):Nat):Int)-(v.length:Int)))=(m:Int))(h7:((v:Rs)++List.replicate m (⟨false,[],[]⟩:ag)).length*56≤140737488355328)(h8:(1*2^k)≤((v:Rs)++List.replicate m (⟨false,[],[]⟩:ag)).length)(h9:((b++[(((v:Rs)++List.replicate m (⟨false,[],[]⟩:ag)).take (1*2^k))]):List (Rs)).length*24≤140737488355328)(bQ:(1*2^k)≤(((v:Rs)++List.replicate m (⟨false,[],[]⟩:ag)):Rs).length)(dU:((d++[(((v:Rs)++List.replicate m (⟨false,[],[]⟩:ag)).drop (1*2^k))]):List (Rs)).length*24≤140737488355328)(fP:(g+1)<9223372036854775808)(hL:ah c j k (b++[(((v:Rs)++List.replicate m (⟨false,[],[]⟩:ag)).take (1*2^k))]) (d++[(((v:Rs)++List.replicate m (⟨false,[],[]⟩:ag)).drop (1*2^k))]) (g+1) t r):ah c j k b d g t r :=
 lG [1,3,6,1,1,1,1,6,3,6,6,6,6] [.a,.q,.t,.h 0 (.row g (lR v)),.aR [.o,.o,(.app (v:Rs).length ((v:Rs).map ag.cells).flatten),.o,(iI (((2*(1*2^k)):Nat):Int)),.o,(iL v),(iI ((((2*(1*2^k)):Nat):Int)-(v.length:Int))),(iI (max 0 ((((2*(1*2^k)):Nat):Int)-(v.length:Int)))),(.app (((v:Rs)++List.replicate m (⟨false,[],[]⟩:ag)):Rs).length ((((v:Rs)++List.replicate m (⟨false,[],[]⟩:ag)):Rs).map ag.cells).flatten)],.dH 13 ((((v:Rs)++List.replicate m (⟨false,[],[]⟩:ag)):Rs).map ag.cells),.aG [1,2,3,8,9,10,13,23,24,25],.any [0,1,2,6,7,8] [.none,.none,.none,(.fj 0 (1*2^k) (((((v:Rs)++List.replicate m (⟨false,[],[]⟩:ag)).take (1*2^k)):Rs).map ag.cells)),.none,(.app ((b++[(((v:Rs)++List.replicate m (⟨false,[],[]⟩:ag)).take (1*2^k))]):List (Rs)).length (((b++[(((v:Rs)++List.replicate m (⟨false,[],[]⟩:ag)).take (1*2^k))]):List (Rs)).map lR).flatten),.none,.none,.none,(.fj (1*2^k) ((((v:Rs)++List.replicate m (⟨false,[],[]⟩:ag)):Rs).length) (((((v:Rs)++List.replicate m (⟨false,[],[]⟩:ag)).drop (1*2^k)):Rs).map ag.cells)),.none,(.app ((d++[(((v:Rs)++List.replicate m (⟨false,[],[]⟩:ag)).drop (1*2^k))]):List (Rs)).length (((d++[(((v:Rs)++List.replicate m (⟨false,[],[]⟩:ag)).drop (1*2^k))]):List (Rs)).map lR).flatten),.none,.none],.h 0 (iI (((g+1):Nat):Int)),.aG [1,2,3,8,9,10,23,24,25],.drop [49,43],.ord [3,44,50]] (Nx (ai h1) (ba lR (rN g) h2) (iw aD ([]:Rs) (v:Rs) 56 (Eq.refl ([]:Rs).length) h3 rfl) (LY h4) (an ag.cells v) (aQ h5) (KD 0 ((((2*(1*2^k)):Nat):Int)-(v.length:Int))) (UZ aD (v:Rs) (⟨false,[],[]⟩:ag) 56 m (Eq.refl (v:Rs).length) h6 h7 rfl) (bU aD (((v:Rs)++List.replicate m (⟨false,[],[]⟩:ag)):Rs) (Eq.refl (((v:Rs)++List.replicate m (⟨false,[],[]⟩:ag)):Rs).length)) (fY aD (((v:Rs)++List.replicate m (⟨false,[],[]⟩:ag)):Rs) (Eq.refl ((((1*2^k):Nat):Int):Int)) h8) (fv (iM ag.cells) (b:List (Rs)) ([(((v:Rs)++List.replicate m (⟨false,[],[]⟩:ag)).take (1*2^k))]:List (Rs)) 24 (Eq.refl (b:List (Rs)).length) (Eq.refl ([(((v:Rs)++List.replicate m (⟨false,[],[]⟩:ag)).take (1*2^k))]:List (Rs)).length) h9 rfl) (mD aD (((v:Rs)++List.replicate m (⟨false,[],[]⟩:ag)):Rs) (Eq.refl ((((1*2^k):Nat):Int):Int)) bQ) (fv (iM ag.cells) (d:List (Rs)) ([(((v:Rs)++List.replicate m (⟨false,[],[]⟩:ag)).drop (1*2^k))]:List (Rs)) 24 (Eq.refl (d:List (Rs)).length) (Eq.refl ([(((v:Rs)++List.replicate m (⟨false,[],[]⟩:ag)).drop (1*2^k))]:List (Rs)).length) dU rfl) (Dz c j k b d g t v m) (aJ fP)) hL
theorem cB(c:List (Rs))(j:Int)(k:Nat)(b d:List (Rs))(g:Nat)(t:aA)(m:Nat){r:PV}(h1:c.length≤g)(h2:(2*c.length)<9223372036854775808)(h3:ay ((((2*c.length):Nat):Int)-1))(h4:((((2*c.length):Nat):Int)-1)=(m:Int))(h5:24*m≤140737488355328)(hL:a8 c j b d m 0 t (List.replicate m ([]:Rs)) r):ah c j k b d g t r :=
 lG [1,1,1,1,5] [.a,.q,.f,.aR [.o,(iL c),(iI (((2*c.length):Nat):Int)),(iI ((((2*c.length):Nat):Int)-1)),(.app m ((List.replicate m ([]:Rs):List (Rs)).map lR).flatten)],.h 1 (iL c),.aG [1,2,3,9,10,14,58,59],.ord [3,44,50,56]] (y6 (ar h1) (an lR c) (LY h2) (aQ h3) (sj lR [] 24 m h4 h5 rfl) (an lR c)) hL
theorem uF(c:List (Rs))(j:Int)(b d:List (Rs))(m g:Nat)(t:aA)(i:List (Rs)){r:PV}(h1:g<c.length)(hL:j5 c j b d m g g 0 t i r):a8 c j b d m g t i r :=
 lG [] [.a,.q,.t,.q,.h 1 (iL c),.aG [1,2,3,9,10,14,15,58,59,63,64]] (y2 (ai h1) (an lR c)) hL
theorem xe(c:List (Rs))(j:Int)(b d:List (Rs))(m g:Nat)(t:aA)(i:List (Rs))(h1:c.length≤g)(h2:m=i.length):a8 c j b d m g t i (.aF [(bB lR i),.aC]) :=
 lD [1,3] [.a,.q,.f,.q,.dH 6 ((i:List (Rs)).map lR)] (y2 (ar h1) (bU (iM ag.cells) (i:List (Rs)) h2))
theorem PE(c:List (List ag))(j:Int)(fh fi:List (List ag))(m PD GM ym:Nat)(t:aA)(pc:List (List ag))(mul aap:List ag)(k:Nat)(v4 aaq:List ag):qF bu Fi fn [0,2,0,2,0,2,0,0,2,0,0,0,0,2,0,1,2,2,2,2,0,2,0,0,2,0,0,0,0,2,0,0,2,0,0,0,2,0,2,0,0,0,0,2,0,0,2,0,0,0,2,0,2,0,0,2,1,2,0,2,0,0,2,1,2,0,0] [1,4] [.none,.none,.none,.none,.none,(iI (j-1)),(.row k (lR v4)),.none,(.pv (.aF [(ae aaq),.aC])),.none,.none,.none,.none,.none] ⟨[(1,(.pv (bB lR c))),(2,(eI j)),(3,(.ptr 3 0)),(9,(.row 44 0 fh.length 1)),(10,(.row 50 0 fi.length 1)),(14,(.row 56 0 m 1)),(15,(eI (PD:Int))),(16,(eI (ym:Int))),(17,(.pv (ae mul))),(19,(.pv (ae aap))),(58,(eI (c.length:Int))),(59,(eI (GM:Int))),(63,(eI (c.length:Int))),(64,(eI (ym:Int)))],[(3,(.lit [(.pv (bB lR t.roots))])),(44,(.pure ((fh:List (List ag)).map lR).flatten)),(50,(.pure ((fi:List (List ag)).map lR).flatten)),(56,(.pure ((pc:List (List ag)).map lR).flatten))]⟩:=by unfold qF z6;kernel_rfl
theorem Xz(c:List (Rs))(j:Int)(b d:List (Rs))(m g i l:Nat)(t:aA)(n:List (Rs))(v v1 o v2 v3 p:Rs)(k:Nat)(v4 s u v5 w:Rs){r:PV}(h1:l<c.length)(h2:g<b.length)(h3:b[g]? = some v)(h4:l<b.length)(h5:b[l]? = some v1)(h6:Cp 19 [t.pv,ae v,ae v1] (.aF [ae o,.aC]))(h7:g<d.length)(h8:d[g]? = some v2)(h9:l<d.length)(bQ:d[l]? = some v3)(dU:Cp 19 [t.pv,ae v2,ae v3] (.aF [ae p,.aC]))(fP:ay (j-1))(k7:(j-1)=(k:Int))(oS:t.roots[k]? = some v4)(nz:Cp 19 [t.pv,ae p,ae v4] (.aF [ae s,.aC]))(wU:Cp 147 [t.pv,ae o,ae s] (.aF [ae u,.aC]))(zv:(g+l)<9223372036854775808)(HN:(g+l)<m)(EL:n[(g+l)]? = some v5)(Nz:Cp 20 [t.pv,ae v5,ae u] (.aF [ae w,.aC]))(Vk:(g+l)<n.length)(XC:(l+1)<9223372036854775808)(hL:j5 c j b d m g i (l+1) t (n.set (g+l) w) r):j5 c j b d m g i l t n r :=
 lG [1,2,1,2,1,1,2,1,2,1,1,1,3,1,1,1,1,1,2,1,1,2,2] [.a,.q,.t,.q,dr 14 1 [.none,.none,.none,(.nat g),(.ev (.pv (ae v))),.none,.none,(.nat l),(.ev (.pv (ae v1))),(.pv (.aF [ae o,.aC]))],.q,.a,dr 14 1 [.none,.none,.none,(.nat g),(.ev (.pv (ae v2))),.none,.none,(.nat l),(.ev (.pv (ae v3))),(.pv (.aF [ae p,.aC]))],.q,.a,.aG [1,2,3,9,10,14,15,16,17,19,58,59,63,64],.any [1,4] [.none,.none,.none,.none,.none,(iI (j-1)),(.row k (lR v4)),.none,(.pv (.aF [ae s,.aC])),.none,.none,.none,.none,.none],.q,.a,.h 3 (.pv (.aF [ae u,.aC])),.q,.a,dr 18 1 [.none,.none,.none,(iI (((g+l):Nat):Int)),.none,.none,.none,.none,(iI (((g+l):Nat):Int)),(.nat (g+l)),(.ev (.pv (ae v5))),.none,(.pv (.aF [ae w,.aC])),.none,.none,.none,(.nat (g+l)),(.cells (.pure (((n.set (g+l) w):List (Rs)).map lR).flatten))],.q,.a,.h 0 (iI (((l+1):Nat):Int)),.aG [1,2,3,9,10,14,15,58,59,63,64]] (Xx (ai h1) (cj (rN g) h2) (fK (enc:=lR) (f:=fun a=>(ae a)) (fun _=>rfl) h3) (cj (rN l) h4) (fK (enc:=lR) (f:=fun a=>(ae a)) (fun _=>rfl) h5) h6 (cj (rN g) h7) (fK (enc:=lR) (f:=fun a=>(ae a)) (fun _=>rfl) h8) (cj (rN l) h9) (fK (enc:=lR) (f:=fun a=>(ae a)) (fun _=>rfl) bQ) dU (aQ fP) (ba lR k7 oS) nz (PE c j b d m g i l t n o p k v4 s) wU (aJ zv) (aJ zv) (cj (rN (g+l)) HN) (fK (enc:=lR) (f:=fun a=>(ae a)) (fun _=>rfl) EL) Nz (cj (rN (g+l)) HN) (gu (iM ag.cells) (n:List (Rs)) w Vk) (aJ XC)) hL
theorem l36(c:List (Rs))(j:Int)(b d:List (Rs))(m g i k:Nat)(t:aA)(l:List (Rs)){r:PV}(h1:c.length≤k)(h2:(i+1)<9223372036854775808)(hL:a8 c j b d m (i+1) t l r):j5 c j b d m g i k t l r :=
 lG [] [.a,.q,.f,.h 0 (iI (((i+1):Nat):Int)),.aG [1,2,3,9,10,14,58,59]] (y2 (ar h1) (aJ h2)) hL
end cZ
namespace mU
theorem e0(t:aA)(x b c:Rs)(d:Option Int)(h1:Cp 32 [t.pv,ae x] (.aF [ae b,.aC]))(h2:Cp 33 [t.pv,ae x] (.aF [ae c,bW d])):Cp 7 [t.pv,ae x] (.aF [ae c,bW d]) :=
 eD func7 [] [.q,.h 2 (.pv (.aF [ae b,.aC])),.q,.a,.h 2 (.pv (.aF [ae c,bW d]))] (y2 h1 h2)
theorem e1(t:aA)(x b:Rs)(c:Int)(h1:Cp 32 [t.pv,ae x] (.aF [ae b,(.iface 75 (vI c))])):Cp 7 [t.pv,ae x] (.aF [(ae []),(.iface 75 (vI c))]) :=
 eD func7 [] [.q,.h 2 (.pv (.aF [ae b,(.iface 75 (vI c))])),.q,.a,.q] (y1 h1)
end mU
namespace da
@[reducible] def fn:Func:=Tryz.f8
def aY:List dJ:=focus [0,2,0,2,0,0,2,1,2,0,2,0,0,2,1,2,0,0,2,0,0] [.code (aL fn)]
def inv1(x:List ag)(Sd:List aW)(Vs:Nat)(t:aA):St:=⟨[(1,(.pv (ae x))),(2,(.ptr 2 0)),(4,(.ptr 4 0)),(33,(.pv (bB aW.cells Sd))),(34,(eI (Sd.length:Int))),(35,(eI (Vs:Int)))],[(2,(.lit [(.pv (bB (bp ag.cells) t.roots))])),(4,(.lit [(.pv (.list [])),(eB false),(.pv (.list [])),(.pv (.list [])),(eB false),(.pv (.list [])),(.pv (.list []))]))]⟩
@[reducible] def ah(x:List ag)(Sd:List aW)(Vs:Nat)(t:aA)(r:PV):Prop:=L bu fn aY (inv1 x Sd Vs t) r
theorem e0(t:aA)(x b:Rs)(c:List aW){r:PV}(h1:Cp 7 [t.pv,ae x] (.aF [ae b,.aC]))(h2:Cp 26 [ae b] (.aF [bB aW.cells c,.aC]))(hL:ah x c 0 t r):Cp 8 [t.pv,ae x] r :=
 eG func8 [] [.q,.h 2 (.pv (.aF [ae b,.aC])),.q,.a,.h 1 (.pv (.aF [bB aW.cells c,.aC])),.q,.a,.h 1 (iL c),.aG [1,2,4,33,34,35],.ord [2,4]] (y3 h1 h2 (an aW.cells c)) hL
theorem e2(t:aA)(x b:Rs)(c:Int)(h1:Cp 7 [t.pv,ae x] (.aF [ae b,(.iface 75 (vI c))])):Cp 8 [t.pv,ae x] (.aF [(⟨[],(⟨(⟨false,[],[]⟩:ag),(⟨false,[],[]⟩:ag)⟩:ak)⟩:aW).pv,(.iface 75 (vI c))]) :=
 eD func8 [] [.q,.h 2 (.pv (.aF [ae b,(.iface 75 (vI c))])),.q,.a,.q] (y1 h1)
theorem l10(x:Rs)(b:List aW)(c:Nat)(t:aA)(v:aW)(of:Rs)(d:Int)(g:Rs)(i:Int)(h1:c<b.length)(h2:b[c]? = some v)(h3:Cp 21 [v.rV.lo.pv] (ae of))(h4:Cp 24 [t.pv,ae x,ae of] (.aF [vI d,.aC]))(h5:Cp 21 [v.rV.hi.pv] (ae g))(h6:Cp 24 [t.pv,ae x,ae g] (.aF [vI i,.aC]))(h7:0≤d)(h8:i≤0)(h9:0<d)(bQ:i<0):ah x b c t (.aF [v.pv,.aC]) :=
 lD [1,3] [.a,.q,.t,.h 0 (.row c (aW.cells v)),dr 11 1 [.none,.none,.none,.none,.none,(.pv (ae of)),(.pv (.aF [vI d,.aC]))],.q,.a,dr 11 1 [.none,.none,.none,.none,.none,(.pv (ae g)),(.pv (.aF [vI i,.aC]))],.q,.a,.aR [.o,.o,.o,.o,.o,(.dec true),.o,.o,.o,.o,.o,.o,(.dec true),.o,.skip,.skip,.skip,.skip,.skip,.skip,.skip,.skip,(.dec true),(.dec true)],.a,.q] (y28 (ai h1) (ba aW.cells (rN c) h2) h3 h4 h5 h6 (bg h7) (bg h7) (bg h7) (bg h8) (bg h8) (bg h8) (bA h9) (bA h9) (bg h8) (bA h9) (bg h8) (bA bQ) (bA bQ) (bA bQ) (bA bQ) (bA bQ) (bA bQ) (bA bQ) (bA bQ) (bg h8) (bA bQ) (bg h8))
theorem jT(x:Rs)(b:List aW)(c:Nat)(t:aA)(v:aW)(of:Rs)(d:Int)(g:Rs)(i j:Int){r:PV}(h1:c<b.length)(h2:b[c]? = some v)(h3:Cp 21 [v.rV.lo.pv] (ae of))(h4:Cp 24 [t.pv,ae x,ae of] (.aF [vI d,.aC]))(h5:Cp 21 [v.rV.hi.pv] (ae g))(h6:Cp 24 [t.pv,ae x,ae g] (.aF [vI i,.aC]))(h7:0≤d)(h8:i≤0)(h9:0<d)(bQ:0≤i)(dU:Cp 17 [v.rV.lo.pv,v.rV.hi.pv] (vI j))(fP:j≠0)(k7:(c+1)<9223372036854775808)(hL:ah x b (c+1) t r):ah x b c t r :=
 lG [1,3] [.a,.q,.t,.h 0 (.row c (aW.cells v)),dr 11 1 [.none,.none,.none,.none,.none,(.pv (ae of)),(.pv (.aF [vI d,.aC]))],.q,.a,dr 11 1 [.none,.none,.none,.none,.none,(.pv (ae g)),(.pv (.aF [vI i,.aC]))],.q,.a,.aR [.o,.o,.o,.o,.o,(.dec true),.o,.o,.o,.o,.o,.o,(.dec true),.o,.o,.o,.o,.o,.o,.o,(.pv (vI j)),.o,(.dec false),(.dec true)],.f,.h 0 (iI (((c+1):Nat):Int)),.aG [1,2,4,33,34,35],.drop [10]] (y31 (ai h1) (ba aW.cells (rN c) h2) h3 h4 h5 h6 (bg h7) (bg h7) (bg h7) (bg h8) (bg h8) (bg h8) (bA h9) (bA h9) (bg h8) (bA h9) (bg h8) (bm bQ) (bm bQ) (bm bQ) (bm bQ) (bm bQ) (bm bQ) (bm bQ) dU (bm bQ) (bg h8) (bm bQ) (bg h8) (bf fP) (aJ k7)) hL
theorem tN(x:Rs)(b:List aW)(c:Nat)(t:aA)(v:aW)(of:Rs)(d:Int)(g:Rs)(i j:Int)(h1:c<b.length)(h2:b[c]? = some v)(h3:Cp 21 [v.rV.lo.pv] (ae of))(h4:Cp 24 [t.pv,ae x,ae of] (.aF [vI d,.aC]))(h5:Cp 21 [v.rV.hi.pv] (ae g))(h6:Cp 24 [t.pv,ae x,ae g] (.aF [vI i,.aC]))(h7:0≤d)(h8:i≤0)(h9:d≤0)(bQ:Cp 17 [v.rV.lo.pv,v.rV.hi.pv] (vI j))(dU:j=0):ah x b c t (.aF [v.pv,.aC]) :=
 lD [1,3] [.a,.q,.t,.h 0 (.row c (aW.cells v)),dr 11 1 [.none,.none,.none,.none,.none,(.pv (ae of)),(.pv (.aF [vI d,.aC]))],.q,.a,dr 11 1 [.none,.none,.none,.none,.none,(.pv (ae g)),(.pv (.aF [vI i,.aC]))],.q,.a,.aR [.o,.o,.o,.o,.o,(.dec true),.o,.o,.o,.o,.skip,.skip,(.dec false),.o,.o,.o,.o,.o,.o,.o,(.pv (vI j)),.o,.o,(.dec true)],.t,.q] (y29 (ai h1) (ba aW.cells (rN c) h2) h3 h4 h5 h6 (bg h7) (bg h7) (bg h7) (bg h8) (bg h8) (bg h8) (bm h9) (bm h9) (bg h8) (bm h9) (bg h8) rF rF rF rF rF rF rF bQ rF (bg h8) (bg h8) (aU dU))
theorem Bz(x:Rs)(b:List aW)(c:Nat)(t:aA)(v:aW)(of:Rs)(d:Int)(g:Rs)(i j:Int){r:PV}(h1:c<b.length)(h2:b[c]? = some v)(h3:Cp 21 [v.rV.lo.pv] (ae of))(h4:Cp 24 [t.pv,ae x,ae of] (.aF [vI d,.aC]))(h5:Cp 21 [v.rV.hi.pv] (ae g))(h6:Cp 24 [t.pv,ae x,ae g] (.aF [vI i,.aC]))(h7:0≤d)(h8:i≤0)(h9:d≤0)(bQ:Cp 17 [v.rV.lo.pv,v.rV.hi.pv] (vI j))(dU:j≠0)(fP:(c+1)<9223372036854775808)(hL:ah x b (c+1) t r):ah x b c t r :=
 lG [1,3] [.a,.q,.t,.h 0 (.row c (aW.cells v)),dr 11 1 [.none,.none,.none,.none,.none,(.pv (ae of)),(.pv (.aF [vI d,.aC]))],.q,.a,dr 11 1 [.none,.none,.none,.none,.none,(.pv (ae g)),(.pv (.aF [vI i,.aC]))],.q,.a,.aR [.o,.o,.o,.o,.o,(.dec true),.o,.o,.o,.o,.skip,.skip,(.dec false),.o,.o,.o,.o,.o,.o,.o,(.pv (vI j)),.o,.o,(.dec true)],.f,.h 0 (iI (((c+1):Nat):Int)),.aG [1,2,4,33,34,35],.drop [10]] (YU (ai h1) (ba aW.cells (rN c) h2) h3 h4 h5 h6 (bg h7) (bg h7) (bg h7) (bg h8) (bg h8) (bg h8) (bm h9) (bm h9) (bg h8) (bm h9) (bg h8) rF rF rF rF rF rF rF bQ rF (bg h8) (bg h8) (bf dU) (aJ fP)) hL
theorem Vj(x:Rs)(b:List aW)(c:Nat)(t:aA)(v:aW)(of:Rs)(d:Int)(g:Rs)(i:Int){r:PV}(h1:c<b.length)(h2:b[c]? = some v)(h3:Cp 21 [v.rV.lo.pv] (ae of))(h4:Cp 24 [t.pv,ae x,ae of] (.aF [vI d,.aC]))(h5:Cp 21 [v.rV.hi.pv] (ae g))(h6:Cp 24 [t.pv,ae x,ae g] (.aF [vI i,.aC]))(h7:0≤d)(h8:0<i)(h9:(c+1)<9223372036854775808)(hL:ah x b (c+1) t r):ah x b c t r :=
 lG [1,3] [.a,.q,.t,.h 0 (.row c (aW.cells v)),dr 11 1 [.none,.none,.none,.none,.none,(.pv (ae of)),(.pv (.aF [vI d,.aC]))],.q,.a,dr 11 1 [.none,.none,.none,.none,.none,(.pv (ae g)),(.pv (.aF [vI i,.aC]))],.q,.a,.aR [.o,.o,.o,.o,.o,(.dec true),.o,.skip,.skip,.skip,.skip,.skip,.skip,.skip,.skip,.skip,.skip,.skip,.skip,.skip,.skip,.skip,.skip,(.dec false)],.a,.h 0 (iI (((c+1):Nat):Int)),.aG [1,2,4,33,34,35],.drop [10]] (Ny (ai h1) (ba aW.cells (rN c) h2) h3 h4 h5 h6 (bg h7) (bg h7) (bg h7) (fc h8) (fc h8) (fc h8) (fc h8) (fc h8) (fc h8) (fc h8) (aJ h9)) hL
theorem XB(x:Rs)(b:List aW)(c:Nat)(t:aA)(v:aW)(of:Rs)(d:Int)(g:Rs)(i:Int){r:PV}(h1:c<b.length)(h2:b[c]? = some v)(h3:Cp 21 [v.rV.lo.pv] (ae of))(h4:Cp 24 [t.pv,ae x,ae of] (.aF [vI d,.aC]))(h5:Cp 21 [v.rV.hi.pv] (ae g))(h6:Cp 24 [t.pv,ae x,ae g] (.aF [vI i,.aC]))(h7:d<0)(h8:(c+1)<9223372036854775808)(hL:ah x b (c+1) t r):ah x b c t r :=
 lG [1,3] [.a,.q,.t,.h 0 (.row c (aW.cells v)),dr 11 1 [.none,.none,.none,.none,.none,(.pv (ae of)),(.pv (.aF [vI d,.aC]))],.q,.a,dr 11 1 [.none,.none,.none,.none,.none,(.pv (ae g)),(.pv (.aF [vI i,.aC]))],.q,.a,.aR [.o,.o,.o,.skip,.skip,(.dec false),.o,.skip,.skip,.skip,.skip,.skip,.skip,.skip,.skip,.skip,.skip,.skip,.skip,.skip,.skip,.skip,.skip],.a,.h 0 (iI (((c+1):Nat):Int)),.aG [1,2,4,33,34,35],.drop [10]] (HM (ai h1) (ba aW.cells (rN c) h2) h3 h4 h5 h6 (fc h7) (fc h7) (fc h7) rF rF rF rF rF rF (aJ h8)) hL
end da
end Go.Proofs.YtcpnocgollpbhaaGreatDoor.Sym.Path
end
