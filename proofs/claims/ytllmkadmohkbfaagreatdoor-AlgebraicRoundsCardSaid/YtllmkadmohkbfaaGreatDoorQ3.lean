/- Lemmas for the statements of this seat. -/
import Derived.Test.YtllmkadmohkbfaaGreatDoorU0
noncomputable section
namespace Go.Proofs.YtllmkadmohkbfaaGreatDoor.Sym.Path
open Go Tryz
set_option maxRecDepth 20000
set_option linter.unusedVariables false
namespace oZ
theorem e0(p q:Rs)(a:Bool)(h1:Cp 108 [ae p,ae q] (vB a)):Cp 42 [ae p,ae q] (vB a) :=
 eD func42 72 [1] [.q,.h 2 (.pv (vB a))] (y1 h1)
end oZ
namespace bq
@[reducible] def fn:Func:=Tryz.f56
def a7:List eH:=focus [0,2,0,0,2,1,2,0,0,2,0,0] [.code (ay fn)]
def inv1(p:List af)(BD:Nat):St:=⟨[(0,(.pv (ae p))),(8,(.pv (ae p))),(9,(eI (p.length:Int))),(10,(eI (BD:Int)))],[]⟩
@[reducible] def ah(p:List af)(BD:Nat)(r:PV):Prop:=L bp fn a7 (inv1 p BD) r
theorem e0(p:Rs)(h1:65<p.length):Cp 56 [ae p] (vI 4) :=
 eD func56 84 [1,1] [.q,.h 1 (iI (p.length:Int)),.t,.q] (y2 (an af.cells p) (aj h1))
theorem e1(p:Rs){r:PV}(h1:p.length≤65)(hL:ah p 0 r):Cp 56 [ae p] r :=
 eG func56 96 [1,1,1] [.q,.h 1 (iI (p.length:Int)),.f,.h 1 (iI (p.length:Int)),.aF [0,8,9,10]] (y3 (an af.cells p) (ar h1) (an af.cells p)) hL
theorem l10(p:Rs)(b:Nat)(v:af)(c:Bool)(h1:b<p.length)(h2:p[b]? = some v)(h3:Cp 111 [v.pv] (vB c))(h4:c=false):ah p b (vI 2) :=
 lD 141 [1,3,1,1] [.a,.q,.t,.h 0 (.row b (af.cells v)),.h 1 (.pv (vB c)),.t,.q] (y4 (aj h1) (bT af.cells (Eq.refl (((b:Nat):Int):Int)) h2) h3 (cv h4))
theorem cR(p:Rs)(b:Nat)(v:af)(c:Bool){r:PV}(h1:b<p.length)(h2:p[b]? = some v)(h3:Cp 111 [v.pv] (vB c))(h4:c=true)(h5:(b+1)<9223372036854775808)(hL:ah p (b+1) r):ah p b r :=
 lG 144 [1,3,1,1,1] [.a,.q,.t,.h 0 (.row b (af.cells v)),.h 1 (.pv (vB c)),.f,.h 0 (iI (((b+1):Nat):Int)),.aF [0,8,9,10],.drop [4]] (y5 (aj h1) (bT af.cells (Eq.refl (((b:Nat):Int):Int)) h2) h3 (aO h4) (aM h5)) hL
theorem kM(p:Rs)(b k:Nat)(v:af)(c:Int)(h1:p.length≤b)(h2:0<p.length)(h3:ax ((p.length:Int)-1))(h4:((p.length:Int)-1)=(k:Int))(h5:p[k]? = some v)(h6:Cp 124 [v.pv] (vI c))(h7:c=0):ah p b (vI 8) :=
 lD 141 [1,1,1,1,1,1,1,1,1,3,1,1,1,1,1,1] [.a,.q,.f,.aR [.o,(iI (p.length:Int)),.o,.o,.o,.o,(iI (p.length:Int)),(iI ((p.length:Int)-1)),(.row k (af.cells v)),.o,(.pv (vI c)),.o,(.dec true)],.t,.q] (Hq (ar h1) (an af.cells p) (aj h2) (aj h2) (aj h2) (an af.cells p) (aj h2) (aT h3) (aj h2) (bT af.cells h4 h5) (aj h2) (aj h2) h6 (aj h2) (aj h2) (a8 h7))
theorem tq(p:Rs)(b k:Nat)(v:af)(c:Int)(h1:p.length≤b)(h2:0<p.length)(h3:ax ((p.length:Int)-1))(h4:((p.length:Int)-1)=(k:Int))(h5:p[k]? = some v)(h6:Cp 124 [v.pv] (vI c))(h7:c≠0):ah p b (vI 0) :=
 lD 144 [1,1,1,1,1,1,1,1,1,3,1,1,1,1,1,1] [.a,.q,.f,.aR [.o,(iI (p.length:Int)),.o,.o,.o,.o,(iI (p.length:Int)),(iI ((p.length:Int)-1)),(.row k (af.cells v)),.o,(.pv (vI c)),.o,(.dec true)],.f,.q] (Hq (ar h1) (an af.cells p) (aj h2) (aj h2) (aj h2) (an af.cells p) (aj h2) (aT h3) (aj h2) (bT af.cells h4 h5) (aj h2) (aj h2) h6 (aj h2) (aj h2) (bg h7))
theorem Ew(p:Rs)(b:Nat)(h1:p.length≤b)(h2:p.length≤0):ah p b (vI 0) :=
 lD 144 [1,1,1,1,1,1,1,1,1,1,1] [.a,.q,.f,.aR [.o,(iI (p.length:Int)),.o,.o,.skip,.skip,.skip,.skip,.skip,.skip,.skip,.skip,(.dec false)],.a,.q] (Dg (ar h1) (an af.cells p) (ar h2) (ar h2) (ar h2) (ar h2) (ar h2) (ar h2) (ar h2) (ar h2) (ar h2))
end bq
namespace o0
theorem e2(p:Rs)(a:Int)(b c d g i:Rs)(h1:Cp 56 [ae p] (vI a))(h2:a=0)(h3:p.length≠0)(h4:Cp 162 [ae p] (ae b))(h5:Cp 161 [ae p,ae b] (ae c))(h6:Cp 160 [ae p,ae c] (.aB [ae d,ae g]))(h7:Cp 163 [ae d] (ae i)):Cp 78 [ae p] (.aB [ae i,vI 0]) :=
 eD func78 114 [1,1,1,1,1,1,1,1] [.q,.h 1 (.pv (vI a)),.q,.f,.h 1 (iI (p.length:Int)),.f,.aR [.o,.o,.o,(.pv (ae b)),(.pv (ae c)),(.pv (.aB [ae d,ae g]))],.h 1 (.pv (ae i))] (y8 h1 (gf h2) (an af.cells p) (aA h3) h4 h5 h6 h7)
end o0
namespace nA
theorem e1(p:Rs)(a:Int)(b:Rs)(h1:Cp 56 [ae p] (vI a))(h2:a=0)(h3:Cp 162 [ae p] (ae b)):Cp 84 [ae p] (.aB [ae b,vI 0]) :=
 eD func84 93 [1,1,1] [.q,.h 1 (.pv (vI a)),.q,.f,.h 1 (.pv (ae b))] (y3 h1 (gf h2) h3)
end nA
namespace qf
theorem e1(p q:Rs)(a:Int)(b:Rs)(h1:Cp 167 [ae p,ae q] (vI a))(h2:a=0)(h3:Cp 161 [ae p,ae q] (ae b)):Cp 85 [ae p,ae q] (.aB [ae b,vI 0]) :=
 eD func85 93 [1,1,1] [.q,.h 2 (.pv (vI a)),.q,.f,.h 2 (.pv (ae b))] (y3 h1 (gf h2) h3)
end qf
namespace cV
@[reducible] def fn:Func:=Tryz.f106
def a7:List eH:=focus [0,2,0,2,0,0,2,0,0] [.code (ay fn)]
def inv1(cq l:List af)(sK:Nat):St:=⟨[(3,(.row 17 0 cq.length 3)),(6,(.pv (ae l))),(7,(eI (l.length:Int))),(8,(eI (sK:Int)))],[(17,(.pure ((cq:List af).map af.cells).flatten))]⟩
@[reducible] def ah(cq l:List af)(sK:Nat)(r:PV):Prop:=L bp fn a7 (inv1 cq l sK) r
def oN:List eH:=focus [0,2,0,2,0,0,2,0,0,0,0,2,0,1,2,2,2,2,0,0,0] [.code (ay fn)]
def inv2(cq:List af):St:=⟨[(3,(.row 17 0 cq.length 3))],[(17,(.pure ((cq:List af).map af.cells).flatten))]⟩
@[reducible] def bK(cq:List af)(r:PV):Prop:=L bp fn oN (inv2 cq) r
theorem e0 (l : Rs) {r : PV}  (hL : ah [] l 0 r) : Cp 106 [ae l] r :=
 eG func106 87 [1] [.q,.h 0 .nil,.kx 3 17 3,.h 1 (iI (l.length:Int)),.aF [3,6,7,8]] (y1 (an af.cells l)) hL
theorem l10(b l:Rs)(c:Nat)(v d:af){r:PV}(h1:c<l.length)(h2:l[c]? = some v)(h3:Cp 70 [v.pv,(⟨false,[],[]⟩:af).pv] d.pv)(h4:((b++[d]):Rs).length*56≤140737488355328)(h5:(c+1)<9223372036854775808)(hL:ah (b++[d]) l (c+1) r):ah b l c r :=
 lG 126 [1,3,1,6,1] [.a,.q,.t,.h 0 (.row c (af.cells v)),.aR [.o,.o,.o,(.pv d.pv),.o,(.app ((b++[d]):Rs).length (((b++[d]):Rs).map af.cells).flatten)],.h 0 (iI (((c+1):Nat):Int)),.aF [3,6,7,8],.drop [16,5]] (y5 (aj h1) (bT af.cells (Eq.refl (((c:Nat):Int):Int)) h2) h3 (iK aX (b:Rs) ([d]:Rs) 56 (Eq.refl (b:Rs).length) (Eq.refl ([d]:Rs).length) h4 rfl) (aM h5)) hL
theorem cR(b l:Rs)(c:Nat){r:PV}(h1:l.length≤c)(hL:bK b r):ah b l c r :=
 lG 123 [1] [.a,.q,.f,.aF [3]] (y1 (ar h1)) hL
theorem Ac(b:Rs)(k:Nat)(v:af)(c:Int)(u:Nat){r:PV}(h1:0<b.length)(h2:ax ((b.length:Int)-1))(h3:((b.length:Int)-1)=(k:Int))(h4:k<b.length)(h5:b[k]? = some v)(h6:Cp 124 [v.pv] (vI c))(h7:c=0)(h8:((b.length:Int)-1)=(u:Int))(h9:u≤(b:Rs).length)(hL:bK (b.take u) r):bK b r :=
 lG 150 [1,1,1,1,1,1,2,1,2,1,1,1,1,1,1,5,1] [.a,.aR [.o,.o,.o,.o,.o,.o,.o,(iI ((b.length:Int)-1)),(.nat k),(.Hv [vB v.neg,aa v.num,aa v.den]),(.pv (vI c)),.o,(.dec true)],.t,.aR [.o,.o,.o,(iI ((b.length:Int)-1)),(.js 0 ((b.take u).length) [])],.cut 17 (u*3) (((b.take u):Rs).map af.cells).flatten,.aF [3]] (P4 (aj h1) (aj h1) (aj h1) (aj h1) (aT h2) (aj h1) (cj h3 h4) (aj h1) (sI aX h5) (aj h1) h6 (aj h1) (aj h1) (a8 h7) (aT h2) (F7 (b:Rs) h8 h9) (uW aX (b:Rs) u)) hL
theorem CN(b:Rs)(k:Nat)(v:af)(c:Int)(h1:0<b.length)(h2:ax ((b.length:Int)-1))(h3:((b.length:Int)-1)=(k:Int))(h4:k<b.length)(h5:b[k]? = some v)(h6:Cp 124 [v.pv] (vI c))(h7:c≠0):bK b (ae b) :=
 lD 156 [1,1,1,1,1,1,2,1,2,1,1,1,1,1,3] [.a,.aR [.o,.o,.o,.o,.o,.o,.o,(iI ((b.length:Int)-1)),(.nat k),(.Hv [vB v.neg,aa v.num,aa v.den]),(.pv (vI c)),.o,(.dec true)],.f,.q,.fW 2 ((b:Rs).map af.cells)] (KL (aj h1) (aj h1) (aj h1) (aj h1) (aT h2) (aj h1) (cj h3 h4) (aj h1) (sI aX h5) (aj h1) h6 (aj h1) (aj h1) (bg h7) (df aX (b:Rs) (Eq.refl (b:Rs).length)))
theorem Mt(b:Rs)(h1:b.length≤0):bK b (ae b) :=
 lD 156 [1,1,1,1,1,1,1,1,1,3] [.a,.aR [.o,.o,.o,.o,.skip,.skip,.skip,.skip,.skip,.skip,.skip,.skip,(.dec false)],.a,.q,.fW 2 ((b:Rs).map af.cells)] (F8 (ar h1) (ar h1) (ar h1) (ar h1) (ar h1) (ar h1) (ar h1) (ar h1) (ar h1) (df aX (b:Rs) (Eq.refl (b:Rs).length)))
end cV
namespace ft
@[reducible] def fn:Func:=Tryz.f160
def a7:List eH:=focus [0,2,0,2,0,2,0,0,0] [.code (ay fn)]
def inv1(q Mx vz:List af):St:=⟨[(1,(.pv (ae q))),(6,(.pv (ae Mx))),(7,(.pv (ae vz)))],[]⟩
@[reducible] def ah(q Mx vz:List af)(r:PV):Prop:=L bp fn a7 (inv1 q Mx vz) r
theorem e0(p q a:Rs){r:PV}(h1:Cp 106 [ae p] (ae a))(hL:ah q [] a r):Cp 160 [ae p,ae q] r :=
 eG func160 87 [1] [.q,.q,.h 1 (.pv (ae a)),.aF [1,6,7]] (y1 h1) hL
theorem l10(q b c:Rs)(k:Nat)(v:af)(k1:Nat)(v1 d:af)(g:Int)(of:af)(i:Rs)(j:af)(l:Rs){r:PV}(h1:q.length≤c.length)(h2:ax ((c.length:Int)-1))(h3:((c.length:Int)-1)=(k:Int))(h4:c[k]? = some v)(h5:ax ((q.length:Int)-1))(h6:((q.length:Int)-1)=(k1:Int))(h7:q[k1]? = some v1)(h8:Cp 148 [v.pv,v1.pv] (.aB [d.pv,vI g]))(h9:ax ((c.length:Int)-(q.length:Int)))(dh:Cp 89 [vI 1] of.pv)(gb:Cp 244 [ae b,(ae [d]),of.pv,(vI ((c.length:Int)-(q.length:Int)))] (ae i))(kh:Cp 88 [d.pv] j.pv)(pB:Cp 244 [ae c,ae q,j.pv,(vI ((c.length:Int)-(q.length:Int)))] (ae l))(hL:ah q i l r):ah q b c r :=
 lG 132 [1,1,1,1,1,3,1,1,3,1,1,1,1,3,1,1,1,1] [.a,.aR [.o,(iI (c.length:Int)),.o,(iI (q.length:Int))],.t,dr 18 1 [.none,.none,(iI (c.length:Int)),(iI ((c.length:Int)-1)),(.row k (af.cells v)),.none,.none,.none,(iI (q.length:Int)),(iI ((q.length:Int)-1)),(.row k1 (af.cells v1)),.none,(.pv (.aB [d.pv,vI g]))],.aR [.o,(iI (c.length:Int)),.o,(iI (q.length:Int)),(iI ((c.length:Int)-(q.length:Int)))],dr 6 1 [.none,.none,(.js 0 0 (([d]:Rs).map af.cells)),(.pv of.pv),.none,(.pv (ae i))],.aR [.o,.o,.o,(.pv j.pv),.o,(.pv (ae l))],.aF [1,6,7],.drop [8]] (TQ (an af.cells c) (an af.cells q) (dy h1) (an af.cells c) (aT h2) (bT af.cells h3 h4) (an af.cells q) (aT h5) (bT af.cells h6 h7) h8 (an af.cells c) (an af.cells q) (aT h9) (jY aX ([d]:Rs)) dh gb kh pB) hL
theorem cR(q b c:Rs)(h1:c.length<q.length):ah q b c (.aB [ae b,ae c]) :=
 lD 120 [1,1,1] [.a,.aR [.o,(iI (c.length:Int)),.o,(iI (q.length:Int))],.f,.q] (y3 (an af.cells c) (an af.cells q) (bQ h1))
end ft
namespace b8
@[reducible] def fn:Func:=Tryz.f161
def a7:List eH:=focus [0,2,0,2,0,0,0] [.code (ay fn)]
def inv1(Ru Rv:List af):St:=⟨[(0,(.pv (ae Ru))),(1,(.pv (ae Rv)))],[]⟩
@[reducible] def ah(Ru Rv:List af)(r:PV):Prop:=L bp fn a7 (inv1 Ru Rv) r
theorem e0(p q a b:Rs){r:PV}(h1:Cp 163 [ae p] (ae a))(h2:Cp 163 [ae q] (ae b))(hL:ah a b r):Cp 161 [ae p,ae q] r :=
 eG func161 81 [1,1] [.q,.aR [.o,(.pv (ae a)),.o,(.pv (ae b))],.aF [0,1]] (y2 h1 h2) hL
theorem l10(b c d g i:Rs){r:PV}(h1:0<c.length)(h2:Cp 160 [ae b,ae c] (.aB [ae d,ae g]))(h3:Cp 163 [ae g] (ae i))(hL:ah c i r):ah b c r :=
 lG 114 [1,1,1,1] [.a,.h 1 (iI (c.length:Int)),.t,.h 2 (.pv (.aB [ae d,ae g])),.h 2 (.pv (ae i)),.aF [0,1]] (y4 (an af.cells c) (aj h1) h2 h3) hL
theorem cR(b c:Rs)(h1:c.length≤0):ah b c (ae b) :=
 lD 114 [1,1] [.a,.h 1 (iI (c.length:Int)),.f,.q] (y2 (an af.cells c) (ar h1))
end b8
namespace ei
@[reducible] def fn:Func:=Tryz.f162
def a7:List eH:=focus [0,2,0,2,0,0,2,0,0] [.code (ay fn)]
def inv1(Ag p:List af)(sK:Nat):St:=⟨[(3,(.row 21 0 Ag.length 3)),(6,(.pv (ae p))),(7,(eI (p.length:Int))),(8,(eI (sK:Int)))],[(21,(.pure ((Ag:List af).map af.cells).flatten))]⟩
@[reducible] def ah(Ag p:List af)(sK:Nat)(r:PV):Prop:=L bp fn a7 (inv1 Ag p sK) r
theorem e0 (p : Rs) {r : PV}  (hL : ah [] p 0 r) : Cp 162 [ae p] r :=
 eG func162 87 [1] [.q,.h 0 .nil,.kx 3 21 3,.h 1 (iI (p.length:Int)),.aF [3,6,7,8]] (y1 (an af.cells p)) hL
theorem l10(b p:Rs)(c:Nat)(v of d:af){r:PV}(h1:c<p.length)(h2:p[c]? = some v)(h3:0<c)(h4:Cp 89 [(vI (c:Int))] of.pv)(h5:Cp 245 [of.pv,v.pv] d.pv)(h6:((b++[d]):Rs).length*56≤140737488355328)(h7:(c+1)<9223372036854775808)(hL:ah (b++[d]) p (c+1) r):ah b p c r :=
 lG 135 [1,3,1,1,1,6,1] [.a,.q,.t,.h 1 (.row c (af.cells v)),.q,.t,dr 6 2 [.none,.none,(.pv of.pv),.none,(.pv d.pv),.none,(.app ((b++[d]):Rs).length (((b++[d]):Rs).map af.cells).flatten)],.h 0 (iI (((c+1):Nat):Int)),.aF [3,6,7,8],.drop [20,5]] (y7 (aj h1) (bT af.cells (Eq.refl (((c:Nat):Int):Int)) h2) (aj h3) h4 h5 (iK aX (b:Rs) ([d]:Rs) 56 (Eq.refl (b:Rs).length) (Eq.refl ([d]:Rs).length) h6 rfl) (aM h7)) hL
theorem cR(b p:Rs)(c:Nat)(v:af){r:PV}(h1:c<p.length)(h2:p[c]? = some v)(h3:c≤0)(h4:(c+1)<9223372036854775808)(hL:ah b p (c+1) r):ah b p c r :=
 lG 135 [1,3,1,1] [.a,.q,.t,.h 1 (.row c (af.cells v)),.q,.f,.h 0 (iI (((c+1):Nat):Int)),.aF [3,6,7,8],.drop [5]] (y4 (aj h1) (bT af.cells (Eq.refl (((c:Nat):Int):Int)) h2) (ar h3) (aM h4)) hL
theorem kM(b p:Rs)(c:Nat)(d:Rs)(h1:p.length≤c)(h2:Cp 106 [ae b] (ae d)):ah b p c (ae d) :=
 lD 120 [1,3,1] [.a,.q,.f,.fW 3 ((b:Rs).map af.cells),.h 1 (.pv (ae d))] (y3 (ar h1) (df aX (b:Rs) (Eq.refl (b:Rs).length)) h2)
end ei
namespace ks
theorem e0(p:Rs)(h1:p.length=0):Cp 163 [ae p] (ae []) :=
 eD func163 84 [1,1] [.q,.h 1 (iI (p.length:Int)),.t,.q] (y2 (an af.cells p) (aN h1))
theorem e1(p:Rs)(of:af)(k:Nat)(v a:af)(b:Int)(c:Rs)(h1:p.length≠0)(h2:Cp 89 [vI 1] of.pv)(h3:ax ((p.length:Int)-1))(h4:((p.length:Int)-1)=(k:Int))(h5:p[k]? = some v)(h6:Cp 148 [of.pv,v.pv] (.aB [a.pv,vI b]))(h7:Cp 244 [(ae []),ae p,a.pv,vI 0] (ae c)):Cp 163 [ae p] (ae c) :=
 eD func163 93 [1,1,1,1,1,3,1,1] [.q,.h 1 (iI (p.length:Int)),.f,dr 13 1 [(.pv of.pv),.none,.none,(iI (p.length:Int)),(iI ((p.length:Int)-1)),(.row k (af.cells v)),.none,(.pv (.aB [a.pv,vI b]))],.h 2 (.pv (ae c))] (y8 (an af.cells p) (aA h1) h2 (an af.cells p) (aT h3) (bT af.cells h4 h5) h6 h7)
end ks
namespace kZ
theorem e0(p q:Rs)(a:Int)(h1:Cp 56 [ae p] (vI a))(h2:a≠0):Cp 167 [ae p,ae q] (vI a) :=
 eD func167 90 [1,1] [.q,.h 1 (.pv (vI a)),.q,.t,.q] (y2 h1 (lx h2))
theorem e1(p q:Rs)(a b:Int)(h1:Cp 56 [ae p] (vI a))(h2:a=0)(h3:Cp 56 [ae q] (vI b)):Cp 167 [ae p,ae q] (vI b) :=
 eD func167 93 [1,1,1] [.q,.h 1 (.pv (vI a)),.q,.f,.h 1 (.pv (vI b))] (y3 h1 (gf h2) h3)
end kZ
namespace iq
@[reducible] def fn:Func:=Tryz.f208
def a7:List eH:=focus [0,2,0,2,0,0,2,0,0] [.code (ay fn)]
def inv1(p:List af)(Ms:Int)(x jI:af):St:=⟨[(0,(.pv (ae p))),(3,(.ptr 3 0)),(4,(.ptr 4 0)),(5,(.ptr 5 0)),(6,(eI Ms))],[(3,(.lit [(eB x.neg),(.pv (aa x.num)),(.pv (aa x.den))])),(4,(.lit [(eB false),(.pv (.list [])),(.pv (.list []))])),(5,(.lit [(eB jI.neg),(.pv (aa jI.num)),(.pv (aa jI.den))]))]⟩
@[reducible] def ah(p:List af)(Ms:Int)(x jI:af)(r:PV):Prop:=L bp fn a7 (inv1 p Ms x jI) r
theorem e0(p:Rs)(x:af){r:PV}(h1:ax ((p.length:Int)-1))(hL:ah p ((p.length:Int)-1) x (⟨false,[],[]⟩:af) r):Cp 208 [ae p,x.pv] r :=
 eG func208 87 [1,1] [.q,.q,.aR [.o,(iI (p.length:Int)),(iI ((p.length:Int)-1))],.aF [0,3,4,5,6],.ord [3,4,5]] (y2 (an af.cells p) (aT h1)) hL
theorem l10(p:Rs)(b:Int)(x c d:af)(k:Nat)(v g:af){r:PV}(h1:0≤b)(h2:Cp 245 [c.pv,x.pv] d.pv)(h3:b=(k:Int))(h4:p[k]? = some v)(h5:Cp 70 [d.pv,v.pv] g.pv)(h6:ax (b-1))(hL:ah p (b-1) x g r):ah p b x c r :=
 lG 120 [1,1,3,1,1] [.a,.q,.t,dr 8 1 [.none,.none,(.pv d.pv),.none,.none,(.row k (af.cells v)),.none,(.pv g.pv)],.h 1 (iI (b-1)),.aF [0,3,4,5,6]] (y5 (fo h1) h2 (bT af.cells h3 h4) h5 (aT h6)) hL
theorem cR(p:Rs)(b:Int)(x c:af)(h1:b<0):ah p b x c c.pv :=
 lD 120 [1] [.a,.q,.f,.q] (y1 (gM h1))
end iq
namespace gn
@[reducible] def fn:Func:=Tryz.f209
def a7:List eH:=focus [0,2,0,0,2,0,2,1,2,0,2,0,0,2,0,0] [.code (ay fn)]
def inv1(p:List af)(Es:Int)(rV cU:ai):St:=⟨[(0,(.pv (ae p))),(3,(.ptr 3 0)),(4,(.ptr 4 0)),(7,(.ptr 7 0)),(8,(eI Es))],[(3,(.lit [(eB rV.lo.neg),(.pv (aa rV.lo.num)),(.pv (aa rV.lo.den)),(eB rV.hi.neg),(.pv (aa rV.hi.num)),(.pv (aa rV.hi.den))])),(4,(.lit [(eB false),(.pv (.list [])),(.pv (.list [])),(eB false),(.pv (.list [])),(.pv (.list []))])),(7,(.lit [(eB cU.lo.neg),(.pv (aa cU.lo.num)),(.pv (aa cU.lo.den)),(eB cU.hi.neg),(.pv (aa cU.hi.num)),(.pv (aa cU.hi.den))]))]⟩
@[reducible] def ah(p:List af)(Es:Int)(rV cU:ai)(r:PV):Prop:=L bp fn a7 (inv1 p Es rV cU) r
theorem e1(p:Rs)(rV:ai)(a:Int){r:PV}(h1:Cp 56 [ae p] (vI a))(h2:a=0)(h3:ax ((p.length:Int)-1))(hL:ah p ((p.length:Int)-1) rV (⟨(⟨false,[],[]⟩:af),(⟨false,[],[]⟩:af)⟩:ai) r):Cp 209 [ae p,rV.pv] r :=
 eG func209 108 [1,1,1,1] [.q,.h 1 (.pv (vI a)),.q,.f,.q,.aR [.o,(iI (p.length:Int)),(iI ((p.length:Int)-1))],.aF [0,3,4,7,8],.ord [3,4,7]] (y4 h1 (gf h2) (an af.cells p) (aT h3)) hL
theorem l10(p:Rs)(b:Int)(rV c d:ai)(k:Nat)(v:af)(g i:ai){r:PV}(h1:0≤b)(h2:Cp 260 [c.pv,rV.pv] d.pv)(h3:b=(k:Int))(h4:p[k]? = some v)(h5:Cp 261 [v.pv] g.pv)(h6:Cp 259 [d.pv,g.pv] i.pv)(h7:ax (b-1))(hL:ah p (b-1) rV i r):ah p b rV c r :=
 lG 141 [1,1,3,1,1,1] [.a,.q,.t,dr 9 1 [.none,.none,(.pv d.pv),.none,.none,(.row k (af.cells v)),.none,(.pv g.pv),(.pv i.pv)],.h 1 (iI (b-1)),.aF [0,3,4,7,8]] (y6 (fo h1) h2 (bT af.cells h3 h4) h5 h6 (aT h7)) hL
theorem cR(p:Rs)(b:Int)(rV c:ai)(h1:b<0):ah p b rV c (.aB [c.pv,vI 0]) :=
 lD 141 [1] [.a,.q,.f,.q] (y1 (gM h1))
end gn
namespace qg
theorem e2(p q:Rs)(a:Int)(b c:Rs)(h1:Cp 167 [ae p,ae q] (vI a))(h2:a=0)(h3:q.length≠0)(h4:Cp 160 [ae p,ae q] (.aB [ae b,ae c])):Cp 242 [ae p,ae q] (.aB [ae b,ae c,vI 0]) :=
 eD func242 114 [1,1,1,1,1] [.q,.h 2 (.pv (vI a)),.q,.f,.h 1 (iI (q.length:Int)),.f,.h 2 (.pv (.aB [ae b,ae c])),.q] (y5 h1 (gf h2) (an af.cells q) (aA h3) h4)
end qg
namespace n7
theorem e1(p:Rs)(c:af)(a:Int)(b:Rs)(h1:Cp 56 [ae p] (vI a))(h2:a=0)(h3:Cp 244 [(ae []),ae p,c.pv,vI 0] (ae b)):Cp 243 [ae p,c.pv] (.aB [ae b,vI 0]) :=
 eD func243 93 [1,1,1] [.q,.h 1 (.pv (vI a)),.q,.f,.h 2 (.pv (ae b))] (y3 h1 (gf h2) h3)
end n7
namespace gr
@[reducible] def fn:Func:=Tryz.f244
def a7:List eH:=focus [0,2,0,2,0,2,0,0,2,0,0] [.code (ay fn)]
def inv1(shift:Int)(m:Nat)(q:List af)(wU:Nat)(c:af)(Ey:List af):St:=⟨[(3,(eI shift)),(6,(.ptr 6 0)),(9,(.row 19 0 m 3)),(23,(.pv (ae q))),(24,(eI (q.length:Int))),(25,(eI (wU:Int)))],[(6,(.lit [(eB c.neg),(.pv (aa c.num)),(.pv (aa c.den))])),(19,(.pure ((Ey:List af).map af.cells).flatten))]⟩
@[reducible] def ah(shift:Int)(m:Nat)(q:List af)(wU:Nat)(c:af)(Ey:List af)(r:PV):Prop:=L bp fn a7 (inv1 shift m q wU c Ey) r
theorem e0(p q:Rs)(c:af)(a:Int)(m:Nat){r:PV}(h1:ax ((q.length:Int)+a))(h2:(max (p.length:Int) ((q.length:Int)+a))=(m:Int))(h3:56*m≤140737488355328)(h4:(min p.length m)≤(List.replicate m (⟨false,[],[]⟩:af):Rs).length)(hL:ah a m q 0 c (p.take (min p.length m)++(List.replicate m (⟨false,[],[]⟩:af)).drop (min p.length m)) r):Cp 244 [ae p,ae q,c.pv,vI a] r :=
 eG func244 93 [1,1,1,1,5,4,1] [.q,.aR [.o,(iI (p.length:Int)),.o,(iI (q.length:Int)),.o,(iI ((q.length:Int)+a)),(iI (max (p.length:Int) ((q.length:Int)+a))),(.app m ((List.replicate m (⟨false,[],[]⟩:af):Rs).map af.cells).flatten)],.h 2 (.app (min p.length m) (((p.take (min p.length m)++(List.replicate m (⟨false,[],[]⟩:af)).drop (min p.length m)):Rs).map af.cells).flatten),.h 1 (iI (q.length:Int)),.aF [3,6,9,23,24,25],.ord [6,19]] (y7 (an af.cells p) (an af.cells q) (qC h1) (H8 (p.length:Int) ((q.length:Int)+a)) (sR af.cells (⟨false,[],[]⟩:af) 56 m h2 h3 rfl) (Mn aX (List.replicate m (⟨false,[],[]⟩:af):Rs) (p:Rs) (Eq.refl (min p.length m)) h4) (an af.cells q)) hL
theorem l10(b:Int)(m:Nat)(q:Rs)(d:Nat)(c:af)(g:Rs)(v:af)(k:Nat)(v1 i j:af)(k1:Nat){r:PV}(h1:d<q.length)(h2:q[d]? = some v)(h3:ax ((d:Int)+b))(h4:((d:Int)+b)=(k:Int))(h5:k<m)(h6:g[k]? = some v1)(h7:Cp 245 [c.pv,v.pv] i.pv)(h8:Cp 70 [v1.pv,i.pv] j.pv)(h9:((d:Int)+b)=(k1:Int))(dh:k1<m)(gb:k1<g.length)(kh:(d+1)<9223372036854775808)(hL:ah b m q (d+1) c (g.set k1 j) r):ah b m q d c g r :=
 lG 132 [1,3,1,1,2,2,1,1,2,2,1] [.a,.q,.t,.h 1 (.row d (af.cells v)),dr 15 1 [.none,.none,.none,(iI ((d:Int)+b)),.none,.none,.none,(iI ((d:Int)+b)),(.nat k),(.Hv [vB v1.neg,aa v1.num,aa v1.den]),.none,.none,(.pv i.pv),(.pv j.pv),(.nat k1),(.cells (.pure (((g.set k1 j):Rs).map af.cells).flatten))],.h 0 (iI (((d+1):Nat):Int)),.aF [3,6,9,23,24,25],.drop [11]] (Dg (aj h1) (bT af.cells (Eq.refl (((d:Nat):Int):Int)) h2) (qC h3) (qC h3) (cj h4 h5) (sI aX h6) h7 h8 (cj h9 dh) (hJ aX (g:Rs) j gb) (aM kh)) hL
theorem cR(b:Int)(m:Nat)(q:Rs)(d:Nat)(c:af)(g i:Rs)(h1:q.length≤d)(h2:m=g.length)(h3:Cp 106 [ae g] (ae i)):ah b m q d c g (ae i) :=
 lD 126 [1,3,1] [.a,.q,.f,.fW 9 ((g:Rs).map af.cells),.h 1 (.pv (ae i))] (y3 (ar h1) (df aX (g:Rs) h2) h3)
end gr
namespace mP
theorem e0   : Cp 17 [.az] (vI 0) :=
 eD func17 84 [] [.q,.q,.a,.q] True.intro
theorem e1 (e : Int)  : Cp 17 [(.iface 67 (vI e))] (vI e) :=
 eD func17 108 [] [.q,.q,.a,.q,.q,.a,.q] True.intro
end mP
namespace o4
theorem e0(a b:ai)(c d:Bool)(h1:Cp 19 [a.lo.pv,b.lo.pv] (vB c))(h2:c=true)(h3:Cp 19 [a.hi.pv,b.hi.pv] (vB d)):Cp 18 [a.pv,b.pv] (vB d) :=
 eD func18 72 [1,1,1,1,1,1,1,1] [.q,.aR [.o,.o,.o,.o,(.pv (vB c)),.o,.o,.o,.o,.o,(.pv (vB d)),(.dec true)]] (y8 h1 h2 h2 h2 h2 h2 h3 h2)
end o4
namespace u6
theorem e0(a b:ai)(c d:ByteArray)(h1:Cp 128 [a.pv] b.pv)(h2:Cp 61 [b.lo.pv] (.str c))(h3:c.size+(ByteArray.mk #[46,46]).size<9223372036854775808)(h4:Cp 61 [b.hi.pv] (.str d))(h5:(c++(ByteArray.mk #[46,46])).size+d.size<9223372036854775808):Cp 60 [a.pv] (.str ((c++(ByteArray.mk #[46,46]))++d)) :=
 eD func60 78 [1,1,1,1,1] [.q,.h 1 (.pv b.pv),dr 8 1 [.none,.none,(.pv (.str c)),(.pv (.str (c++(ByteArray.mk #[46,46])))),.none,.none,(.pv (.str d)),(.pv (.str ((c++(ByteArray.mk #[46,46]))++d)))]] (y5 h1 h2 (wI h3) h4 (wI h5))
end u6
namespace tx
theorem e0(x a b:af)(h1:Cp 91 [x.pv,(⟨false,[],[]⟩:af).pv] a.pv)(h2:Cp 91 [x.pv,(⟨false,[],[]⟩:af).pv] b.pv):Cp 65 [x.pv] ((⟨a,b⟩:ai).pv) :=
 eD func65 72 [1,1] [.q,dr 7 1 [.none,.none,(.pv a.pv),.none,.none,(.pv b.pv)]] (y2 h1 h2)
end tx
namespace j5
theorem e0(a b:af)(c d:Bool)(h1:a.neg=b.neg)(h2:Cp 149 [aa a.num,aa b.num] (vB c))(h3:c=true)(h4:Cp 149 [aa a.den,aa b.den] (vB d)):Cp 73 [a.pv,b.pv] (vB d) :=
 eD func73 72 [1,1,1,1,1,1,1,1,1,1,1,1,1,1] [.q,.aR [.o,.o,.o,.o,.o,.o,.o,.o,.o,.o,(.pv (vB c)),(.dec true),.o,.o,.o,.o,.o,(.pv (vB d)),(.dec true)]] (Lk (pM h1) (pM h1) (pM h1) (pM h1) (pM h1) h2 (pM h1) h3 h3 h3 h3 h3 h4 h3)
theorem e1(a b:af)(c:Bool)(h1:a.neg=b.neg)(h2:Cp 149 [aa a.num,aa b.num] (vB c))(h3:c=false):Cp 73 [a.pv,b.pv] (vB false) :=
 eD func73 72 [1,1,1,1,1,1,1,1,1,1,1,1,1] [.q,.aR [.o,.o,.o,.o,.o,.o,.o,.o,.o,.o,(.pv (vB c)),(.dec true),.o,.skip,.skip,.skip,.skip,.skip,(.dec false)]] (Js (pM h1) (pM h1) (pM h1) (pM h1) (pM h1) h2 (pM h1) h3 h3 h3 h3 h3 h3)
theorem e2(a b:af)(h1:a.neg≠b.neg):Cp 73 [a.pv,b.pv] (vB false) :=
 eD func73 72 [1,1,1,1,1,1,1,1,1,1,1] [.q,.aR [.o,.o,.o,.o,.o,.o,.skip,.skip,.skip,.skip,.skip,(.dec false),.o,.skip,.skip,.skip,.skip,.skip]] (Dg (uV h1) (uV h1) (uV h1) (uV h1) (uV h1) (uV h1) (Eq.refl false) (Eq.refl false) (Eq.refl false) (Eq.refl false) (Eq.refl false))
end j5
namespace eK
@[reducible] def fn:Func:=Tryz.f108
def a7:List eH:=focus [0,2,0,0,2,1,2,0,0,2,0,0] [.code (ay fn)]
def inv1(a b:List af)(Bx:Nat):St:=⟨[(0,(.pv (ae a))),(1,(.pv (ae b))),(5,(eI (Bx:Int)))],[]⟩
@[reducible] def ah(a b:List af)(Bx:Nat)(r:PV):Prop:=L bp fn a7 (inv1 a b Bx) r
theorem e0(a b:Rs)(h1:a.length≠b.length):Cp 108 [ae a,ae b] (vB false) :=
 eD func108 84 [1,1,1] [.q,.aR [.o,(iI (a.length:Int)),.o,(iI (b.length:Int))],.t,.q] (y3 (an af.cells a) (an af.cells b) (ko h1))
theorem e1(a b:Rs){r:PV}(h1:a.length=b.length)(hL:ah a b 0 r):Cp 108 [ae a,ae b] r :=
 eG func108 96 [1,1,1] [.q,.aR [.o,(iI (a.length:Int)),.o,(iI (b.length:Int))],.f,.q,.aF [0,1,5]] (y3 (an af.cells a) (an af.cells b) (iJ h1)) hL
theorem l10(a b:Rs)(c:Nat)(v v1:af)(d:Bool)(h1:c<a.length)(h2:a[c]? = some v)(h3:b[c]? = some v1)(h4:Cp 73 [v.pv,v1.pv] (vB d))(h5:d=false):ah a b c (vB false) :=
 lD 135 [1,1,3,3,1,1] [.a,.h 2 (iI (a.length:Int)),.t,dr 10 0 [.none,.none,(.row c (af.cells v)),.none,.none,.none,(.row c (af.cells v1)),.none,(.pv (vB d))],.t,.q] (y6 (an af.cells a) (aj h1) (bT af.cells (Eq.refl (((c:Nat):Int):Int)) h2) (bT af.cells (Eq.refl (((c:Nat):Int):Int)) h3) h4 (cv h5))
theorem cR(a b:Rs)(c:Nat)(v v1:af)(d:Bool){r:PV}(h1:c<a.length)(h2:a[c]? = some v)(h3:b[c]? = some v1)(h4:Cp 73 [v.pv,v1.pv] (vB d))(h5:d=true)(h6:(c+1)<9223372036854775808)(hL:ah a b (c+1) r):ah a b c r :=
 lG 138 [1,1,3,3,1,1,1] [.a,.h 2 (iI (a.length:Int)),.t,dr 10 0 [.none,.none,(.row c (af.cells v)),.none,.none,.none,(.row c (af.cells v1)),.none,(.pv (vB d))],.f,.h 1 (iI (((c+1):Nat):Int)),.aF [0,1,5]] (y7 (an af.cells a) (aj h1) (bT af.cells (Eq.refl (((c:Nat):Int):Int)) h2) (bT af.cells (Eq.refl (((c:Nat):Int):Int)) h3) h4 (aO h5) (aM h6)) hL
theorem kM(a b:Rs)(c:Nat)(h1:a.length≤c):ah a b c (vB true) :=
 lD 129 [1,1] [.a,.h 2 (iI (a.length:Int)),.f,.q] (y2 (an af.cells a) (ar h1))
end eK
namespace o5
theorem e0(a:ai)(b:Bool)(h1:Cp 213 [a.pv] (vB b))(h2:b=false):Cp 128 [a.pv] ((⟨(⟨false,[],[]⟩:af),(⟨false,[],[]⟩:af)⟩:ai).pv) :=
 eD func128 84 [1,1] [.q,.h 1 (.pv (vB b)),.t,.q] (y2 h1 (cv h2))
theorem e1(a:ai)(b:Bool)(c d:af)(h1:Cp 213 [a.pv] (vB b))(h2:b=true)(h3:Cp 91 [a.lo.pv,(⟨false,[],[]⟩:af).pv] c.pv)(h4:Cp 91 [a.hi.pv,(⟨false,[],[]⟩:af).pv] d.pv):Cp 128 [a.pv] ((⟨c,d⟩:ai).pv) :=
 eD func128 87 [1,1,1,1] [.q,.h 1 (.pv (vB b)),.f,dr 9 1 [.none,.none,.none,(.pv c.pv),.none,.none,.none,(.pv d.pv)]] (y4 h1 (aO h2) h3 h4)
end o5
namespace n8
theorem e0(a b:ai)(c:af)(h1:Cp 225 [a.pv] b.pv)(h2:Cp 143 [b.hi.pv,b.lo.pv] c.pv):Cp 141 [a.pv] c.pv :=
 eD func141 78 [1,1] [.q,.h 1 (.pv b.pv),.h 4 (.pv c.pv)] (y2 h1 h2)
end n8
namespace eg
@[reducible] def fn:Func:=Tryz.f149
def a7:List eH:=focus [0,2,0,0,2,1,2,0,0,2,0,0] [.code (ay fn)]
def inv1(a b:List UInt32)(Bx:Nat):St:=⟨[(0,(.pv (aa a))),(1,(.pv (aa b))),(5,(eI (Bx:Int)))],[]⟩
@[reducible] def ah(a b:List UInt32)(Bx:Nat)(r:PV):Prop:=L bp fn a7 (inv1 a b Bx) r
theorem e0(a b:Ws)(h1:a.length≠b.length):Cp 149 [aa a,aa b] (vB false) :=
 eD func149 84 [1,1,1] [.q,.aR [.o,(iI (a.length:Int)),.o,(iI (b.length:Int))],.t,.q] (y3 (an ag a) (an ag b) (ko h1))
theorem e1(a b:Ws){r:PV}(h1:a.length=b.length)(hL:ah a b 0 r):Cp 149 [aa a,aa b] r :=
 eG func149 96 [1,1,1] [.q,.aR [.o,(iI (a.length:Int)),.o,(iI (b.length:Int))],.f,.q,.aF [0,1,5]] (y3 (an ag a) (an ag b) (iJ h1)) hL
theorem l10(a b:Ws)(c:Nat)(v v1:UInt32)(h1:c<a.length)(h2:a[c]? = some v)(h3:b[c]? = some v1)(h4:v.toNat≠v1.toNat):ah a b c (vB false) :=
 lD 135 [1,1,3,3,1] [.a,.h 2 (iI (a.length:Int)),.t,dr 9 0 [.none,.none,(.row c (ag v)),.none,.none,.none,(.row c (ag v1))],.t,.q] (y5 (an ag a) (aj h1) (bT ag (Eq.refl (((c:Nat):Int):Int)) h2) (bT ag (Eq.refl (((c:Nat):Int):Int)) h3) (ko h4))
theorem cR(a b:Ws)(c:Nat)(v v1:UInt32){r:PV}(h1:c<a.length)(h2:a[c]? = some v)(h3:b[c]? = some v1)(h4:v.toNat=v1.toNat)(h5:(c+1)<9223372036854775808)(hL:ah a b (c+1) r):ah a b c r :=
 lG 138 [1,1,3,3,1,1] [.a,.h 2 (iI (a.length:Int)),.t,dr 9 0 [.none,.none,(.row c (ag v)),.none,.none,.none,(.row c (ag v1))],.f,.h 1 (iI (((c+1):Nat):Int)),.aF [0,1,5]] (y6 (an ag a) (aj h1) (bT ag (Eq.refl (((c:Nat):Int):Int)) h2) (bT ag (Eq.refl (((c:Nat):Int):Int)) h3) (iJ h4) (aM h5)) hL
theorem kM(a b:Ws)(c:Nat)(h1:a.length≤c):ah a b c (vB true) :=
 lD 129 [1,1] [.a,.h 2 (iI (a.length:Int)),.f,.q] (y2 (an ag a) (ar h1))
end eg
namespace wV
theorem e0(a b:ai)(c d g:af)(h1:Cp 128 [a.pv] b.pv)(h2:Cp 250 [] c.pv)(h3:Cp 91 [b.lo.pv,b.hi.pv] d.pv)(h4:Cp 198 [c.pv,d.pv] g.pv):Cp 176 [a.pv] g.pv :=
 eD func176 78 [1,1,1,1] [.q,.h 1 (.pv b.pv),dr 7 1 [(.pv c.pv),.none,.none,.none,.none,(.pv d.pv),(.pv g.pv)]] (y4 h1 h2 h3 h4)
end wV
namespace o6
theorem e0(a b c d g:ai)(h1:Cp 225 [a.pv] c.pv)(h2:Cp 225 [b.pv] d.pv)(h3:Cp 258 [(ae [c.lo,c.hi,d.lo,d.hi])] g.pv):Cp 206 [a.pv,b.pv] g.pv :=
 eD func206 78 [1,1,3,1] [.q,dr 4 2 [.none,(.pv c.pv),.none,(.pv d.pv)],.aR [.o,.o,.o,.o,.o,.o,.o,.o,(.js 0 0 (([c.lo,c.hi,d.lo,d.hi]:Rs).map af.cells)),(.pv g.pv)]] (y4 h1 h2 (jY aX ([c.lo,c.hi,d.lo,d.hi]:Rs)) h3)
end o6
namespace ld
theorem e0(a b:ai)(c d:Int)(h1:Cp 225 [a.pv] b.pv)(h2:Cp 124 [b.lo.pv] (vI c))(h3:Cp 124 [b.hi.pv] (vI d))(h4:c≠d):Cp 210 [a.pv] (.aB [vI 0,vB false]) :=
 eD func210 96 [1,1,1,1] [.q,.h 1 (.pv b.pv),dr 6 2 [.none,.none,(.pv (vI c)),.none,.none,(.pv (vI d))],.q,.t,.q] (y4 h1 h2 h3 (lx h4))
theorem e1(a b:ai)(c d:Int)(h1:Cp 225 [a.pv] b.pv)(h2:Cp 124 [b.lo.pv] (vI c))(h3:Cp 124 [b.hi.pv] (vI d))(h4:c=d):Cp 210 [a.pv] (.aB [vI c,vB true]) :=
 eD func210 99 [1,1,1,1] [.q,.h 1 (.pv b.pv),dr 6 2 [.none,.none,(.pv (vI c)),.none,.none,(.pv (vI d))],.q,.f,.q] (y4 h1 h2 h3 (gf h4))
end ld
namespace mc
theorem e0(a:ai)(b c:Bool)(d:Int)(h1:Cp 164 [a.lo.pv] (vB b))(h2:b=true)(h3:Cp 164 [a.hi.pv] (vB c))(h4:c=true)(h5:Cp 34 [a.lo.pv,a.hi.pv] (vI d)):Cp 213 [a.pv] (vB (decide (d≤0))) :=
 eD func213 72 [1,1,1,1,1,1,1,1,1,1,1,1,1,1] [.q,.aR [.o,.o,(.pv (vB b)),.o,.o,.o,(.pv (vB c)),(.dec true),.o,.o,.o,.o,.o,(.pv (vI d)),.o,(.dec true)]] (Lk h1 h2 h2 h2 h3 h2 h4 h4 h4 h4 h4 h5 h4 h4)
theorem e1(a:ai)(b c:Bool)(h1:Cp 164 [a.lo.pv] (vB b))(h2:b=true)(h3:Cp 164 [a.hi.pv] (vB c))(h4:c=false):Cp 213 [a.pv] (vB false) :=
 eD func213 72 [1,1,1,1,1,1,1,1,1,1,1,1,1] [.q,.aR [.o,.o,(.pv (vB b)),.o,.o,.o,(.pv (vB c)),(.dec true),.o,.skip,.skip,.skip,.skip,.skip,.skip,(.dec false)]] (Js h1 h2 h2 h2 h3 h2 h4 h4 h4 h4 h4 h4 h4)
theorem e2(a:ai)(b:Bool)(h1:Cp 164 [a.lo.pv] (vB b))(h2:b=false):Cp 213 [a.pv] (vB false) :=
 eD func213 72 [1,1,1,1,1,1,1,1,1,1,1] [.q,.aR [.o,.o,(.pv (vB b)),.o,.skip,.skip,.skip,(.dec false),.o,.skip,.skip,.skip,.skip,.skip,.skip]] (Dg h1 h2 h2 h2 h2 (Eq.refl false) (Eq.refl false) (Eq.refl false) (Eq.refl false) (Eq.refl false) (Eq.refl false))
end mc
namespace ia
theorem e0(a:ai)(b:Bool)(h1:Cp 247 [a.pv] (vB b))(h2:b=false):Cp 225 [a.pv] ((⟨(⟨false,[],[]⟩:af),(⟨false,[],[]⟩:af)⟩:ai).pv) :=
 eD func225 84 [1,1] [.q,.h 1 (.pv (vB b)),.t,.q] (y2 h1 (cv h2))
theorem e1(a:ai)(b:Bool)(h1:Cp 247 [a.pv] (vB b))(h2:b=true):Cp 225 [a.pv] a.pv :=
 eD func225 87 [1,1] [.q,.h 1 (.pv (vB b)),.f,.q] (y2 h1 (aO h2))
end ia
namespace qh
theorem e0(a b:ai)(c:af)(d:Int)(g i:af)(h1:Cp 225 [a.pv] b.pv)(h2:Cp 275 [vI 1,vI 2] (.aB [c.pv,vI d]))(h3:Cp 70 [b.lo.pv,b.hi.pv] g.pv)(h4:Cp 245 [c.pv,g.pv] i.pv):Cp 226 [a.pv] i.pv :=
 eD func226 84 [1,1,1,1] [.q,.h 1 (.pv b.pv),.h 0 (.pv (.aB [c.pv,vI d])),dr 7 1 [.none,.none,.none,.none,.none,(.pv g.pv),(.pv i.pv)]] (y4 h1 h2 h3 h4)
end qh
namespace ic
theorem e0(a:ai)(b c:Bool)(d:Int)(h1:Cp 111 [a.lo.pv] (vB b))(h2:b=true)(h3:Cp 111 [a.hi.pv] (vB c))(h4:c=true)(h5:Cp 69 [a.lo.pv,a.hi.pv] (vI d)):Cp 247 [a.pv] (vB (decide (d≤0))) :=
 eD func247 72 [1,1,1,1,1,1,1,1,1,1,1,1,1,1] [.q,.aR [.o,.o,(.pv (vB b)),.o,.o,.o,(.pv (vB c)),(.dec true),.o,.o,.o,.o,.o,(.pv (vI d)),.o,(.dec true)]] (Lk h1 h2 h2 h2 h3 h2 h4 h4 h4 h4 h4 h5 h4 h4)
theorem e1(a:ai)(b c:Bool)(h1:Cp 111 [a.lo.pv] (vB b))(h2:b=true)(h3:Cp 111 [a.hi.pv] (vB c))(h4:c=false):Cp 247 [a.pv] (vB false) :=
 eD func247 72 [1,1,1,1,1,1,1,1,1,1,1,1,1] [.q,.aR [.o,.o,(.pv (vB b)),.o,.o,.o,(.pv (vB c)),(.dec true),.o,.skip,.skip,.skip,.skip,.skip,.skip,(.dec false)]] (Js h1 h2 h2 h2 h3 h2 h4 h4 h4 h4 h4 h4 h4)
theorem e2(a:ai)(b:Bool)(h1:Cp 111 [a.lo.pv] (vB b))(h2:b=false):Cp 247 [a.pv] (vB false) :=
 eD func247 72 [1,1,1,1,1,1,1,1,1,1,1] [.q,.aR [.o,.o,(.pv (vB b)),.o,.skip,.skip,.skip,(.dec false),.o,.skip,.skip,.skip,.skip,.skip,.skip]] (Dg h1 h2 h2 h2 h2 (Eq.refl false) (Eq.refl false) (Eq.refl false) (Eq.refl false) (Eq.refl false) (Eq.refl false))
end ic
namespace u7
theorem e0(a:af)(b:Option Int)(h1:Cp 31 [vI 1,vI 2] (.aB [a.pv,bw b])):Cp 250 [] a.pv :=
 eD func250 78 [1] [.q,.h 0 (.pv (.aB [a.pv,bw b])),.q] (y1 h1)
end u7
namespace gu
@[reducible] def fn:Func:=Tryz.f258
def a7:List eH:=focus [0,2,0,2,0,0,2,0,0] [.code (ay fn)]
def inv1(l:List af)(rU:Nat)(cx:ai):St:=⟨[(2,(.ptr 2 0)),(3,(.ptr 3 0)),(17,(.pv (ae l))),(18,(eI (l.length:Int))),(19,(eI (rU:Int)))],[(2,(.lit [(eB false),(.pv (.list [])),(.pv (.list [])),(eB false),(.pv (.list [])),(.pv (.list []))])),(3,(.lit [(eB cx.lo.neg),(.pv (aa cx.lo.num)),(.pv (aa cx.lo.den)),(eB cx.hi.neg),(.pv (aa cx.hi.num)),(.pv (aa cx.hi.den))]))]⟩
@[reducible] def ah(l:List af)(rU:Nat)(cx:ai)(r:PV):Prop:=L bp fn a7 (inv1 l rU cx) r
theorem e0(l:Rs)(v a b:af){r:PV}(h1:l[0]? = some v)(h2:Cp 70 [v.pv,(⟨false,[],[]⟩:af).pv] a.pv)(h3:Cp 70 [v.pv,(⟨false,[],[]⟩:af).pv] b.pv)(hL:ah l 0 (⟨a,b⟩:ai) r):Cp 258 [ae l] r :=
 eG func258 87 [3,1,3,1,1] [.q,dr 12 1 [.none,(.row 0 (af.cells v)),.none,.none,(.pv a.pv),.none,(.row 0 (af.cells v)),.none,.none,(.pv b.pv)],.h 1 (iI (l.length:Int)),.aF [2,3,17,18,19],.ord [2,3]] (y5 (bT af.cells (Eq.refl (0:Int)) h1) h2 (bT af.cells (Eq.refl (0:Int)) h1) h3 (an af.cells l)) hL
theorem l10(l:Rs)(b:Nat)(c:ai)(v d g:af){r:PV}(h1:b<l.length)(h2:l[b]? = some v)(h3:Cp 284 [c.lo.pv,v.pv] d.pv)(h4:Cp 285 [c.hi.pv,v.pv] g.pv)(h5:(b+1)<9223372036854775808)(hL:ah l (b+1) (⟨d,g⟩:ai) r):ah l b c r :=
 lG 126 [1,3,1,1,1] [.a,.q,.t,.h 0 (.row b (af.cells v)),dr 11 1 [.none,.none,.none,(.pv d.pv),.none,.none,.none,(.pv g.pv)],.h 0 (iI (((b+1):Nat):Int)),.aF [2,3,17,18,19],.drop [5]] (y5 (aj h1) (bT af.cells (Eq.refl (((b:Nat):Int):Int)) h2) h3 h4 (aM h5)) hL
theorem cR(l:Rs)(b:Nat)(c:ai)(h1:l.length≤b):ah l b c c.pv :=
 lD 120 [1] [.a,.q,.f,.q] (y1 (ar h1))
end gu
namespace qi
theorem e0(a b c d:ai)(g i:af)(j:ai)(h1:Cp 225 [a.pv] c.pv)(h2:Cp 225 [b.pv] d.pv)(h3:Cp 70 [c.lo.pv,d.lo.pv] g.pv)(h4:Cp 70 [c.hi.pv,d.hi.pv] i.pv)(h5:Cp 258 [(ae [g,i])] j.pv):Cp 259 [a.pv,b.pv] j.pv :=
 eD func259 78 [1,1,1,1,3,1] [.q,dr 4 2 [.none,(.pv c.pv),.none,(.pv d.pv)],dr 12 1 [.none,.none,.none,.none,(.pv g.pv),.none,.none,.none,.none,(.pv i.pv),(.js 0 0 (([g,i]:Rs).map af.cells)),(.pv j.pv)]] (y6 h1 h2 h3 h4 (jY aX ([g,i]:Rs)) h5)
end qi
namespace qj
theorem e0(a b c d:ai)(g i j k:af)(l:ai)(h1:Cp 225 [a.pv] c.pv)(h2:Cp 225 [b.pv] d.pv)(h3:Cp 245 [c.lo.pv,d.lo.pv] g.pv)(h4:Cp 245 [c.lo.pv,d.hi.pv] i.pv)(h5:Cp 245 [c.hi.pv,d.lo.pv] j.pv)(h6:Cp 245 [c.hi.pv,d.hi.pv] k.pv)(h7:Cp 258 [(ae [g,i,j,k])] l.pv):Cp 260 [a.pv,b.pv] l.pv :=
 eD func260 78 [1,1,1,1,1,1,3,1] [.q,dr 4 2 [.none,(.pv c.pv),.none,(.pv d.pv)],dr 22 1 [.none,.none,.none,.none,(.pv g.pv),.none,.none,.none,.none,(.pv i.pv),.none,.none,.none,.none,(.pv j.pv),.none,.none,.none,.none,(.pv k.pv),(.js 0 0 (([g,i,j,k]:Rs).map af.cells)),(.pv l.pv)]] (y8 h1 h2 h3 h4 h5 h6 (jY aX ([g,i,j,k]:Rs)) h7)
end qj
namespace n9
theorem e0(x:af)(a:ai)(h1:Cp 258 [(ae [x])] a.pv):Cp 261 [x.pv] a.pv :=
 eD func261 72 [3,1] [.q,.aR [.o,(.js 0 0 (([x]:Rs).map af.cells)),(.pv a.pv)]] (y2 (jY aX ([x]:Rs)) h1)
end n9
end Go.Proofs.YtllmkadmohkbfaaGreatDoor.Sym.Path
end
