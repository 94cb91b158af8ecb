/- Lemmas for the statements of this seat. -/
import Derived.Test.YtllmkadmohkbfaaGreatDoorT0
noncomputable section
namespace Go.Proofs.YtllmkadmohkbfaaGreatDoor.Sym.Path
open Go Tryz
set_option maxRecDepth 20000
set_option linter.unusedVariables false
namespace lM
theorem e0(p q:Rs)(a:Bool)(h1:Cp 108 [ae p,ae q] (vB a)):Cp 42 [ae p,ae q] (vB a) :=
 eD func42 72 [1] [.q,.h 2 (.pv (vB a))] (y1 h1)
end lM
namespace dy
@[reducible] def fn:Func:=Tryz.f56
def bK:List gC:=focus [0,2,0,0,2,1,2,0,0,2,0,0] [.code (aA fn)]
def inv1(p:List ah)(vr:Nat):St:=⟨[(0,(.pv (ae p))),(8,(.pv (ae p))),(9,(eI (p.length:Int))),(10,(eI (vr:Int)))],[]⟩
@[reducible] def aj(p:List ah)(vr:Nat)(r:PV):Prop:=L bT fn bK (inv1 p vr) r
theorem e0(p:Rs)(h1:65<p.length):Cp 56 [ae p] (vI 4) :=
 eD func56 84 [1,1] [.q,.h 1 (iI (p.length:Int)),.t,.q] (y2 (au ah.cells p) (ak h1))
theorem e1(p:Rs){r:PV}(h1:p.length≤65)(hL:aj p 0 r):Cp 56 [ae p] r :=
 eG func56 96 [1,1,1] [.q,.h 1 (iI (p.length:Int)),.f,.h 1 (iI (p.length:Int)),.aP [0,8,9,10]] (y3 (au ah.cells p) (ax h1) (au ah.cells p)) hL
theorem l10(p:Rs)(b:Nat)(v:ah)(c:Bool)(h1:b<p.length)(h2:p[b]? = some v)(h3:Cp 111 [v.pv] (vB c))(h4:c=false):aj p b (vI 2) :=
 lD 141 [1,3,1,1] [.a,.q,.t,.h 0 (.row b (ah.cells v)),.h 1 (.pv (vB c)),.t,.q] (y4 (ak h1) (bU ah.cells (Eq.refl (((b:Nat):Int):Int)) h2) h3 (bB h4))
theorem dw(p:Rs)(b:Nat)(v:ah)(c:Bool){r:PV}(h1:b<p.length)(h2:p[b]? = some v)(h3:Cp 111 [v.pv] (vB c))(h4:c=true)(h5:(b+1)<9223372036854775808)(hL:aj p (b+1) r):aj p b r :=
 lG 144 [1,3,1,1,1] [.a,.q,.t,.h 0 (.row b (ah.cells v)),.h 1 (.pv (vB c)),.f,.h 0 (iI (((b+1):Nat):Int)),.aP [0,8,9,10],.drop [4]] (y5 (ak h1) (bU ah.cells (Eq.refl (((b:Nat):Int):Int)) h2) h3 (ay h4) (aR h5)) hL
theorem ji(p:Rs)(b k:Nat)(v:ah)(c:Int)(h1:p.length≤b)(h2:0<p.length)(h3:aw ((p.length:Int)-1))(h4:((p.length:Int)-1)=(k:Int))(h5:p[k]? = some v)(h6:Cp 124 [v.pv] (vI c))(h7:c=0):aj p b (vI 8) :=
 lD 141 [1,1,1,1,1,1,1,1,1,3,1,1,1,1,1,1] [.a,.q,.f,.ba [.o,(iI (p.length:Int)),.o,.o,.o,.o,(iI (p.length:Int)),(iI ((p.length:Int)-1)),(.row k (ah.cells v)),.o,(.pv (vI c)),.o,(.dec true)],.t,.q] (Cz (ax h1) (au ah.cells p) (ak h2) (ak h2) (ak h2) (au ah.cells p) (ak h2) (aX h3) (ak h2) (bU ah.cells h4 h5) (ak h2) (ak h2) h6 (ak h2) (ak h2) (aF h7))
theorem oK(p:Rs)(b k:Nat)(v:ah)(c:Int)(h1:p.length≤b)(h2:0<p.length)(h3:aw ((p.length:Int)-1))(h4:((p.length:Int)-1)=(k:Int))(h5:p[k]? = some v)(h6:Cp 124 [v.pv] (vI c))(h7:c≠0):aj p b (vI 0) :=
 lD 144 [1,1,1,1,1,1,1,1,1,3,1,1,1,1,1,1] [.a,.q,.f,.ba [.o,(iI (p.length:Int)),.o,.o,.o,.o,(iI (p.length:Int)),(iI ((p.length:Int)-1)),(.row k (ah.cells v)),.o,(.pv (vI c)),.o,(.dec true)],.f,.q] (Cz (ax h1) (au ah.cells p) (ak h2) (ak h2) (ak h2) (au ah.cells p) (ak h2) (aX h3) (ak h2) (bU ah.cells h4 h5) (ak h2) (ak h2) h6 (ak h2) (ak h2) (aN h7))
theorem AS(p:Rs)(b:Nat)(h1:p.length≤b)(h2:p.length≤0):aj p b (vI 0) :=
 lD 144 [1,1,1,1,1,1,1,1,1,1,1] [.a,.q,.f,.ba [.o,(iI (p.length:Int)),.o,.o,.skip,.skip,.skip,.skip,.skip,.skip,.skip,.skip,(.dec false)],.a,.q] (FO (ax h1) (au ah.cells p) (ax h2) (ax h2) (ax h2) (ax h2) (ax h2) (ax h2) (ax h2) (ax h2) (ax h2))
end dy
namespace vt
theorem e2(p:Rs)(a:Int)(b c d g i:Rs)(h1:Cp 56 [ae p] (vI a))(h2:a=0)(h3:p.length≠0)(h4:Cp 162 [ae p] (ae b))(h5:Cp 161 [ae p,ae b] (ae c))(h6:Cp 160 [ae p,ae c] (.aB [ae d,ae g]))(h7:Cp 163 [ae d] (ae i)):Cp 78 [ae p] (.aB [ae i,vI 0]) :=
 eD func78 114 [1,1,1,1,1,1,1,1] [.q,.h 1 (.pv (vI a)),.q,.f,.h 1 (iI (p.length:Int)),.f,.ba [.o,.o,.o,(.pv (ae b)),(.pv (ae c)),(.pv (.aB [ae d,ae g]))],.h 1 (.pv (ae i))] (y8 h1 (bZ h2) (au ah.cells p) (aC h3) h4 h5 h6 h7)
end vt
namespace tR
theorem e1(p:Rs)(a:Int)(b:Rs)(h1:Cp 56 [ae p] (vI a))(h2:a=0)(h3:Cp 162 [ae p] (ae b)):Cp 84 [ae p] (.aB [ae b,vI 0]) :=
 eD func84 93 [1,1,1] [.q,.h 1 (.pv (vI a)),.q,.f,.h 1 (.pv (ae b))] (y3 h1 (bZ h2) h3)
end tR
namespace mn
theorem e1(p q:Rs)(a:Int)(b:Rs)(h1:Cp 167 [ae p,ae q] (vI a))(h2:a=0)(h3:Cp 161 [ae p,ae q] (ae b)):Cp 85 [ae p,ae q] (.aB [ae b,vI 0]) :=
 eD func85 93 [1,1,1] [.q,.h 2 (.pv (vI a)),.q,.f,.h 2 (.pv (ae b))] (y3 h1 (bZ h2) h3)
end mn
namespace gG
@[reducible] def fn:Func:=Tryz.f106
def bK:List gC:=focus [0,2,0,2,0,0,2,0,0] [.code (aA fn)]
def inv1(fJ l:List ah)(uE:Nat):St:=⟨[(3,(.row 17 0 fJ.length 3)),(6,(.pv (ae l))),(7,(eI (l.length:Int))),(8,(eI (uE:Int)))],[(17,(.pure ((fJ:List ah).map ah.cells).flatten))]⟩
@[reducible] def aj(fJ l:List ah)(uE:Nat)(r:PV):Prop:=L bT fn bK (inv1 fJ l uE) r
def qv:List gC:=focus [0,2,0,2,0,0,2,0,0,0,0,2,0,1,2,2,2,2,0,0,0] [.code (aA fn)]
def inv2(fJ:List ah):St:=⟨[(3,(.row 17 0 fJ.length 3))],[(17,(.pure ((fJ:List ah).map ah.cells).flatten))]⟩
@[reducible] def cz(fJ:List ah)(r:PV):Prop:=L bT fn qv (inv2 fJ) r
theorem e0 (l : Rs) {r : PV}  (hL : aj [] l 0 r) : Cp 106 [ae l] r :=
 eG func106 87 [1] [.q,.h 0 .nil,.ju 3 17 3,.h 1 (iI (l.length:Int)),.aP [3,6,7,8]] (y1 (au ah.cells l)) hL
theorem l10(b l:Rs)(c:Nat)(v d:ah){r:PV}(h1:c<l.length)(h2:l[c]? = some v)(h3:Cp 70 [v.pv,(⟨false,[],[]⟩:ah).pv] d.pv)(h4:((b++[d]):Rs).length*56≤140737488355328)(h5:(c+1)<9223372036854775808)(hL:aj (b++[d]) l (c+1) r):aj b l c r :=
 lG 126 [1,3,1,6,1] [.a,.q,.t,.h 0 (.row c (ah.cells v)),.ba [.o,.o,.o,(.pv d.pv),.o,(.app ((b++[d]):Rs).length (((b++[d]):Rs).map ah.cells).flatten)],.h 0 (iI (((c+1):Nat):Int)),.aP [3,6,7,8],.drop [16,5]] (y5 (ak h1) (bU ah.cells (Eq.refl (((c:Nat):Int):Int)) h2) h3 (gm bM (b:Rs) ([d]:Rs) 56 (Eq.refl (b:Rs).length) (Eq.refl ([d]:Rs).length) h4 rfl) (aR h5)) hL
theorem dw(b l:Rs)(c:Nat){r:PV}(h1:l.length≤c)(hL:cz b r):aj b l c r :=
 lG 123 [1] [.a,.q,.f,.aP [3]] (y1 (ax h1)) hL
theorem xl(b:Rs)(k:Nat)(v:ah)(c:Int)(u:Nat){r:PV}(h1:0<b.length)(h2:aw ((b.length:Int)-1))(h3:((b.length:Int)-1)=(k:Int))(h4:k<b.length)(h5:b[k]? = some v)(h6:Cp 124 [v.pv] (vI c))(h7:c=0)(h8:((b.length:Int)-1)=(u:Int))(h9:u≤(b:Rs).length)(hL:cz (b.take u) r):cz b r :=
 lG 150 [1,1,1,1,1,1,2,1,2,1,1,1,1,1,1,5,1] [.a,.ba [.o,.o,.o,.o,.o,.o,.o,(iI ((b.length:Int)-1)),(.nat k),(.Ky [vB v.neg,ag v.num,ag v.den]),(.pv (vI c)),.o,(.dec true)],.t,.ba [.o,.o,.o,(iI ((b.length:Int)-1)),(.ja 0 ((b.take u).length) [])],.cut 17 (u*3) (((b.take u):Rs).map ah.cells).flatten,.aP [3]] (Pq (ak h1) (ak h1) (ak h1) (ak h1) (aX h2) (ak h1) (cj h3 h4) (ak h1) (wE bM h5) (ak h1) h6 (ak h1) (ak h1) (aF h7) (aX h2) (Le (b:Rs) h8 h9) (Bs bM (b:Rs) u)) hL
theorem AR(b:Rs)(k:Nat)(v:ah)(c:Int)(h1:0<b.length)(h2:aw ((b.length:Int)-1))(h3:((b.length:Int)-1)=(k:Int))(h4:k<b.length)(h5:b[k]? = some v)(h6:Cp 124 [v.pv] (vI c))(h7:c≠0):cz b (ae b) :=
 lD 156 [1,1,1,1,1,1,2,1,2,1,1,1,1,1,3] [.a,.ba [.o,.o,.o,.o,.o,.o,.o,(iI ((b.length:Int)-1)),(.nat k),(.Ky [vB v.neg,ag v.num,ag v.den]),(.pv (vI c)),.o,(.dec true)],.f,.q,.iZ 2 ((b:Rs).map ah.cells)] (Cy (ak h1) (ak h1) (ak h1) (ak h1) (aX h2) (ak h1) (cj h3 h4) (ak h1) (wE bM h5) (ak h1) h6 (ak h1) (ak h1) (aN h7) (eR bM (b:Rs) (Eq.refl (b:Rs).length)))
theorem Ol(b:Rs)(h1:b.length≤0):cz b (ae b) :=
 lD 156 [1,1,1,1,1,1,1,1,1,3] [.a,.ba [.o,.o,.o,.o,.skip,.skip,.skip,.skip,.skip,.skip,.skip,.skip,(.dec false)],.a,.q,.iZ 2 ((b:Rs).map ah.cells)] (Iu (ax h1) (ax h1) (ax h1) (ax h1) (ax h1) (ax h1) (ax h1) (ax h1) (ax h1) (eR bM (b:Rs) (Eq.refl (b:Rs).length)))
end gG
namespace kB
@[reducible] def fn:Func:=Tryz.f160
def bK:List gC:=focus [0,2,0,2,0,2,0,0,0] [.code (aA fn)]
def inv1(q Q5 BS:List ah):St:=⟨[(1,(.pv (ae q))),(6,(.pv (ae Q5))),(7,(.pv (ae BS)))],[]⟩
@[reducible] def aj(q Q5 BS:List ah)(r:PV):Prop:=L bT fn bK (inv1 q Q5 BS) r
theorem e0(p q a:Rs){r:PV}(h1:Cp 106 [ae p] (ae a))(hL:aj q [] a r):Cp 160 [ae p,ae q] r :=
 eG func160 87 [1] [.q,.q,.h 1 (.pv (ae a)),.aP [1,6,7]] (y1 h1) hL
theorem l10(q b c:Rs)(k:Nat)(v:ah)(k1:Nat)(v1 d:ah)(g:Int)(of:ah)(i:Rs)(j:ah)(l:Rs){r:PV}(h1:q.length≤c.length)(h2:aw ((c.length:Int)-1))(h3:((c.length:Int)-1)=(k:Int))(h4:c[k]? = some v)(h5:aw ((q.length:Int)-1))(h6:((q.length:Int)-1)=(k1:Int))(h7:q[k1]? = some v1)(h8:Cp 148 [v.pv,v1.pv] (.aB [d.pv,vI g]))(h9:aw ((c.length:Int)-(q.length:Int)))(dM:Cp 89 [vI 1] of.pv)(gy:Cp 244 [ae b,(ae [d]),of.pv,(vI ((c.length:Int)-(q.length:Int)))] (ae i))(j8:Cp 88 [d.pv] j.pv)(nK:Cp 244 [ae c,ae q,j.pv,(vI ((c.length:Int)-(q.length:Int)))] (ae l))(hL:aj q i l r):aj q b c r :=
 lG 132 [1,1,1,1,1,3,1,1,3,1,1,1,1,3,1,1,1,1] [.a,.ba [.o,(iI (c.length:Int)),.o,(iI (q.length:Int))],.t,dr 18 1 [.none,.none,(iI (c.length:Int)),(iI ((c.length:Int)-1)),(.row k (ah.cells v)),.none,.none,.none,(iI (q.length:Int)),(iI ((q.length:Int)-1)),(.row k1 (ah.cells v1)),.none,(.pv (.aB [d.pv,vI g]))],.ba [.o,(iI (c.length:Int)),.o,(iI (q.length:Int)),(iI ((c.length:Int)-(q.length:Int)))],dr 6 1 [.none,.none,(.ja 0 0 (([d]:Rs).map ah.cells)),(.pv of.pv),.none,(.pv (ae i))],.ba [.o,.o,.o,(.pv j.pv),.o,(.pv (ae l))],.aP [1,6,7],.drop [8]] (PU (au ah.cells c) (au ah.cells q) (cP h1) (au ah.cells c) (aX h2) (bU ah.cells h3 h4) (au ah.cells q) (aX h5) (bU ah.cells h6 h7) h8 (au ah.cells c) (au ah.cells q) (aX h9) (fP bM ([d]:Rs)) dM gy j8 nK) hL
theorem dw(q b c:Rs)(h1:c.length<q.length):aj q b c (.aB [ae b,ae c]) :=
 lD 120 [1,1,1] [.a,.ba [.o,(iI (c.length:Int)),.o,(iI (q.length:Int))],.f,.q] (y3 (au ah.cells c) (au ah.cells q) (cN h1))
end kB
namespace bA
@[reducible] def fn:Func:=Tryz.f161
def bK:List gC:=focus [0,2,0,2,0,0,0] [.code (aA fn)]
def inv1(Vh Vi:List ah):St:=⟨[(0,(.pv (ae Vh))),(1,(.pv (ae Vi)))],[]⟩
@[reducible] def aj(Vh Vi:List ah)(r:PV):Prop:=L bT fn bK (inv1 Vh Vi) r
theorem e0(p q a b:Rs){r:PV}(h1:Cp 163 [ae p] (ae a))(h2:Cp 163 [ae q] (ae b))(hL:aj a b r):Cp 161 [ae p,ae q] r :=
 eG func161 81 [1,1] [.q,.ba [.o,(.pv (ae a)),.o,(.pv (ae b))],.aP [0,1]] (y2 h1 h2) hL
theorem l10(b c d g i:Rs){r:PV}(h1:0<c.length)(h2:Cp 160 [ae b,ae c] (.aB [ae d,ae g]))(h3:Cp 163 [ae g] (ae i))(hL:aj c i r):aj b c r :=
 lG 114 [1,1,1,1] [.a,.h 1 (iI (c.length:Int)),.t,.h 2 (.pv (.aB [ae d,ae g])),.h 2 (.pv (ae i)),.aP [0,1]] (y4 (au ah.cells c) (ak h1) h2 h3) hL
theorem dw(b c:Rs)(h1:c.length≤0):aj b c (ae b) :=
 lD 114 [1,1] [.a,.h 1 (iI (c.length:Int)),.f,.q] (y2 (au ah.cells c) (ax h1))
end bA
namespace jw
@[reducible] def fn:Func:=Tryz.f162
def bK:List gC:=focus [0,2,0,2,0,0,2,0,0] [.code (aA fn)]
def inv1(FR p:List ah)(uE:Nat):St:=⟨[(3,(.row 21 0 FR.length 3)),(6,(.pv (ae p))),(7,(eI (p.length:Int))),(8,(eI (uE:Int)))],[(21,(.pure ((FR:List ah).map ah.cells).flatten))]⟩
@[reducible] def aj(FR p:List ah)(uE:Nat)(r:PV):Prop:=L bT fn bK (inv1 FR p uE) r
theorem e0 (p : Rs) {r : PV}  (hL : aj [] p 0 r) : Cp 162 [ae p] r :=
 eG func162 87 [1] [.q,.h 0 .nil,.ju 3 21 3,.h 1 (iI (p.length:Int)),.aP [3,6,7,8]] (y1 (au ah.cells p)) hL
theorem l10(b p:Rs)(c:Nat)(v of d:ah){r:PV}(h1:c<p.length)(h2:p[c]? = some v)(h3:0<c)(h4:Cp 89 [(vI (c:Int))] of.pv)(h5:Cp 245 [of.pv,v.pv] d.pv)(h6:((b++[d]):Rs).length*56≤140737488355328)(h7:(c+1)<9223372036854775808)(hL:aj (b++[d]) p (c+1) r):aj b p c r :=
 lG 135 [1,3,1,1,1,6,1] [.a,.q,.t,.h 1 (.row c (ah.cells v)),.q,.t,dr 6 2 [.none,.none,(.pv of.pv),.none,(.pv d.pv),.none,(.app ((b++[d]):Rs).length (((b++[d]):Rs).map ah.cells).flatten)],.h 0 (iI (((c+1):Nat):Int)),.aP [3,6,7,8],.drop [20,5]] (y7 (ak h1) (bU ah.cells (Eq.refl (((c:Nat):Int):Int)) h2) (ak h3) h4 h5 (gm bM (b:Rs) ([d]:Rs) 56 (Eq.refl (b:Rs).length) (Eq.refl ([d]:Rs).length) h6 rfl) (aR h7)) hL
theorem dw(b p:Rs)(c:Nat)(v:ah){r:PV}(h1:c<p.length)(h2:p[c]? = some v)(h3:c≤0)(h4:(c+1)<9223372036854775808)(hL:aj b p (c+1) r):aj b p c r :=
 lG 135 [1,3,1,1] [.a,.q,.t,.h 1 (.row c (ah.cells v)),.q,.f,.h 0 (iI (((c+1):Nat):Int)),.aP [3,6,7,8],.drop [5]] (y4 (ak h1) (bU ah.cells (Eq.refl (((c:Nat):Int):Int)) h2) (ax h3) (aR h4)) hL
theorem ji(b p:Rs)(c:Nat)(d:Rs)(h1:p.length≤c)(h2:Cp 106 [ae b] (ae d)):aj b p c (ae d) :=
 lD 120 [1,3,1] [.a,.q,.f,.iZ 3 ((b:Rs).map ah.cells),.h 1 (.pv (ae d))] (y3 (ax h1) (eR bM (b:Rs) (Eq.refl (b:Rs).length)) h2)
end jw
namespace qy
theorem e0(p:Rs)(h1:p.length=0):Cp 163 [ae p] (ae []) :=
 eD func163 84 [1,1] [.q,.h 1 (iI (p.length:Int)),.t,.q] (y2 (au ah.cells p) (aL h1))
theorem e1(p:Rs)(of:ah)(k:Nat)(v a:ah)(b:Int)(c:Rs)(h1:p.length≠0)(h2:Cp 89 [vI 1] of.pv)(h3:aw ((p.length:Int)-1))(h4:((p.length:Int)-1)=(k:Int))(h5:p[k]? = some v)(h6:Cp 148 [of.pv,v.pv] (.aB [a.pv,vI b]))(h7:Cp 244 [(ae []),ae p,a.pv,vI 0] (ae c)):Cp 163 [ae p] (ae c) :=
 eD func163 93 [1,1,1,1,1,3,1,1] [.q,.h 1 (iI (p.length:Int)),.f,dr 13 1 [(.pv of.pv),.none,.none,(iI (p.length:Int)),(iI ((p.length:Int)-1)),(.row k (ah.cells v)),.none,(.pv (.aB [a.pv,vI b]))],.h 2 (.pv (ae c))] (y8 (au ah.cells p) (aC h1) h2 (au ah.cells p) (aX h3) (bU ah.cells h4 h5) h6 h7)
end qy
namespace ri
theorem e0(p q:Rs)(a:Int)(h1:Cp 56 [ae p] (vI a))(h2:a≠0):Cp 167 [ae p,ae q] (vI a) :=
 eD func167 90 [1,1] [.q,.h 1 (.pv (vI a)),.q,.t,.q] (y2 h1 (dq h2))
theorem e1(p q:Rs)(a b:Int)(h1:Cp 56 [ae p] (vI a))(h2:a=0)(h3:Cp 56 [ae q] (vI b)):Cp 167 [ae p,ae q] (vI b) :=
 eD func167 93 [1,1,1] [.q,.h 1 (.pv (vI a)),.q,.f,.h 1 (.pv (vI b))] (y3 h1 (bZ h2) h3)
end ri
namespace mW
@[reducible] def fn:Func:=Tryz.f208
def bK:List gC:=focus [0,2,0,2,0,0,2,0,0] [.code (aA fn)]
def inv1(p:List ah)(MW:Int)(x dG:ah):St:=⟨[(0,(.pv (ae p))),(3,(.ptr 3 0)),(4,(.ptr 4 0)),(5,(.ptr 5 0)),(6,(eI MW))],[(3,(.lit [(eB x.neg),(.pv (ag x.num)),(.pv (ag x.den))])),(4,(.lit [(eB false),(.pv (.list [])),(.pv (.list []))])),(5,(.lit [(eB dG.neg),(.pv (ag dG.num)),(.pv (ag dG.den))]))]⟩
@[reducible] def aj(p:List ah)(MW:Int)(x dG:ah)(r:PV):Prop:=L bT fn bK (inv1 p MW x dG) r
theorem e0(p:Rs)(x:ah){r:PV}(h1:aw ((p.length:Int)-1))(hL:aj p ((p.length:Int)-1) x (⟨false,[],[]⟩:ah) r):Cp 208 [ae p,x.pv] r :=
 eG func208 87 [1,1] [.q,.q,.ba [.o,(iI (p.length:Int)),(iI ((p.length:Int)-1))],.aP [0,3,4,5,6],.ord [3,4,5]] (y2 (au ah.cells p) (aX h1)) hL
theorem l10(p:Rs)(b:Int)(x c d:ah)(k:Nat)(v g:ah){r:PV}(h1:0≤b)(h2:Cp 245 [c.pv,x.pv] d.pv)(h3:b=(k:Int))(h4:p[k]? = some v)(h5:Cp 70 [d.pv,v.pv] g.pv)(h6:aw (b-1))(hL:aj p (b-1) x g r):aj p b x c r :=
 lG 120 [1,1,3,1,1] [.a,.q,.t,dr 8 1 [.none,.none,(.pv d.pv),.none,.none,(.row k (ah.cells v)),.none,(.pv g.pv)],.h 1 (iI (b-1)),.aP [0,3,4,5,6]] (y5 (jv h1) h2 (bU ah.cells h3 h4) h5 (aX h6)) hL
theorem dw(p:Rs)(b:Int)(x c:ah)(h1:b<0):aj p b x c c.pv :=
 lD 120 [1] [.a,.q,.f,.q] (y1 (kL h1))
end mW
namespace gH
@[reducible] def fn:Func:=Tryz.f209
def bK:List gC:=focus [0,2,0,0,2,0,2,1,2,0,2,0,0,2,0,0] [.code (aA fn)]
def inv1(p:List ah)(G8:Int)(rV fC:af):St:=⟨[(0,(.pv (ae p))),(3,(.ptr 3 0)),(4,(.ptr 4 0)),(7,(.ptr 7 0)),(8,(eI G8))],[(3,(.lit [(eB rV.lo.neg),(.pv (ag rV.lo.num)),(.pv (ag rV.lo.den)),(eB rV.hi.neg),(.pv (ag rV.hi.num)),(.pv (ag rV.hi.den))])),(4,(.lit [(eB false),(.pv (.list [])),(.pv (.list [])),(eB false),(.pv (.list [])),(.pv (.list []))])),(7,(.lit [(eB fC.lo.neg),(.pv (ag fC.lo.num)),(.pv (ag fC.lo.den)),(eB fC.hi.neg),(.pv (ag fC.hi.num)),(.pv (ag fC.hi.den))]))]⟩
@[reducible] def aj(p:List ah)(G8:Int)(rV fC:af)(r:PV):Prop:=L bT fn bK (inv1 p G8 rV fC) r
theorem e1(p:Rs)(rV:af)(a:Int){r:PV}(h1:Cp 56 [ae p] (vI a))(h2:a=0)(h3:aw ((p.length:Int)-1))(hL:aj p ((p.length:Int)-1) rV (⟨(⟨false,[],[]⟩:ah),(⟨false,[],[]⟩:ah)⟩:af) r):Cp 209 [ae p,rV.pv] r :=
 eG func209 108 [1,1,1,1] [.q,.h 1 (.pv (vI a)),.q,.f,.q,.ba [.o,(iI (p.length:Int)),(iI ((p.length:Int)-1))],.aP [0,3,4,7,8],.ord [3,4,7]] (y4 h1 (bZ h2) (au ah.cells p) (aX h3)) hL
theorem l10(p:Rs)(b:Int)(rV c d:af)(k:Nat)(v:ah)(g i:af){r:PV}(h1:0≤b)(h2:Cp 260 [c.pv,rV.pv] d.pv)(h3:b=(k:Int))(h4:p[k]? = some v)(h5:Cp 261 [v.pv] g.pv)(h6:Cp 259 [d.pv,g.pv] i.pv)(h7:aw (b-1))(hL:aj p (b-1) rV i r):aj p b rV c r :=
 lG 141 [1,1,3,1,1,1] [.a,.q,.t,dr 9 1 [.none,.none,(.pv d.pv),.none,.none,(.row k (ah.cells v)),.none,(.pv g.pv),(.pv i.pv)],.h 1 (iI (b-1)),.aP [0,3,4,7,8]] (y6 (jv h1) h2 (bU ah.cells h3 h4) h5 h6 (aX h7)) hL
theorem dw(p:Rs)(b:Int)(rV c:af)(h1:b<0):aj p b rV c (.aB [c.pv,vI 0]) :=
 lD 141 [1] [.a,.q,.f,.q] (y1 (kL h1))
end gH
namespace wU
theorem e2(p q:Rs)(a:Int)(b c:Rs)(h1:Cp 167 [ae p,ae q] (vI a))(h2:a=0)(h3:q.length≠0)(h4:Cp 160 [ae p,ae q] (.aB [ae b,ae c])):Cp 242 [ae p,ae q] (.aB [ae b,ae c,vI 0]) :=
 eD func242 114 [1,1,1,1,1] [.q,.h 2 (.pv (vI a)),.q,.f,.h 1 (iI (q.length:Int)),.f,.h 2 (.pv (.aB [ae b,ae c])),.q] (y5 h1 (bZ h2) (au ah.cells q) (aC h3) h4)
end wU
namespace uF
theorem e1(p:Rs)(c:ah)(a:Int)(b:Rs)(h1:Cp 56 [ae p] (vI a))(h2:a=0)(h3:Cp 244 [(ae []),ae p,c.pv,vI 0] (ae b)):Cp 243 [ae p,c.pv] (.aB [ae b,vI 0]) :=
 eD func243 93 [1,1,1] [.q,.h 1 (.pv (vI a)),.q,.f,.h 2 (.pv (ae b))] (y3 h1 (bZ h2) h3)
end uF
namespace lN
@[reducible] def fn:Func:=Tryz.f244
def bK:List gC:=focus [0,2,0,2,0,2,0,0,2,0,0] [.code (aA fn)]
def inv1(shift:Int)(m:Nat)(q:List ah)(Dd:Nat)(c:ah)(JZ:List ah):St:=⟨[(3,(eI shift)),(6,(.ptr 6 0)),(9,(.row 19 0 m 3)),(23,(.pv (ae q))),(24,(eI (q.length:Int))),(25,(eI (Dd:Int)))],[(6,(.lit [(eB c.neg),(.pv (ag c.num)),(.pv (ag c.den))])),(19,(.pure ((JZ:List ah).map ah.cells).flatten))]⟩
@[reducible] def aj(shift:Int)(m:Nat)(q:List ah)(Dd:Nat)(c:ah)(JZ:List ah)(r:PV):Prop:=L bT fn bK (inv1 shift m q Dd c JZ) r
theorem e0(p q:Rs)(c:ah)(a:Int)(m:Nat){r:PV}(h1:aw ((q.length:Int)+a))(h2:(max (p.length:Int) ((q.length:Int)+a))=(m:Int))(h3:56*m≤140737488355328)(h4:(min p.length m)≤(List.replicate m (⟨false,[],[]⟩:ah):Rs).length)(hL:aj a m q 0 c (p.take (min p.length m)++(List.replicate m (⟨false,[],[]⟩:ah)).drop (min p.length m)) r):Cp 244 [ae p,ae q,c.pv,vI a] r :=
 eG func244 93 [1,1,1,1,5,4,1] [.q,.ba [.o,(iI (p.length:Int)),.o,(iI (q.length:Int)),.o,(iI ((q.length:Int)+a)),(iI (max (p.length:Int) ((q.length:Int)+a))),(.app m ((List.replicate m (⟨false,[],[]⟩:ah):Rs).map ah.cells).flatten)],.h 2 (.app (min p.length m) (((p.take (min p.length m)++(List.replicate m (⟨false,[],[]⟩:ah)).drop (min p.length m)):Rs).map ah.cells).flatten),.h 1 (iI (q.length:Int)),.aP [3,6,9,23,24,25],.ord [6,19]] (y7 (au ah.cells p) (au ah.cells q) (xi h1) (MT (p.length:Int) ((q.length:Int)+a)) (yy ah.cells (⟨false,[],[]⟩:ah) 56 m h2 h3 rfl) (QW bM (List.replicate m (⟨false,[],[]⟩:ah):Rs) (p:Rs) (Eq.refl (min p.length m)) h4) (au ah.cells q)) hL
theorem l10(b:Int)(m:Nat)(q:Rs)(d:Nat)(c:ah)(g:Rs)(v:ah)(k:Nat)(v1 i j:ah)(k1:Nat){r:PV}(h1:d<q.length)(h2:q[d]? = some v)(h3:aw ((d:Int)+b))(h4:((d:Int)+b)=(k:Int))(h5:k<m)(h6:g[k]? = some v1)(h7:Cp 245 [c.pv,v.pv] i.pv)(h8:Cp 70 [v1.pv,i.pv] j.pv)(h9:((d:Int)+b)=(k1:Int))(dM:k1<m)(gy:k1<g.length)(j8:(d+1)<9223372036854775808)(hL:aj b m q (d+1) c (g.set k1 j) r):aj b m q d c g r :=
 lG 132 [1,3,1,1,2,2,1,1,2,2,1] [.a,.q,.t,.h 1 (.row d (ah.cells v)),dr 15 1 [.none,.none,.none,(iI ((d:Int)+b)),.none,.none,.none,(iI ((d:Int)+b)),(.nat k),(.Ky [vB v1.neg,ag v1.num,ag v1.den]),.none,.none,(.pv i.pv),(.pv j.pv),(.nat k1),(.cells (.pure (((g.set k1 j):Rs).map ah.cells).flatten))],.h 0 (iI (((d+1):Nat):Int)),.aP [3,6,9,23,24,25],.drop [11]] (FO (ak h1) (bU ah.cells (Eq.refl (((d:Nat):Int):Int)) h2) (xi h3) (xi h3) (cj h4 h5) (wE bM h6) h7 h8 (cj h9 dM) (mm bM (g:Rs) j gy) (aR j8)) hL
theorem dw(b:Int)(m:Nat)(q:Rs)(d:Nat)(c:ah)(g i:Rs)(h1:q.length≤d)(h2:m=g.length)(h3:Cp 106 [ae g] (ae i)):aj b m q d c g (ae i) :=
 lD 126 [1,3,1] [.a,.q,.f,.iZ 9 ((g:Rs).map ah.cells),.h 1 (.pv (ae i))] (y3 (ax h1) (eR bM (g:Rs) h2) h3)
end lN
namespace td
theorem e0   : Cp 17 [.aq] (vI 0) :=
 eD func17 84 [] [.q,.q,.a,.q] True.intro
theorem e1 (e : Int)  : Cp 17 [(.iface 67 (vI e))] (vI e) :=
 eD func17 108 [] [.q,.q,.a,.q,.q,.a,.q] True.intro
end td
namespace vu
theorem e0(a b:af)(c d:Bool)(h1:Cp 19 [a.lo.pv,b.lo.pv] (vB c))(h2:c=true)(h3:Cp 19 [a.hi.pv,b.hi.pv] (vB d)):Cp 18 [a.pv,b.pv] (vB d) :=
 eD func18 72 [1,1,1,1,1,1,1,1] [.q,.ba [.o,.o,.o,.o,(.pv (vB c)),.o,.o,.o,.o,.o,(.pv (vB d)),(.dec true)]] (y8 h1 h2 h2 h2 h2 h2 h3 h2)
end vu
namespace zE
theorem e0(e:Option Int)(a b:Int)(h1:Cp 17 [bC e] (vI b)):Cp 36 [bC e,vI a] (vB (b==a)) :=
 eD func36 72 [1] [.q,.h 1 (.pv (vI b))] (y1 h1)
end zE
namespace qM
theorem e0(a b:af)(c d:ByteArray)(h1:Cp 128 [a.pv] b.pv)(h2:Cp 61 [b.lo.pv] (.str c))(h3:c.size+(ByteArray.mk #[46,46]).size<9223372036854775808)(h4:Cp 61 [b.hi.pv] (.str d))(h5:(c++(ByteArray.mk #[46,46])).size+d.size<9223372036854775808):Cp 60 [a.pv] (.str ((c++(ByteArray.mk #[46,46]))++d)) :=
 eD func60 78 [1,1,1,1,1] [.q,.h 1 (.pv b.pv),dr 8 1 [.none,.none,(.pv (.str c)),(.pv (.str (c++(ByteArray.mk #[46,46])))),.none,.none,(.pv (.str d)),(.pv (.str ((c++(ByteArray.mk #[46,46]))++d)))]] (y5 h1 h2 (C0 h3) h4 (C0 h5))
end qM
namespace mX
theorem e0(x a b:ah)(h1:Cp 91 [x.pv,(⟨false,[],[]⟩:ah).pv] a.pv)(h2:Cp 91 [x.pv,(⟨false,[],[]⟩:ah).pv] b.pv):Cp 65 [x.pv] ((⟨a,b⟩:af).pv) :=
 eD func65 72 [1,1] [.q,dr 7 1 [.none,.none,(.pv a.pv),.none,.none,(.pv b.pv)]] (y2 h1 h2)
end mX
namespace qc
theorem e0(a b:ah)(c d:Bool)(h1:a.neg=b.neg)(h2:Cp 149 [ag a.num,ag b.num] (vB c))(h3:c=true)(h4:Cp 149 [ag a.den,ag b.den] (vB d)):Cp 73 [a.pv,b.pv] (vB d) :=
 eD func73 72 [1,1,1,1,1,1,1,1,1,1,1,1,1,1] [.q,.ba [.o,.o,.o,.o,.o,.o,.o,.o,.o,.o,(.pv (vB c)),(.dec true),.o,.o,.o,.o,.o,(.pv (vB d)),(.dec true)]] (QZ (wC h1) (wC h1) (wC h1) (wC h1) (wC h1) h2 (wC h1) h3 h3 h3 h3 h3 h4 h3)
theorem e1(a b:ah)(c:Bool)(h1:a.neg=b.neg)(h2:Cp 149 [ag a.num,ag b.num] (vB c))(h3:c=false):Cp 73 [a.pv,b.pv] (vB false) :=
 eD func73 72 [1,1,1,1,1,1,1,1,1,1,1,1,1] [.q,.ba [.o,.o,.o,.o,.o,.o,.o,.o,.o,.o,(.pv (vB c)),(.dec true),.o,.skip,.skip,.skip,.skip,.skip,(.dec false)]] (Fz (wC h1) (wC h1) (wC h1) (wC h1) (wC h1) h2 (wC h1) h3 h3 h3 h3 h3 h3)
theorem e2(a b:ah)(h1:a.neg≠b.neg):Cp 73 [a.pv,b.pv] (vB false) :=
 eD func73 72 [1,1,1,1,1,1,1,1,1,1,1] [.q,.ba [.o,.o,.o,.o,.o,.o,.skip,.skip,.skip,.skip,.skip,(.dec false),.o,.skip,.skip,.skip,.skip,.skip]] (FO (Br h1) (Br h1) (Br h1) (Br h1) (Br h1) (Br h1) (Eq.refl false) (Eq.refl false) (Eq.refl false) (Eq.refl false) (Eq.refl false))
end qc
namespace jI
@[reducible] def fn:Func:=Tryz.f108
def bK:List gC:=focus [0,2,0,0,2,1,2,0,0,2,0,0] [.code (aA fn)]
def inv1(a b:List ah)(G7:Nat):St:=⟨[(0,(.pv (ae a))),(1,(.pv (ae b))),(5,(eI (G7:Int)))],[]⟩
@[reducible] def aj(a b:List ah)(G7:Nat)(r:PV):Prop:=L bT fn bK (inv1 a b G7) r
theorem e0(a b:Rs)(h1:a.length≠b.length):Cp 108 [ae a,ae b] (vB false) :=
 eD func108 84 [1,1,1] [.q,.ba [.o,(iI (a.length:Int)),.o,(iI (b.length:Int))],.t,.q] (y3 (au ah.cells a) (au ah.cells b) (nH h1))
theorem e1(a b:Rs){r:PV}(h1:a.length=b.length)(hL:aj a b 0 r):Cp 108 [ae a,ae b] r :=
 eG func108 96 [1,1,1] [.q,.ba [.o,(iI (a.length:Int)),.o,(iI (b.length:Int))],.f,.q,.aP [0,1,5]] (y3 (au ah.cells a) (au ah.cells b) (gj h1)) hL
theorem l10(a b:Rs)(c:Nat)(v v1:ah)(d:Bool)(h1:c<a.length)(h2:a[c]? = some v)(h3:b[c]? = some v1)(h4:Cp 73 [v.pv,v1.pv] (vB d))(h5:d=false):aj a b c (vB false) :=
 lD 135 [1,1,3,3,1,1] [.a,.h 2 (iI (a.length:Int)),.t,dr 10 0 [.none,.none,(.row c (ah.cells v)),.none,.none,.none,(.row c (ah.cells v1)),.none,(.pv (vB d))],.t,.q] (y6 (au ah.cells a) (ak h1) (bU ah.cells (Eq.refl (((c:Nat):Int):Int)) h2) (bU ah.cells (Eq.refl (((c:Nat):Int):Int)) h3) h4 (bB h5))
theorem dw(a b:Rs)(c:Nat)(v v1:ah)(d:Bool){r:PV}(h1:c<a.length)(h2:a[c]? = some v)(h3:b[c]? = some v1)(h4:Cp 73 [v.pv,v1.pv] (vB d))(h5:d=true)(h6:(c+1)<9223372036854775808)(hL:aj a b (c+1) r):aj a b c r :=
 lG 138 [1,1,3,3,1,1,1] [.a,.h 2 (iI (a.length:Int)),.t,dr 10 0 [.none,.none,(.row c (ah.cells v)),.none,.none,.none,(.row c (ah.cells v1)),.none,(.pv (vB d))],.f,.h 1 (iI (((c+1):Nat):Int)),.aP [0,1,5]] (y7 (au ah.cells a) (ak h1) (bU ah.cells (Eq.refl (((c:Nat):Int):Int)) h2) (bU ah.cells (Eq.refl (((c:Nat):Int):Int)) h3) h4 (ay h5) (aR h6)) hL
theorem ji(a b:Rs)(c:Nat)(h1:a.length≤c):aj a b c (vB true) :=
 lD 129 [1,1] [.a,.h 2 (iI (a.length:Int)),.f,.q] (y2 (au ah.cells a) (ax h1))
end jI
namespace jJ
theorem e0(a:af)(b:Bool)(h1:Cp 213 [a.pv] (vB b))(h2:b=false):Cp 128 [a.pv] ((⟨(⟨false,[],[]⟩:ah),(⟨false,[],[]⟩:ah)⟩:af).pv) :=
 eD func128 84 [1,1] [.q,.h 1 (.pv (vB b)),.t,.q] (y2 h1 (bB h2))
theorem e1(a:af)(b:Bool)(c d:ah)(h1:Cp 213 [a.pv] (vB b))(h2:b=true)(h3:Cp 91 [a.lo.pv,(⟨false,[],[]⟩:ah).pv] c.pv)(h4:Cp 91 [a.hi.pv,(⟨false,[],[]⟩:ah).pv] d.pv):Cp 128 [a.pv] ((⟨c,d⟩:af).pv) :=
 eD func128 87 [1,1,1,1] [.q,.h 1 (.pv (vB b)),.f,dr 9 1 [.none,.none,.none,(.pv c.pv),.none,.none,.none,(.pv d.pv)]] (y4 h1 (ay h2) h3 h4)
end jJ
namespace uG
theorem e0(a b:af)(c:ah)(h1:Cp 225 [a.pv] b.pv)(h2:Cp 143 [b.hi.pv,b.lo.pv] c.pv):Cp 141 [a.pv] c.pv :=
 eD func141 78 [1,1] [.q,.h 1 (.pv b.pv),.h 4 (.pv c.pv)] (y2 h1 h2)
end uG
namespace jr
@[reducible] def fn:Func:=Tryz.f149
def bK:List gC:=focus [0,2,0,0,2,1,2,0,0,2,0,0] [.code (aA fn)]
def inv1(a b:List UInt32)(G7:Nat):St:=⟨[(0,(.pv (ag a))),(1,(.pv (ag b))),(5,(eI (G7:Int)))],[]⟩
@[reducible] def aj(a b:List UInt32)(G7:Nat)(r:PV):Prop:=L bT fn bK (inv1 a b G7) r
theorem e0(a b:Ws)(h1:a.length≠b.length):Cp 149 [ag a,ag b] (vB false) :=
 eD func149 84 [1,1,1] [.q,.ba [.o,(iI (a.length:Int)),.o,(iI (b.length:Int))],.t,.q] (y3 (au ai a) (au ai b) (nH h1))
theorem e1(a b:Ws){r:PV}(h1:a.length=b.length)(hL:aj a b 0 r):Cp 149 [ag a,ag b] r :=
 eG func149 96 [1,1,1] [.q,.ba [.o,(iI (a.length:Int)),.o,(iI (b.length:Int))],.f,.q,.aP [0,1,5]] (y3 (au ai a) (au ai b) (gj h1)) hL
theorem l10(a b:Ws)(c:Nat)(v v1:UInt32)(h1:c<a.length)(h2:a[c]? = some v)(h3:b[c]? = some v1)(h4:v.toNat≠v1.toNat):aj a b c (vB false) :=
 lD 135 [1,1,3,3,1] [.a,.h 2 (iI (a.length:Int)),.t,dr 9 0 [.none,.none,(.row c (ai v)),.none,.none,.none,(.row c (ai v1))],.t,.q] (y5 (au ai a) (ak h1) (bU ai (Eq.refl (((c:Nat):Int):Int)) h2) (bU ai (Eq.refl (((c:Nat):Int):Int)) h3) (nH h4))
theorem dw(a b:Ws)(c:Nat)(v v1:UInt32){r:PV}(h1:c<a.length)(h2:a[c]? = some v)(h3:b[c]? = some v1)(h4:v.toNat=v1.toNat)(h5:(c+1)<9223372036854775808)(hL:aj a b (c+1) r):aj a b c r :=
 lG 138 [1,1,3,3,1,1] [.a,.h 2 (iI (a.length:Int)),.t,dr 9 0 [.none,.none,(.row c (ai v)),.none,.none,.none,(.row c (ai v1))],.f,.h 1 (iI (((c+1):Nat):Int)),.aP [0,1,5]] (y6 (au ai a) (ak h1) (bU ai (Eq.refl (((c:Nat):Int):Int)) h2) (bU ai (Eq.refl (((c:Nat):Int):Int)) h3) (gj h4) (aR h5)) hL
theorem ji(a b:Ws)(c:Nat)(h1:a.length≤c):aj a b c (vB true) :=
 lD 129 [1,1] [.a,.h 2 (iI (a.length:Int)),.f,.q] (y2 (au ai a) (ax h1))
end jr
namespace se
theorem e0(a b:af)(c d g:ah)(h1:Cp 128 [a.pv] b.pv)(h2:Cp 250 [] c.pv)(h3:Cp 91 [b.lo.pv,b.hi.pv] d.pv)(h4:Cp 198 [c.pv,d.pv] g.pv):Cp 176 [a.pv] g.pv :=
 eD func176 78 [1,1,1,1] [.q,.h 1 (.pv b.pv),dr 7 1 [(.pv c.pv),.none,.none,.none,.none,(.pv d.pv),(.pv g.pv)]] (y4 h1 h2 h3 h4)
end se
namespace qN
theorem e0(a b:af)(c d:Int)(h1:Cp 128 [a.pv] b.pv)(h2:Cp 33 [b.lo.pv] (vI c))(h3:Cp 33 [b.hi.pv] (vI d))(h4:c=d):Cp 203 [a.pv] (.aB [vI c,vB true]) :=
 eD func203 96 [1,1,1,1] [.q,.h 1 (.pv b.pv),dr 6 2 [.none,.none,(.pv (vI c)),.none,.none,(.pv (vI d))],.q,.t,.q] (y4 h1 h2 h3 (aF h4))
theorem e1(a b:af)(c d:Int)(h1:Cp 128 [a.pv] b.pv)(h2:Cp 33 [b.lo.pv] (vI c))(h3:Cp 33 [b.hi.pv] (vI d))(h4:c≠d):Cp 203 [a.pv] (.aB [vI 0,vB false]) :=
 eD func203 99 [1,1,1,1] [.q,.h 1 (.pv b.pv),dr 6 2 [.none,.none,(.pv (vI c)),.none,.none,(.pv (vI d))],.q,.f,.q] (y4 h1 h2 h3 (aN h4))
end qN
namespace vv
theorem e0(a b c d g:af)(h1:Cp 225 [a.pv] c.pv)(h2:Cp 225 [b.pv] d.pv)(h3:Cp 258 [(ae [c.lo,c.hi,d.lo,d.hi])] g.pv):Cp 206 [a.pv,b.pv] g.pv :=
 eD func206 78 [1,1,3,1] [.q,dr 4 2 [.none,(.pv c.pv),.none,(.pv d.pv)],.ba [.o,.o,.o,.o,.o,.o,.o,.o,(.ja 0 0 (([c.lo,c.hi,d.lo,d.hi]:Rs).map ah.cells)),(.pv g.pv)]] (y4 h1 h2 (fP bM ([c.lo,c.hi,d.lo,d.hi]:Rs)) h3)
end vv
namespace lO
theorem e0(a b:af)(c d:Int)(h1:Cp 225 [a.pv] b.pv)(h2:Cp 124 [b.lo.pv] (vI c))(h3:Cp 124 [b.hi.pv] (vI d))(h4:c≠d):Cp 210 [a.pv] (.aB [vI 0,vB false]) :=
 eD func210 96 [1,1,1,1] [.q,.h 1 (.pv b.pv),dr 6 2 [.none,.none,(.pv (vI c)),.none,.none,(.pv (vI d))],.q,.t,.q] (y4 h1 h2 h3 (dq h4))
theorem e1(a b:af)(c d:Int)(h1:Cp 225 [a.pv] b.pv)(h2:Cp 124 [b.lo.pv] (vI c))(h3:Cp 124 [b.hi.pv] (vI d))(h4:c=d):Cp 210 [a.pv] (.aB [vI c,vB true]) :=
 eD func210 99 [1,1,1,1] [.q,.h 1 (.pv b.pv),dr 6 2 [.none,.none,(.pv (vI c)),.none,.none,(.pv (vI d))],.q,.f,.q] (y4 h1 h2 h3 (bZ h4))
end lO
namespace gr
theorem e0(a:af)(b c:Bool)(d:Int)(h1:Cp 164 [a.lo.pv] (vB b))(h2:b=true)(h3:Cp 164 [a.hi.pv] (vB c))(h4:c=true)(h5:Cp 34 [a.lo.pv,a.hi.pv] (vI d)):Cp 213 [a.pv] (vB (decide (d≤0))) :=
 eD func213 72 [1,1,1,1,1,1,1,1,1,1,1,1,1,1] [.q,.ba [.o,.o,(.pv (vB b)),.o,.o,.o,(.pv (vB c)),(.dec true),.o,.o,.o,.o,.o,(.pv (vI d)),.o,(.dec true)]] (QZ h1 h2 h2 h2 h3 h2 h4 h4 h4 h4 h4 h5 h4 h4)
theorem e1(a:af)(b c:Bool)(h1:Cp 164 [a.lo.pv] (vB b))(h2:b=true)(h3:Cp 164 [a.hi.pv] (vB c))(h4:c=false):Cp 213 [a.pv] (vB false) :=
 eD func213 72 [1,1,1,1,1,1,1,1,1,1,1,1,1] [.q,.ba [.o,.o,(.pv (vB b)),.o,.o,.o,(.pv (vB c)),(.dec true),.o,.skip,.skip,.skip,.skip,.skip,.skip,(.dec false)]] (Fz h1 h2 h2 h2 h3 h2 h4 h4 h4 h4 h4 h4 h4)
theorem e2(a:af)(b:Bool)(h1:Cp 164 [a.lo.pv] (vB b))(h2:b=false):Cp 213 [a.pv] (vB false) :=
 eD func213 72 [1,1,1,1,1,1,1,1,1,1,1] [.q,.ba [.o,.o,(.pv (vB b)),.o,.skip,.skip,.skip,(.dec false),.o,.skip,.skip,.skip,.skip,.skip,.skip]] (FO h1 h2 h2 h2 h2 (Eq.refl false) (Eq.refl false) (Eq.refl false) (Eq.refl false) (Eq.refl false) (Eq.refl false))
end gr
namespace gX
theorem e0(a:af)(b:Bool)(h1:Cp 247 [a.pv] (vB b))(h2:b=false):Cp 225 [a.pv] ((⟨(⟨false,[],[]⟩:ah),(⟨false,[],[]⟩:ah)⟩:af).pv) :=
 eD func225 84 [1,1] [.q,.h 1 (.pv (vB b)),.t,.q] (y2 h1 (bB h2))
theorem e1(a:af)(b:Bool)(h1:Cp 247 [a.pv] (vB b))(h2:b=true):Cp 225 [a.pv] a.pv :=
 eD func225 87 [1,1] [.q,.h 1 (.pv (vB b)),.f,.q] (y2 h1 (ay h2))
end gX
namespace oW
theorem e0(a b:af)(c:ah)(d:Int)(g i:ah)(h1:Cp 225 [a.pv] b.pv)(h2:Cp 275 [vI 1,vI 2] (.aB [c.pv,vI d]))(h3:Cp 70 [b.lo.pv,b.hi.pv] g.pv)(h4:Cp 245 [c.pv,g.pv] i.pv):Cp 226 [a.pv] i.pv :=
 eD func226 84 [1,1,1,1] [.q,.h 1 (.pv b.pv),.h 0 (.pv (.aB [c.pv,vI d])),dr 7 1 [.none,.none,.none,.none,.none,(.pv g.pv),(.pv i.pv)]] (y4 h1 h2 h3 h4)
end oW
namespace dX
theorem e0(a:af)(b c:Bool)(d:Int)(h1:Cp 111 [a.lo.pv] (vB b))(h2:b=true)(h3:Cp 111 [a.hi.pv] (vB c))(h4:c=true)(h5:Cp 69 [a.lo.pv,a.hi.pv] (vI d)):Cp 247 [a.pv] (vB (decide (d≤0))) :=
 eD func247 72 [1,1,1,1,1,1,1,1,1,1,1,1,1,1] [.q,.ba [.o,.o,(.pv (vB b)),.o,.o,.o,(.pv (vB c)),(.dec true),.o,.o,.o,.o,.o,(.pv (vI d)),.o,(.dec true)]] (QZ h1 h2 h2 h2 h3 h2 h4 h4 h4 h4 h4 h5 h4 h4)
theorem e1(a:af)(b c:Bool)(h1:Cp 111 [a.lo.pv] (vB b))(h2:b=true)(h3:Cp 111 [a.hi.pv] (vB c))(h4:c=false):Cp 247 [a.pv] (vB false) :=
 eD func247 72 [1,1,1,1,1,1,1,1,1,1,1,1,1] [.q,.ba [.o,.o,(.pv (vB b)),.o,.o,.o,(.pv (vB c)),(.dec true),.o,.skip,.skip,.skip,.skip,.skip,.skip,(.dec false)]] (Fz h1 h2 h2 h2 h3 h2 h4 h4 h4 h4 h4 h4 h4)
theorem e2(a:af)(b:Bool)(h1:Cp 111 [a.lo.pv] (vB b))(h2:b=false):Cp 247 [a.pv] (vB false) :=
 eD func247 72 [1,1,1,1,1,1,1,1,1,1,1] [.q,.ba [.o,.o,(.pv (vB b)),.o,.skip,.skip,.skip,(.dec false),.o,.skip,.skip,.skip,.skip,.skip,.skip]] (FO h1 h2 h2 h2 h2 (Eq.refl false) (Eq.refl false) (Eq.refl false) (Eq.refl false) (Eq.refl false) (Eq.refl false))
end dX
namespace qO
theorem e0(a:ah)(b:Option Int)(h1:Cp 31 [vI 1,vI 2] (.aB [a.pv,bC b])):Cp 250 [] a.pv :=
 eD func250 78 [1] [.q,.h 0 (.pv (.aB [a.pv,bC b])),.q] (y1 h1)
end qO
namespace yN
theorem e0(a b c d:af)(g i:ah)(h1:Cp 128 [a.pv] c.pv)(h2:Cp 128 [b.pv] d.pv)(h3:Cp 91 [c.lo.pv,d.lo.pv] g.pv)(h4:Cp 91 [c.hi.pv,d.hi.pv] i.pv):Cp 256 [a.pv,b.pv] ((⟨g,i⟩:af).pv) :=
 eD func256 78 [1,1,1,1] [.q,dr 4 2 [.none,(.pv c.pv),.none,(.pv d.pv)],dr 11 1 [.none,.none,.none,.none,(.pv g.pv),.none,.none,.none,.none,(.pv i.pv)]] (y4 h1 h2 h3 h4)
end yN
namespace jK
@[reducible] def fn:Func:=Tryz.f257
def bK:List gC:=focus [0,2,0,2,0,2,0,2,0,0,2,0,0] [.code (aA fn)]
def inv1(Vj:Nat)(iQ:af)(vw Ps M0:ah):St:=⟨[(4,(.ptr 4 0)),(6,(.ptr 6 0)),(38,(.row 38 0 3 3)),(39,(eI 3)),(40,(eI (Vj:Int)))],[(4,(.lit [(eB false),(.pv (.list [])),(.pv (.list [])),(eB false),(.pv (.list [])),(.pv (.list []))])),(6,(.lit [(eB iQ.lo.neg),(.pv (ag iQ.lo.num)),(.pv (ag iQ.lo.den)),(eB iQ.hi.neg),(.pv (ag iQ.hi.num)),(.pv (ag iQ.hi.den))])),(38,(.pure (([vw,Ps,M0]:List ah).map ah.cells).flatten))]⟩
@[reducible] def aj(Vj:Nat)(iQ:af)(vw Ps M0:ah)(r:PV):Prop:=L bT fn bK (inv1 Vj iQ vw Ps M0) r
theorem e0(a b c d:af)(g i j k l:ah){r:PV}(h1:Cp 128 [a.pv] c.pv)(h2:Cp 128 [b.pv] d.pv)(h3:Cp 198 [c.lo.pv,d.lo.pv] g.pv)(h4:Cp 91 [g.pv,(⟨false,[],[]⟩:ah).pv] i.pv)(h5:Cp 198 [c.lo.pv,d.hi.pv] j.pv)(h6:Cp 198 [c.hi.pv,d.lo.pv] k.pv)(h7:Cp 198 [c.hi.pv,d.hi.pv] l.pv)(hL:aj 0 (⟨g,i⟩:af) j k l r):Cp 257 [a.pv,b.pv] r :=
 eG func257 99 [1,1,1,1,1,1,1] [.q,dr 4 2 [.none,(.pv c.pv),.none,(.pv d.pv)],.h 4 (.pv g.pv),dr 6 1 [.none,.none,.none,(.pv i.pv)],dr 18 0 [.none,.none,.none,.none,(.pv j.pv),.none,.none,.none,.none,(.pv k.pv),.none,.none,.none,.none,(.pv l.pv)],.aP [4,6,38,39,40],.drop [5,3,2],.ord [4,6,38]] (y7 h1 h2 h3 h4 h5 h6 h7) hL
theorem l10(b:Nat)(c:af)(d g i v j k:ah){r:PV}(h1:b<3)(h2:[d,g,i][b]? = some v)(h3:Cp 282 [c.lo.pv,v.pv] j.pv)(h4:Cp 283 [c.hi.pv,v.pv] k.pv)(h5:(b+1)<9223372036854775808)(hL:aj (b+1) (⟨j,k⟩:af) d g i r):aj b c d g i r :=
 lG 138 [1,2,2,1,1,1] [.a,.q,.t,.ba [(.nat b),(.Ky [vB v.neg,ag v.num,ag v.den])],dr 9 1 [.none,.none,.none,(.pv j.pv),.none,.none,.none,(.pv k.pv)],.h 0 (iI (((b+1):Nat):Int)),.aP [4,6,38,39,40],.drop [8]] (y6 (ak h1) (cj (Eq.refl (((b:Nat):Int):Int)) h1) (wE bM h2) h3 h4 (aR h5)) hL
theorem dw(b:Nat)(c:af)(d g i:ah)(h1:3≤b):aj b c d g i c.pv :=
 lD 132 [1] [.a,.q,.f,.q] (y1 (ax h1))
end jK
namespace gI
@[reducible] def fn:Func:=Tryz.f258
def bK:List gC:=focus [0,2,0,2,0,0,2,0,0] [.code (aA fn)]
def inv1(l:List ah)(kQ:Nat)(dI:af):St:=⟨[(2,(.ptr 2 0)),(3,(.ptr 3 0)),(17,(.pv (ae l))),(18,(eI (l.length:Int))),(19,(eI (kQ:Int)))],[(2,(.lit [(eB false),(.pv (.list [])),(.pv (.list [])),(eB false),(.pv (.list [])),(.pv (.list []))])),(3,(.lit [(eB dI.lo.neg),(.pv (ag dI.lo.num)),(.pv (ag dI.lo.den)),(eB dI.hi.neg),(.pv (ag dI.hi.num)),(.pv (ag dI.hi.den))]))]⟩
@[reducible] def aj(l:List ah)(kQ:Nat)(dI:af)(r:PV):Prop:=L bT fn bK (inv1 l kQ dI) r
theorem e0(l:Rs)(v a b:ah){r:PV}(h1:l[0]? = some v)(h2:Cp 70 [v.pv,(⟨false,[],[]⟩:ah).pv] a.pv)(h3:Cp 70 [v.pv,(⟨false,[],[]⟩:ah).pv] b.pv)(hL:aj l 0 (⟨a,b⟩:af) r):Cp 258 [ae l] r :=
 eG func258 87 [3,1,3,1,1] [.q,dr 12 1 [.none,(.row 0 (ah.cells v)),.none,.none,(.pv a.pv),.none,(.row 0 (ah.cells v)),.none,.none,(.pv b.pv)],.h 1 (iI (l.length:Int)),.aP [2,3,17,18,19],.ord [2,3]] (y5 (bU ah.cells (Eq.refl (0:Int)) h1) h2 (bU ah.cells (Eq.refl (0:Int)) h1) h3 (au ah.cells l)) hL
theorem l10(l:Rs)(b:Nat)(c:af)(v d g:ah){r:PV}(h1:b<l.length)(h2:l[b]? = some v)(h3:Cp 284 [c.lo.pv,v.pv] d.pv)(h4:Cp 285 [c.hi.pv,v.pv] g.pv)(h5:(b+1)<9223372036854775808)(hL:aj l (b+1) (⟨d,g⟩:af) r):aj l b c r :=
 lG 126 [1,3,1,1,1] [.a,.q,.t,.h 0 (.row b (ah.cells v)),dr 11 1 [.none,.none,.none,(.pv d.pv),.none,.none,.none,(.pv g.pv)],.h 0 (iI (((b+1):Nat):Int)),.aP [2,3,17,18,19],.drop [5]] (y5 (ak h1) (bU ah.cells (Eq.refl (((b:Nat):Int):Int)) h2) h3 h4 (aR h5)) hL
theorem dw(l:Rs)(b:Nat)(c:af)(h1:l.length≤b):aj l b c c.pv :=
 lD 120 [1] [.a,.q,.f,.q] (y1 (ax h1))
end gI
namespace sf
theorem e0(a b c d:af)(g i:ah)(j:af)(h1:Cp 225 [a.pv] c.pv)(h2:Cp 225 [b.pv] d.pv)(h3:Cp 70 [c.lo.pv,d.lo.pv] g.pv)(h4:Cp 70 [c.hi.pv,d.hi.pv] i.pv)(h5:Cp 258 [(ae [g,i])] j.pv):Cp 259 [a.pv,b.pv] j.pv :=
 eD func259 78 [1,1,1,1,3,1] [.q,dr 4 2 [.none,(.pv c.pv),.none,(.pv d.pv)],dr 12 1 [.none,.none,.none,.none,(.pv g.pv),.none,.none,.none,.none,(.pv i.pv),(.ja 0 0 (([g,i]:Rs).map ah.cells)),(.pv j.pv)]] (y6 h1 h2 h3 h4 (fP bM ([g,i]:Rs)) h5)
end sf
namespace si
theorem e0(a b c d:af)(g i j k:ah)(l:af)(h1:Cp 225 [a.pv] c.pv)(h2:Cp 225 [b.pv] d.pv)(h3:Cp 245 [c.lo.pv,d.lo.pv] g.pv)(h4:Cp 245 [c.lo.pv,d.hi.pv] i.pv)(h5:Cp 245 [c.hi.pv,d.lo.pv] j.pv)(h6:Cp 245 [c.hi.pv,d.hi.pv] k.pv)(h7:Cp 258 [(ae [g,i,j,k])] l.pv):Cp 260 [a.pv,b.pv] l.pv :=
 eD func260 78 [1,1,1,1,1,1,3,1] [.q,dr 4 2 [.none,(.pv c.pv),.none,(.pv d.pv)],dr 22 1 [.none,.none,.none,.none,(.pv g.pv),.none,.none,.none,.none,(.pv i.pv),.none,.none,.none,.none,(.pv j.pv),.none,.none,.none,.none,(.pv k.pv),(.ja 0 0 (([g,i,j,k]:Rs).map ah.cells)),(.pv l.pv)]] (y8 h1 h2 h3 h4 h5 h6 (fP bM ([g,i,j,k]:Rs)) h7)
end si
namespace qz
theorem e0(x:ah)(a:af)(h1:Cp 258 [(ae [x])] a.pv):Cp 261 [x.pv] a.pv :=
 eD func261 72 [3,1] [.q,.ba [.o,(.ja 0 0 (([x]:Rs).map ah.cells)),(.pv a.pv)]] (y2 (fP bM ([x]:Rs)) h1)
end qz
namespace df
theorem e0(a:az)(h1:Cp 79 [ae a.p] .aq)(h2:a.p.length=0):Cp 23 [a.pv] (.iface 67 (vI 8)) :=
 eD func23 105 [1,1,1] [.q,.h 2 (.pv .aq),.q,.a,.h 2 (iI (a.p.length:Int)),.t,.q] (y3 h1 (au ah.cells a.p) (aL h2))
theorem e1(a:az)(b c:Rs)(h1:Cp 79 [ae a.p] .aq)(h2:a.p.length≠0)(h3:Cp 80 [ae a.p] (.aB [ae b,.aq]))(h4:Cp 81 [ae a.p,ae b] (.aB [ae c,.aq]))(h5:c.length≠1):Cp 23 [a.pv] (.iface 67 (vI 2)) :=
 eD func23 162 [1,1,1,1,1,1,1] [.q,.h 2 (.pv .aq),.q,.a,.h 2 (iI (a.p.length:Int)),.f,.h 2 (.pv (.aB [ae b,.aq])),.q,.a,.h 3 (.pv (.aB [ae c,.aq])),.q,.a,.h 1 (iI (c.length:Int)),.t,.q] (y7 h1 (au ah.cells a.p) (aC h2) h3 h4 (au ah.cells c) (nH h5))
theorem e2(a:az)(b c:Rs)(d:Bool)(h1:Cp 79 [ae a.p] .aq)(h2:a.p.length≠0)(h3:Cp 80 [ae a.p] (.aB [ae b,.aq]))(h4:Cp 81 [ae a.p,ae b] (.aB [ae c,.aq]))(h5:c.length=1)(h6:Cp 82 [ae a.p,a.rV.pv] (.aB [vB d,.aq]))(h7:d=false):Cp 23 [a.pv] (.iface 67 (vI 14)) :=
 eD func23 183 [1,1,1,1,1,1,1,1,1,1,1] [.q,.h 2 (.pv .aq),.q,.a,.h 2 (iI (a.p.length:Int)),.f,.h 2 (.pv (.aB [ae b,.aq])),.q,.a,.h 3 (.pv (.aB [ae c,.aq])),.q,.a,.h 1 (iI (c.length:Int)),.f,.h 4 (.pv (.aB [vB d,.aq])),.q,.t,.q] (FO h1 (au ah.cells a.p) (aC h2) h3 h4 (au ah.cells c) (gj h5) h6 (Eq.refl true) (Eq.refl true) (bB h7))
theorem e3(a:az)(b c:Rs)(d:Bool)(h1:Cp 79 [ae a.p] .aq)(h2:a.p.length≠0)(h3:Cp 80 [ae a.p] (.aB [ae b,.aq]))(h4:Cp 81 [ae a.p,ae b] (.aB [ae c,.aq]))(h5:c.length=1)(h6:Cp 82 [ae a.p,a.rV.pv] (.aB [vB d,.aq]))(h7:d=true):Cp 23 [a.pv] .aq :=
 eD func23 186 [1,1,1,1,1,1,1,1,1,1,1] [.q,.h 2 (.pv .aq),.q,.a,.h 2 (iI (a.p.length:Int)),.f,.h 2 (.pv (.aB [ae b,.aq])),.q,.a,.h 3 (.pv (.aB [ae c,.aq])),.q,.a,.h 1 (iI (c.length:Int)),.f,.h 4 (.pv (.aB [vB d,.aq])),.q,.f,.q] (FO h1 (au ah.cells a.p) (aC h2) h3 h4 (au ah.cells c) (gj h5) h6 (Eq.refl true) (Eq.refl true) (ay h7))
theorem e7(a:az)(b:Int)(h1:Cp 79 [ae a.p] (.iface 67 (vI b))):Cp 23 [a.pv] (.iface 67 (vI b)) :=
 eD func23 90 [1] [.q,.h 2 (.pv (.iface 67 (vI b))),.q,.a,.q] (y1 h1)
end df
namespace De
theorem e0(x a of:ah)(b:af)(h1:Cp 87 [x.pv] a.pv)(h2:Cp 46 [vI 1] of.pv)(h3:Cp 65 [x.pv] b.pv):Cp 26 [x.pv] ((⟨[a,of],b⟩:az).pv) :=
 eD func26 72 [1,1,3,1] [.q,dr 7 1 [.none,(.pv a.pv),(.pv of.pv),(.ja 0 0 (([a,of]:Rs).map ah.cells)),.none,(.pv b.pv)]] (y4 h1 h2 (fP bM ([a,of]:Rs)) h3)
end De
namespace dR
@[reducible] def fn:Func:=Tryz.f21
def bK:List gC:=focus [0,2,0,2,0,0,2,1,2,0,2,0,0,2,0,0] [.code (aA fn)]
def inv1(p:List ah)(FT:List az)(DN:List af)(Hd:Nat):St:=⟨[(0,(.pv (ae p))),(6,(.row 38 0 FT.length 7)),(19,(.pv (bq af.cells DN))),(20,(eI (DN.length:Int))),(21,(eI (Hd:Int)))],[(38,(.pure ((FT:List az).map az.cells).flatten))]⟩
@[reducible] def aj(p:List ah)(FT:List az)(DN:List af)(Hd:Nat)(r:PV):Prop:=L bT fn bK (inv1 p FT DN Hd) r
theorem e0(p:Rs)(b:List af){r:PV}(h1:Cp 75 [ae p] (.aB [bq af.cells b,.aq]))(hL:aj p [] b 0 r):Cp 21 [ae p] r :=
 eG func21 108 [1,1] [.q,.h 1 (.pv (.aB [bq af.cells b,.aq])),.q,.a,.h 0 .nil,.ju 6 38 7,.h 1 (iI (b.length:Int)),.aP [0,6,19,20,21]] (y2 h1 (au af.cells b)) hL
theorem e1(p:Rs)(b:List af)(c:Int)(h1:Cp 75 [ae p] (.aB [bq af.cells b,(.iface 67 (vI c))])):Cp 21 [ae p] (.aB [(bq az.cells []),(.iface 67 (vI c))]) :=
 eD func21 90 [1] [.q,.h 1 (.pv (.aB [bq af.cells b,(.iface 67 (vI c))])),.q,.a,.q] (y1 h1)
theorem l10(p:Rs)(b:List az)(c:List af)(d:Nat)(v:af)(g:Rs){r:PV}(h1:d<c.length)(h2:c[d]? = some v)(h3:Cp 76 [ae p] (.aB [ae g,.aq]))(h4:((b++[(⟨g,v⟩:az)]):List az).length*136≤140737488355328)(h5:(d+1)<9223372036854775808)(hL:aj p (b++[(⟨g,v⟩:az)]) c (d+1) r):aj p b c d r :=
 lG 168 [1,3,1,6,1] [.a,.q,.t,.h 0 (.row d (af.cells v)),.h 1 (.pv (.aB [ae g,.aq])),.q,.a,.h 5 (.app ((b++[(⟨g,v⟩:az)]):List az).length (((b++[(⟨g,v⟩:az)]):List az).map az.cells).flatten),.h 0 (iI (((d+1):Nat):Int)),.aP [0,6,19,20,21],.drop [37,8]] (y5 (ak h1) (bU af.cells (Eq.refl (((d:Nat):Int):Int)) h2) h3 (gm fY (b:List az) ([(⟨g,v⟩:az)]:List az) 136 (Eq.refl (b:List az).length) (Eq.refl ([(⟨g,v⟩:az)]:List az).length) h4 rfl) (aR h5)) hL
theorem ji(p:Rs)(b:List az)(c:List af)(d:Nat)(h1:c.length≤d):aj p b c d (.aB [bq az.cells b,.aq]) :=
 lD 141 [1,3] [.a,.q,.f,.q,.iZ 2 ((b:List az).map az.cells)] (y2 (ax h1) (eR fY (b:List az) (Eq.refl (b:List az).length)))
end dR
namespace cK
theorem e0(a:az)(x:ah)(b c:Int)(h1:Cp 34 [a.rV.lo.pv,a.rV.hi.pv] (vI b))(h2:b=0)(h3:Cp 34 [a.rV.lo.pv,x.pv] (vI c)):Cp 64 [a.pv,x.pv] (.aB [vI c,.aq]) :=
 eD func64 87 [1,1,1] [.q,.h 6 (.pv (vI b)),.t,.h 4 (.pv (vI c))] (y3 h1 (aF h2) h3)
theorem e1(a:az)(x:ah)(b c:Int)(h1:Cp 34 [a.rV.lo.pv,a.rV.hi.pv] (vI b))(h2:b≠0)(h3:Cp 34 [x.pv,a.rV.lo.pv] (vI c))(h4:c≤0):Cp 64 [a.pv,x.pv] (.aB [vI 1,.aq]) :=
 eD func64 96 [1,1,1,1] [.q,.h 6 (.pv (vI b)),.f,.h 4 (.pv (vI c)),.t,.q] (y4 h1 (aN h2) h3 (jv h4))
theorem e2(a:az)(x:ah)(b c d:Int)(h1:Cp 34 [a.rV.lo.pv,a.rV.hi.pv] (vI b))(h2:b≠0)(h3:Cp 34 [x.pv,a.rV.lo.pv] (vI c))(h4:0<c)(h5:Cp 34 [x.pv,a.rV.hi.pv] (vI d))(h6:0≤d):Cp 64 [a.pv,x.pv] (.aB [(vI (-1)),.aq]) :=
 eD func64 105 [1,1,1,1,1,1] [.q,.h 6 (.pv (vI b)),.f,.h 4 (.pv (vI c)),.f,.h 4 (.pv (vI d)),.t,.q] (y6 h1 (aN h2) h3 (kL h4) h5 (jv h6))
theorem e3(a:az)(x:ah)(b c d:Int)(g i:ah)(j k:Int)(h1:Cp 34 [a.rV.lo.pv,a.rV.hi.pv] (vI b))(h2:b≠0)(h3:Cp 34 [x.pv,a.rV.lo.pv] (vI c))(h4:0<c)(h5:Cp 34 [x.pv,a.rV.hi.pv] (vI d))(h6:d<0)(h7:Cp 133 [ae a.p,x.pv] (.aB [g.pv,.aq]))(h8:Cp 133 [ae a.p,a.rV.lo.pv] (.aB [i.pv,.aq]))(h9:Cp 33 [g.pv] (vI j))(dM:Cp 33 [i.pv] (vI k))(gy:aw (j*k)):Cp 64 [a.pv,x.pv] (.aB [(vI (j*k)),.aq]) :=
 eD func64 153 [1,1,1,1,1,1,1,1,1,1,1] [.q,.h 6 (.pv (vI b)),.f,.h 4 (.pv (vI c)),.f,.h 4 (.pv (vI d)),.f,.h 3 (.pv (.aB [g.pv,.aq])),.q,.a,.h 5 (.pv (.aB [i.pv,.aq])),.q,.a,dr 5 2 [.none,(.pv (vI j)),.none,(.pv (vI k)),(iI (j*k))]] (FO h1 (aN h2) h3 (kL h4) h5 (kL h6) h7 h8 h9 dM (mR gy))
end cK
namespace qd
theorem e0(a:az)(x:ah)(b:Int)(c:Option Int)(h1:Cp 23 [a.pv] .aq)(h2:Cp 64 [a.pv,x.pv] (.aB [vI b,bC c])):Cp 30 [a.pv,x.pv] (.aB [vI b,bC c]) :=
 eD func30 93 [1,1] [.q,.h 1 (.pv .aq),.q,.a,.h 2 (.pv (.aB [vI b,bC c]))] (y2 h1 h2)
theorem e1(a:az)(x:ah)(b:Int)(h1:Cp 23 [a.pv] (.iface 67 (vI b))):Cp 30 [a.pv,x.pv] (.aB [vI 0,(.iface 67 (vI b))]) :=
 eD func30 90 [1] [.q,.h 1 (.pv (.iface 67 (vI b))),.q,.a,.q] (y1 h1)
end qd
namespace dh
theorem e0(a:az)(b:Int)(h1:Cp 34 [a.rV.lo.pv,a.rV.hi.pv] (vI b))(h2:b=0):Cp 204 [a.pv] (.aB [a.pv,.aq]) :=
 eD func204 84 [1,1] [.q,.h 6 (.pv (vI b)),.t,.q] (y2 h1 (aF h2))
theorem e1(a:az)(b:Int)(c:ah)(d:Int)(g:af)(h1:Cp 34 [a.rV.lo.pv,a.rV.hi.pv] (vI b))(h2:b≠0)(h3:Cp 176 [a.rV.pv] c.pv)(h4:Cp 64 [a.pv,c.pv] (.aB [vI d,.aq]))(h5:d=0)(h6:Cp 65 [c.pv] g.pv):Cp 204 [a.pv] (.aB [(⟨a.p,g⟩:az).pv,.aq]) :=
 eD func204 135 [1,1,1,1,1,1] [.q,.h 6 (.pv (vI b)),.f,.h 2 (.pv c.pv),.h 2 (.pv (.aB [vI d,.aq])),.q,.a,.q,.q,.t,dr 5 2 [.none,.none,.none,(.pv g.pv)]] (y6 h1 (aN h2) h3 h4 (aF h5) h6)
theorem e2(a:az)(b:Int)(c:ah)(d:Int)(h1:Cp 34 [a.rV.lo.pv,a.rV.hi.pv] (vI b))(h2:b≠0)(h3:Cp 176 [a.rV.pv] c.pv)(h4:Cp 64 [a.pv,c.pv] (.aB [vI d,.aq]))(h5:d≠0)(h6:d=1):Cp 204 [a.pv] (.aB [(⟨a.p,(⟨c,a.rV.hi⟩:af)⟩:az).pv,.aq]) :=
 eD func204 144 [1,1,1,1,1,1] [.q,.h 6 (.pv (vI b)),.f,.h 2 (.pv c.pv),.h 2 (.pv (.aB [vI d,.aq])),.q,.a,.q,.q,.f,.q,.t,.q] (y6 h1 (aN h2) h3 h4 (aN h5) (aF h6))
theorem e3(a:az)(b:Int)(c:ah)(d:Int)(h1:Cp 34 [a.rV.lo.pv,a.rV.hi.pv] (vI b))(h2:b≠0)(h3:Cp 176 [a.rV.pv] c.pv)(h4:Cp 64 [a.pv,c.pv] (.aB [vI d,.aq]))(h5:d≠0)(h6:d≠1):Cp 204 [a.pv] (.aB [(⟨a.p,(⟨a.rV.lo,c⟩:af)⟩:az).pv,.aq]) :=
 eD func204 150 [1,1,1,1,1,1] [.q,.h 6 (.pv (vI b)),.f,.h 2 (.pv c.pv),.h 2 (.pv (.aB [vI d,.aq])),.q,.a,.q,.q,.f,.q,.f,.q] (y6 h1 (aN h2) h3 h4 (aN h5) (aN h6))
end dh
namespace bV
theorem e0(p:Rs)(a:az)(h1:p.length=0):Cp 201 [ae p,a.pv] (.aB [vB true,.aq]) :=
 eD func201 84 [1,1] [.q,.h 1 (iI (p.length:Int)),.t,.q] (y2 (au ah.cells p) (aL h1))
theorem e1(p:Rs)(a:az)(b:Rs)(h1:p.length≠0)(h2:Cp 81 [ae p,ae a.p] (.aB [ae b,.aq]))(h3:b.length<2):Cp 201 [ae p,a.pv] (.aB [vB false,.aq]) :=
 eD func201 120 [1,1,1,1,1] [.q,.h 1 (iI (p.length:Int)),.f,.h 3 (.pv (.aB [ae b,.aq])),.q,.a,.h 1 (iI (b.length:Int)),.t,.q] (y5 (au ah.cells p) (aC h1) h2 (au ah.cells b) (ak h3))
theorem e2(p:Rs)(a:az)(b:Rs)(c:Int)(d:ah)(g:Option Int)(i:Int)(h1:p.length≠0)(h2:Cp 81 [ae p,ae a.p] (.aB [ae b,.aq]))(h3:2≤b.length)(h4:Cp 34 [a.rV.lo.pv,a.rV.hi.pv] (vI c))(h5:c=0)(h6:Cp 133 [ae b,a.rV.lo.pv] (.aB [d.pv,bC g]))(h7:Cp 33 [d.pv] (vI i)):Cp 201 [ae p,a.pv] (.aB [(vB (i==0)),bC g]) :=
 eD func201 141 [1,1,1,1,1,1,1,1,1] [.q,.h 1 (iI (p.length:Int)),.f,.h 3 (.pv (.aB [ae b,.aq])),.q,.a,.h 1 (iI (b.length:Int)),.f,.h 6 (.pv (vI c)),.t,.h 4 (.pv (.aB [d.pv,bC g])),.h 1 (.pv (vI i))] (y9 (au ah.cells p) (aC h1) h2 (au ah.cells b) (ax h3) h4 (aF h5) h6 h7)
theorem e3(p:Rs)(a:az)(b:Rs)(c d:Int)(g:Option Int)(h1:p.length≠0)(h2:Cp 81 [ae p,ae a.p] (.aB [ae b,.aq]))(h3:2≤b.length)(h4:Cp 34 [a.rV.lo.pv,a.rV.hi.pv] (vI c))(h5:c≠0)(h6:Cp 246 [ae b,a.rV.lo.pv,a.rV.hi.pv] (.aB [vI d,bC g])):Cp 201 [ae p,a.pv] (.aB [(vB (decide (d>0))),bC g]) :=
 eD func201 144 [1,1,1,1,1,1,1,1] [.q,.h 1 (iI (p.length:Int)),.f,.h 3 (.pv (.aB [ae b,.aq])),.q,.a,.h 1 (iI (b.length:Int)),.f,.h 6 (.pv (vI c)),.f,.h 7 (.pv (.aB [vI d,bC g])),.q] (y8 (au ah.cells p) (aC h1) h2 (au ah.cells b) (ax h3) h4 (aN h5) h6)
end bV
namespace ek
@[reducible] def fn:Func:=Tryz.f121
def bK:List gC:=focus [0,2,0,2,0,0,2,1,2,0,0] [.code (aA fn)]
def inv1(p:List ah)(dI:az):St:=⟨[(0,(.pv (ae p))),(3,(.ptr 3 0))],[(3,(.lit [(.pv (ae dI.p)),(eB dI.rV.lo.neg),(.pv (ag dI.rV.lo.num)),(.pv (ag dI.rV.lo.den)),(eB dI.rV.hi.neg),(.pv (ag dI.rV.hi.num)),(.pv (ag dI.rV.hi.den))]))]⟩
@[reducible] def aj(p:List ah)(dI:az)(r:PV):Prop:=L bT fn bK (inv1 p dI) r
theorem e0(p:Rs)(a:az)(b:Bool)(h1:Cp 201 [ae p,a.pv] (.aB [vB b,.aq]))(h2:b=true):Cp 121 [ae p,a.pv] (.aB [vI 0,.aq]) :=
 eD func121 90 [1,1,1] [.q,.h 2 (.pv (.aB [vB b,.aq])),.q,.t,.q] (y3 h1 (Eq.refl false) h2)
theorem e1(p:Rs)(a:az)(b:Bool){r:PV}(h1:Cp 201 [ae p,a.pv] (.aB [vB b,.aq]))(h2:b=false)(hL:aj p a r):Cp 121 [ae p,a.pv] r :=
 eG func121 93 [1,1,1] [.q,.h 2 (.pv (.aB [vB b,.aq])),.q,.f,.aP [0,3]] (y3 h1 (Eq.refl false) h2) hL
theorem l10(p:Rs)(b:az)(c:af)(d:Int)(g:Bool)(h1:Cp 202 [ae p,b.rV.pv] (.aB [c.pv,.aq]))(h2:Cp 203 [c.pv] (.aB [vI d,vB g]))(h3:g=true)(h4:d≠0):aj p b (.aB [vI d,.aq]) :=
 lD 144 [1,1,1,1,1,1] [.a,.h 3 (.pv (.aB [c.pv,.aq])),.q,.a,.h 1 (.pv (.aB [vI d,vB g])),.h 4 (.dec true),.t,.q] (y6 h1 h2 h3 h3 h3 (dq h4))
theorem dw(p:Rs)(b:az)(c:af)(d:Int)(g:Bool)(i:az){r:PV}(h1:Cp 202 [ae p,b.rV.pv] (.aB [c.pv,.aq]))(h2:Cp 203 [c.pv] (.aB [vI d,vB g]))(h3:g=true)(h4:d=0)(h5:Cp 204 [b.pv] (.aB [i.pv,.aq]))(hL:aj p i r):aj p b r :=
 lG 162 [1,1,1,1,1,1,1] [.a,.h 3 (.pv (.aB [c.pv,.aq])),.q,.a,.h 1 (.pv (.aB [vI d,vB g])),.h 4 (.dec true),.f,.h 1 (.pv (.aB [i.pv,.aq])),.q,.a,.aP [0,3],.drop [8]] (y7 h1 h2 h3 h3 h3 (bZ h4) h5) hL
theorem oK(p:Rs)(b:az)(c:af)(d:Int)(g:Bool)(i:az){r:PV}(h1:Cp 202 [ae p,b.rV.pv] (.aB [c.pv,.aq]))(h2:Cp 203 [c.pv] (.aB [vI d,vB g]))(h3:g=false)(h4:Cp 204 [b.pv] (.aB [i.pv,.aq]))(hL:aj p i r):aj p b r :=
 lG 162 [1,1,1,1,1,1] [.a,.h 3 (.pv (.aB [c.pv,.aq])),.q,.a,.h 1 (.pv (.aB [vI d,vB g])),.ba [.o,.o,.skip,.skip,(.dec false)],.a,.h 1 (.pv (.aB [i.pv,.aq])),.q,.a,.aP [0,3],.drop [8]] (y6 h1 h2 h3 h3 h3 h4) hL
end ek
namespace mY
theorem e0(p:Rs)(a:az)(b:Int)(c:Option Int)(h1:Cp 23 [a.pv] .aq)(h2:Cp 79 [ae p] .aq)(h3:Cp 121 [ae p,a.pv] (.aB [vI b,bC c])):Cp 52 [ae p,a.pv] (.aB [vI b,bC c]) :=
 eD func52 114 [1,1,1] [.q,.h 1 (.pv .aq),.q,.a,.h 1 (.pv .aq),.q,.a,.h 2 (.pv (.aB [vI b,bC c]))] (y3 h1 h2 h3)
theorem e1(p:Rs)(a:az)(b:Int)(h1:Cp 23 [a.pv] .aq)(h2:Cp 79 [ae p] (.iface 67 (vI b))):Cp 52 [ae p,a.pv] (.aB [vI 0,(.iface 67 (vI b))]) :=
 eD func52 111 [1,1] [.q,.h 1 (.pv .aq),.q,.a,.h 1 (.pv (.iface 67 (vI b))),.q,.a,.q] (y2 h1 h2)
theorem e2(p:Rs)(a:az)(b:Int)(h1:Cp 23 [a.pv] (.iface 67 (vI b))):Cp 52 [ae p,a.pv] (.aB [vI 0,(.iface 67 (vI b))]) :=
 eD func52 90 [1] [.q,.h 1 (.pv (.iface 67 (vI b))),.q,.a,.q] (y1 h1)
end mY
namespace fT
theorem e0(a b:az)(c:Bool)(h1:Cp 201 [ae b.p,a.pv] (.aB [vB c,.aq]))(h2:c=false):Cp 174 [a.pv,b.pv] (.aB [vB false,.aq]) :=
 eD func174 90 [1,1,1,1] [.q,.h 3 (.pv (.aB [vB c,.aq])),.q,.t,.q] (y4 h1 (Eq.refl false) (Eq.refl false) (bB h2))
theorem e1(a b:az)(c:Bool)(d g:Int)(i:Option Int)(h1:Cp 201 [ae b.p,a.pv] (.aB [vB c,.aq]))(h2:c=true)(h3:Cp 64 [a.pv,b.rV.lo.pv] (.aB [vI d,.aq]))(h4:Cp 64 [a.pv,b.rV.hi.pv] (.aB [vI g,bC i]))(h5:0≤d):Cp 174 [a.pv,b.pv] (.aB [(vB (decide (g≤0))),bC i]) :=
 eD func174 120 [1,1,1,1,1,1,1,1,1] [.q,.h 3 (.pv (.aB [vB c,.aq])),.q,.f,.h 4 (.pv (.aB [vI d,.aq])),.q,.a,.h 4 (.pv (.aB [vI g,bC i])),.h 5 (.dec true)] (y9 h1 (Eq.refl false) (Eq.refl false) (ay h2) h3 h4 (jv h5) (jv h5) (jv h5))
theorem e2(a b:az)(c:Bool)(d g:Int)(i:Option Int)(h1:Cp 201 [ae b.p,a.pv] (.aB [vB c,.aq]))(h2:c=true)(h3:Cp 64 [a.pv,b.rV.lo.pv] (.aB [vI d,.aq]))(h4:Cp 64 [a.pv,b.rV.hi.pv] (.aB [vI g,bC i]))(h5:d<0):Cp 174 [a.pv,b.pv] (.aB [vB false,bC i]) :=
 eD func174 120 [1,1,1,1,1,1,1,1,1] [.q,.h 3 (.pv (.aB [vB c,.aq])),.q,.f,.h 4 (.pv (.aB [vI d,.aq])),.q,.a,.h 4 (.pv (.aB [vI g,bC i])),.ba [.o,.o,.o,.skip,.skip,(.dec false)]] (y9 h1 (Eq.refl false) (Eq.refl false) (ay h2) h3 h4 (kL h5) (kL h5) (kL h5))
end fT
namespace di
@[reducible] def fn:Func:=Tryz.f175
def bK:List gC:=focus [0,2,0,0,0] [.code (aA fn)]
def inv1(iu dI:az):St:=⟨[(2,(.ptr 2 0)),(3,(.ptr 3 0)),(4,(.ptr 4 0)),(5,(.ptr 5 0))],[(2,(.lit [(.pv (ae iu.p)),(eB iu.rV.lo.neg),(.pv (ag iu.rV.lo.num)),(.pv (ag iu.rV.lo.den)),(eB iu.rV.hi.neg),(.pv (ag iu.rV.hi.num)),(.pv (ag iu.rV.hi.den))])),(3,(.lit [(.pv (ae dI.p)),(eB dI.rV.lo.neg),(.pv (ag dI.rV.lo.num)),(.pv (ag dI.rV.lo.den)),(eB dI.rV.hi.neg),(.pv (ag dI.rV.hi.num)),(.pv (ag dI.rV.hi.den))])),(4,(.lit [(.pv (.list [])),(eB false),(.pv (.list [])),(.pv (.list [])),(eB false),(.pv (.list [])),(.pv (.list []))])),(5,(.lit [(.pv (.list [])),(eB false),(.pv (.list [])),(.pv (.list [])),(eB false),(.pv (.list [])),(.pv (.list []))]))]⟩
@[reducible] def aj(iu dI:az)(r:PV):Prop:=L bT fn bK (inv1 iu dI) r
theorem e0 (a b : az) {r : PV}  (hL : aj a b r) : Cp 175 [a.pv, b.pv] r :=
 eG func175 75 [] [.q,.aP [2,3,4,5],.ord [2,3,4,5]] True.intro hL
theorem l10(b c:az)(d g:Int)(i j:az){r:PV}(h1:Cp 34 [b.rV.hi.pv,c.rV.lo.pv] (vI d))(h2:0<d)(h3:Cp 34 [c.rV.hi.pv,b.rV.lo.pv] (vI g))(h4:0<g)(h5:Cp 204 [b.pv] (.aB [i.pv,.aq]))(h6:Cp 204 [c.pv] (.aB [j.pv,.aq]))(hL:aj i j r):aj b c r :=
 lG 144 [1,1,1,1,1,1,1,1,1,1,1,1,1,1] [.a,.ba [.o,.o,.o,.o,.o,.o,(.pv (vI d)),.o,.o,.o,.o,.o,.o,.o,.o,(.pv (vI g)),.o,(.dec true)],.t,.q,.h 1 (.pv (.aB [i.pv,.aq])),.q,.a,.h 1 (.pv (.aB [j.pv,.aq])),.q,.a,.aP [2,3,4,5]] (QZ h1 (dJ h2) (dJ h2) (dJ h2) (dJ h2) (dJ h2) (dJ h2) (dJ h2) h3 (dJ h2) (dJ h2) (dJ h4) h5 h6) hL
theorem oK(b c:az)(d g:Int)(h1:Cp 34 [b.rV.hi.pv,c.rV.lo.pv] (vI d))(h2:0<d)(h3:Cp 34 [c.rV.hi.pv,b.rV.lo.pv] (vI g))(h4:g≤0):aj b c (.aB [b.pv,c.pv,.aq]) :=
 lD 108 [1,1,1,1,1,1,1,1,1,1,1,1] [.a,.ba [.o,.o,.o,.o,.o,.o,(.pv (vI d)),.o,.o,.o,.o,.o,.o,.o,.o,(.pv (vI g)),.o,(.dec true)],.f,dr 3 2 []] (Pp h1 (dJ h2) (dJ h2) (dJ h2) (dJ h2) (dJ h2) (dJ h2) (dJ h2) h3 (dJ h2) (dJ h2) (bQ h4))
theorem AS(b c:az)(d:Int)(h1:Cp 34 [b.rV.hi.pv,c.rV.lo.pv] (vI d))(h2:d≤0):aj b c (.aB [b.pv,c.pv,.aq]) :=
 lD 108 [1,1,1,1,1,1,1,1,1,1] [.a,.ba [.o,.o,.o,.o,.o,.o,(.pv (vI d)),.o,.o,.skip,.skip,.skip,.skip,.skip,.skip,.skip,.skip,(.dec false)],.a,dr 3 2 []] (Iu h1 (bQ h2) (bQ h2) (bQ h2) (bQ h2) (bQ h2) (bQ h2) (bQ h2) (bQ h2) (bQ h2))
end di
namespace gT
theorem e0(a b:az)(c:Bool)(h1:Cp 174 [a.pv,b.pv] (.aB [vB c,.aq]))(h2:c=true):Cp 96 [a.pv,b.pv] (.aB [vI 0,.aq]) :=
 eD func96 90 [1,1,1] [.q,.h 2 (.pv (.aB [vB c,.aq])),.q,.t,.q] (y3 h1 (Eq.refl false) h2)
theorem e1(a b:az)(c:Bool)(d g:az)(i j:ah)(k:Int)(h1:Cp 174 [a.pv,b.pv] (.aB [vB c,.aq]))(h2:c=false)(h3:Cp 175 [a.pv,b.pv] (.aB [d.pv,g.pv,.aq]))(h4:Cp 176 [d.rV.pv] i.pv)(h5:Cp 176 [g.rV.pv] j.pv)(h6:Cp 34 [i.pv,j.pv] (vI k))(h7:k<0):Cp 96 [a.pv,b.pv] (.aB [(vI (-1)),.aq]) :=
 eD func96 126 [1,1,1,1,1,1,1,1] [.q,.h 2 (.pv (.aB [vB c,.aq])),.q,.f,.h 2 (.pv (.aB [d.pv,g.pv,.aq])),.q,.a,dr 8 0 [.none,.none,(.pv i.pv),.none,.none,(.pv j.pv),(.pv (vI k))],.t,.q] (y8 h1 (Eq.refl false) h2 h3 h4 h5 h6 (dJ h7))
theorem e2(a b:az)(c:Bool)(d g:az)(i j:ah)(k:Int)(h1:Cp 174 [a.pv,b.pv] (.aB [vB c,.aq]))(h2:c=false)(h3:Cp 175 [a.pv,b.pv] (.aB [d.pv,g.pv,.aq]))(h4:Cp 176 [d.rV.pv] i.pv)(h5:Cp 176 [g.rV.pv] j.pv)(h6:Cp 34 [i.pv,j.pv] (vI k))(h7:0≤k):Cp 96 [a.pv,b.pv] (.aB [vI 1,.aq]) :=
 eD func96 129 [1,1,1,1,1,1,1,1] [.q,.h 2 (.pv (.aB [vB c,.aq])),.q,.f,.h 2 (.pv (.aB [d.pv,g.pv,.aq])),.q,.a,dr 8 0 [.none,.none,(.pv i.pv),.none,.none,(.pv j.pv),(.pv (vI k))],.f,.q] (y8 h1 (Eq.refl false) h2 h3 h4 h5 h6 (bQ h7))
end gT
namespace dL
@[reducible] def fn:Func:=Tryz.f35
def bK:List gC:=focus [0,2,0,0,2,0,0] [.code (aA fn)]
def inv1(Hb:Nat)(a b:az):St:=⟨[(2,(.ptr 2 0)),(3,(.ptr 3 0)),(11,(.row 11 0 2 7)),(12,(eI 2)),(13,(eI (Hb:Int)))],[(2,(.lit [(.pv (ae a.p)),(eB a.rV.lo.neg),(.pv (ag a.rV.lo.num)),(.pv (ag a.rV.lo.den)),(eB a.rV.hi.neg),(.pv (ag a.rV.hi.num)),(.pv (ag a.rV.hi.den))])),(3,(.lit [(.pv (ae b.p)),(eB b.rV.lo.neg),(.pv (ag b.rV.lo.num)),(.pv (ag b.rV.lo.den)),(eB b.rV.hi.neg),(.pv (ag b.rV.hi.num)),(.pv (ag b.rV.hi.den))])),(11,(.pure (([a,b]:List az).map az.cells).flatten))]⟩
@[reducible] def aj(Hb:Nat)(a b:az)(r:PV):Prop:=L bT fn bK (inv1 Hb a b) r
theorem e0 (a b : az) {r : PV}  (hL : aj 0 a b r) : Cp 35 [a.pv, b.pv] r :=
 eG func35 81 [] [.q,.q,.aP [2,3,11,12,13],.ord [2,3,11]] True.intro hL
theorem l10(c:Nat)(a b v:az){r:PV}(h1:c<2)(h2:[a,b][c]? = some v)(h3:Cp 23 [v.pv] .aq)(h4:(c+1)<9223372036854775808)(hL:aj (c+1) a b r):aj c a b r :=
 lG 135 [1,2,2,1,1] [.a,.q,.t,.ba [(.nat c),(.Ky [ae v.p,vB v.rV.lo.neg,ag v.rV.lo.num,ag v.rV.lo.den,vB v.rV.hi.neg,ag v.rV.hi.num,ag v.rV.hi.den])],.h 1 (.pv .aq),.q,.a,.h 0 (iI (((c+1):Nat):Int)),.aP [2,3,11,12,13],.drop [7]] (y5 (ak h1) (cj (Eq.refl (((c:Nat):Int):Int)) h1) (wE fY h2) h3 (aR h4)) hL
theorem dw(c:Nat)(a b v:az)(d:Int)(h1:c<2)(h2:[a,b][c]? = some v)(h3:Cp 23 [v.pv] (.iface 67 (vI d))):aj c a b (.aB [vI 0,(.iface 67 (vI d))]) :=
 lD 132 [1,2,2,1] [.a,.q,.t,.ba [(.nat c),(.Ky [ae v.p,vB v.rV.lo.neg,ag v.rV.lo.num,ag v.rV.lo.den,vB v.rV.hi.neg,ag v.rV.hi.num,ag v.rV.hi.den])],.h 1 (.pv (.iface 67 (vI d))),.q,.a,.q] (y4 (ak h1) (cj (Eq.refl (((c:Nat):Int):Int)) h1) (wE fY h2) h3)
theorem ji(c:Nat)(a b:az)(d:Int)(g:Option Int)(h1:2≤c)(h2:Cp 96 [a.pv,b.pv] (.aB [vI d,bC g])):aj c a b (.aB [vI d,bC g]) :=
 lD 114 [1,1] [.a,.q,.f,.h 2 (.pv (.aB [vI d,bC g]))] (y2 (ax h1) h2)
end dL
namespace dO
@[reducible] def fn:Func:=Tryz.f63
def bK:List gC:=focus [0,2,0,2,0,0,2,0,0] [.code (aA fn)]
def inv1(bits:Int)(Q4:Nat)(n iQ:aI):St:=⟨[(2,(.ptr 2 0)),(4,(.ptr 4 0)),(6,(.ptr 6 0)),(8,(eI bits)),(9,(eI (Q4:Int)))],[(2,(.lit [(eB n.neg),(.pv (ag n.fS))])),(4,(.lit [(eB false),(.pv (.list [])),(.pv (.list []))])),(6,(.lit [(eB iQ.neg),(.pv (ag iQ.fS))]))]⟩
@[reducible] def aj(bits:Int)(Q4:Nat)(n iQ:aI)(r:PV):Prop:=L bT fn bK (inv1 bits Q4 n iQ) r
theorem e0(n:aI)(a:Int)(of:aI){r:PV}(h1:Cp 67 [vI 1] of.pv)(hL:aj a 0 n of r):Cp 63 [n.pv,vI a] r :=
 eG func63 87 [1] [.q,.h 0 (.pv of.pv),.q,.aP [2,4,6,8,9],.ord [2,4,6]] (y1 h1) hL
theorem l10(b:Int)(c:Nat)(n d g:aI){r:PV}(h1:(c:Int)<b)(h2:Cp 66 [d.pv,d.pv] g.pv)(h3:(c+1)<9223372036854775808)(hL:aj b (c+1) n g r):aj b c n d r :=
 lG 120 [1,1,1] [.a,.q,.t,.h 2 (.pv g.pv),.h 0 (iI (((c+1):Nat):Int)),.aP [2,4,6,8,9]] (y3 (dJ h1) h2 (aR h3)) hL
theorem dw(b:Int)(c:Nat)(n d:aI)(g:ah)(i:Option Int)(h1:b≤(c:Int))(h2:Cp 90 [n.pv,d.pv] (.aB [g.pv,bC i])):aj b c n d (.aB [g.pv,bC i]) :=
 lD 120 [1,1] [.a,.q,.f,.h 2 (.pv (.aB [g.pv,bC i]))] (y2 (bQ h1) h2)
end dO
namespace eF
@[reducible] def fn:Func:=Tryz.f130
def bK:List gC:=focus [0,2,0,0,2,0,0] [.code (aA fn)]
def inv1(bits:Int)(Ve:Nat)(iu:ah):St:=⟨[(2,(.ptr 2 0)),(4,(.ptr 4 0)),(5,(eI bits)),(6,(eI (Ve:Int)))],[(2,(.lit [(eB iu.neg),(.pv (ag iu.num)),(.pv (ag iu.den))])),(4,(.lit [(eB false),(.pv (.list []))]))]⟩
@[reducible] def aj(bits:Int)(Ve:Nat)(iu:ah)(r:PV):Prop:=L bT fn bK (inv1 bits Ve iu) r
theorem e0 (x : ah) (a : Int) {r : PV}  (hL : aj a 0 x r) : Cp 130 [x.pv, vI a] r :=
 eG func130 81 [] [.q,.q,.aP [2,4,5,6],.ord [2,4]] True.intro hL
theorem l10(b:Int)(c:Nat)(d g:ah){r:PV}(h1:(c:Int)<b)(h2:Cp 91 [d.pv,d.pv] g.pv)(h3:(c+1)<9223372036854775808)(hL:aj b (c+1) g r):aj b c d r :=
 lG 114 [1,1,1] [.a,.q,.t,.h 2 (.pv g.pv),.h 0 (iI (((c+1):Nat):Int)),.aP [2,4,5,6]] (y3 (dJ h1) h2 (aR h3)) hL
theorem dw(b:Int)(c:Nat)(d:ah)(g:aI)(h1:b≤(c:Int))(h2:Cp 218 [d.pv] g.pv):aj b c d g.pv :=
 lD 114 [1,1] [.a,.q,.f,.h 1 (.pv g.pv)] (y2 (bQ h1) h2)
end eF
namespace dj
@[reducible] def fn:Func:=Tryz.f62
def bK:List gC:=focus [0,2,0,2,0,0,0] [.code (aA fn)]
def inv1(bits:Int)(a:az)(iQ fC:aI):St:=⟨[(1,(eI bits)),(2,(.ptr 2 0)),(4,(.ptr 4 0)),(6,(.ptr 6 0)),(7,(.ptr 7 0))],[(2,(.lit [(.pv (ae a.p)),(eB a.rV.lo.neg),(.pv (ag a.rV.lo.num)),(.pv (ag a.rV.lo.den)),(eB a.rV.hi.neg),(.pv (ag a.rV.hi.num)),(.pv (ag a.rV.hi.den))])),(4,(.lit [(eB false),(.pv (.list []))])),(6,(.lit [(eB iQ.neg),(.pv (ag iQ.fS))])),(7,(.lit [(eB fC.neg),(.pv (ag fC.fS))]))]⟩
@[reducible] def aj(bits:Int)(a:az)(iQ fC:aI)(r:PV):Prop:=L bT fn bK (inv1 bits a iQ fC) r
theorem e0(a:az)(b:Int)(c d of g:aI){r:PV}(h1:Cp 130 [a.rV.lo.pv,vI b] c.pv)(h2:Cp 130 [a.rV.hi.pv,vI b] d.pv)(h3:Cp 67 [vI 1] of.pv)(h4:Cp 66 [d.pv,of.pv] g.pv)(hL:aj b a c g r):Cp 62 [a.pv,vI b] r :=
 eG func62 81 [1,1,1,1] [.q,dr 14 2 [.none,.none,.none,.none,(.pv c.pv),.none,.none,.none,.none,(.pv d.pv),(.pv of.pv),(.pv g.pv)],.aP [1,2,4,6,7],.ord [2,4,6,7]] (y4 h1 h2 h3 h4) hL
theorem l10(b:Int)(a:az)(c d g of:aI)(i:Int)(j k l m:aI)(n:Option Int)(p:ah)(s:Int){r:PV}(h1:Cp 131 [d.pv,c.pv] g.pv)(h2:Cp 67 [vI 1] of.pv)(h3:Cp 94 [g.pv,of.pv] (vI i))(h4:0<i)(h5:Cp 66 [c.pv,d.pv] j.pv)(h6:Cp 67 [vI 2] k.pv)(h7:Cp 132 [j.pv,k.pv] (.aB [l.pv,m.pv,bC n]))(h8:Cp 63 [l.pv,vI b] (.aB [p.pv,.aq]))(h9:Cp 64 [a.pv,p.pv] (.aB [vI s,.aq]))(dM:0≤s)(hL:aj b a l d r):aj b a c d r :=
 lG 165 [1,1,1,1,1,1,1,1,1,1] [.a,.ba [.o,.o,(.pv g.pv),(.pv of.pv),(.pv (vI i))],.t,.ba [.o,.o,(.pv j.pv),(.pv k.pv),(.pv (.aB [l.pv,m.pv,bC n]))],.h 2 (.pv (.aB [p.pv,.aq])),.q,.a,.h 2 (.pv (.aB [vI s,.aq])),.q,.a,.q,.t,.q,.aP [1,2,4,6,7],.drop [11,9,8]] (Iu h1 h2 h3 (dJ h4) h5 h6 h7 h8 h9 (jv dM)) hL
theorem dw(b:Int)(a:az)(c d g of:aI)(i:Int)(j k l m:aI)(n:Option Int)(p:ah)(s:Int){r:PV}(h1:Cp 131 [d.pv,c.pv] g.pv)(h2:Cp 67 [vI 1] of.pv)(h3:Cp 94 [g.pv,of.pv] (vI i))(h4:0<i)(h5:Cp 66 [c.pv,d.pv] j.pv)(h6:Cp 67 [vI 2] k.pv)(h7:Cp 132 [j.pv,k.pv] (.aB [l.pv,m.pv,bC n]))(h8:Cp 63 [l.pv,vI b] (.aB [p.pv,.aq]))(h9:Cp 64 [a.pv,p.pv] (.aB [vI s,.aq]))(dM:s<0)(hL:aj b a c l r):aj b a c d r :=
 lG 165 [1,1,1,1,1,1,1,1,1,1] [.a,.ba [.o,.o,(.pv g.pv),(.pv of.pv),(.pv (vI i))],.t,.ba [.o,.o,(.pv j.pv),(.pv k.pv),(.pv (.aB [l.pv,m.pv,bC n]))],.h 2 (.pv (.aB [p.pv,.aq])),.q,.a,.h 2 (.pv (.aB [vI s,.aq])),.q,.a,.q,.f,.q,.aP [1,2,4,6,7],.drop [11,9,8]] (Iu h1 h2 h3 (dJ h4) h5 h6 h7 h8 h9 (kL dM)) hL
theorem AS(b:Int)(a:az)(c d g of:aI)(i:Int)(h1:Cp 131 [d.pv,c.pv] g.pv)(h2:Cp 67 [vI 1] of.pv)(h3:Cp 94 [g.pv,of.pv] (vI i))(h4:i≤0):aj b a c d (.aB [c.pv,.aq]) :=
 lD 114 [1,1,1,1] [.a,.ba [.o,.o,(.pv g.pv),(.pv of.pv),(.pv (vI i))],.f,.q] (y4 h1 h2 h3 (bQ h4))
end dj
namespace jL
theorem e2(a:az)(b:Int)(c:aI)(d:ah)(g:Int)(i:af)(h1:Cp 23 [a.pv] .aq)(h2:0≤b)(h3:b≤64)(h4:Cp 62 [a.pv,vI b] (.aB [c.pv,.aq]))(h5:Cp 63 [c.pv,vI b] (.aB [d.pv,.aq]))(h6:Cp 64 [a.pv,d.pv] (.aB [vI g,.aq]))(h7:g=0)(h8:Cp 65 [d.pv] i.pv):Cp 13 [a.pv,vI b] (.aB [i.pv,.aq]) :=
 eD func13 183 [1,1,1,1,1,1,1,1,1,1] [.q,.h 1 (.pv .aq),.q,.a,.h 5 (.dec false),.f,.h 2 (.pv (.aB [c.pv,.aq])),.q,.a,.h 2 (.pv (.aB [d.pv,.aq])),.q,.a,.h 2 (.pv (.aB [vI g,.aq])),.q,.a,.q,.t,.h 1 (.pv i.pv)] (Iu h1 (bQ h2) (bQ h2) (bQ h2) (bQ h3) h4 h5 h6 (aF h7) h8)
theorem e3(a:az)(b:Int)(c:aI)(d:ah)(g:Int)(of i:aI)(j:ah)(k:Option Int)(h1:Cp 23 [a.pv] .aq)(h2:0≤b)(h3:b≤64)(h4:Cp 62 [a.pv,vI b] (.aB [c.pv,.aq]))(h5:Cp 63 [c.pv,vI b] (.aB [d.pv,.aq]))(h6:Cp 64 [a.pv,d.pv] (.aB [vI g,.aq]))(h7:g≠0)(h8:Cp 67 [vI 1] of.pv)(h9:Cp 66 [c.pv,of.pv] i.pv)(dM:Cp 63 [i.pv,vI b] (.aB [j.pv,bC k])):Cp 13 [a.pv,vI b] (.aB [(⟨d,j⟩:af).pv,bC k]) :=
 eD func13 192 [1,1,1,1,1,1,1,1,1,1,1,1] [.q,.h 1 (.pv .aq),.q,.a,.h 5 (.dec false),.f,.h 2 (.pv (.aB [c.pv,.aq])),.q,.a,.h 2 (.pv (.aB [d.pv,.aq])),.q,.a,.h 2 (.pv (.aB [vI g,.aq])),.q,.a,.q,.f,dr 10 1 [.none,(.pv of.pv),(.pv i.pv),.none,(.pv (.aB [j.pv,bC k]))],.q] (Pp h1 (bQ h2) (bQ h2) (bQ h2) (bQ h3) h4 h5 h6 (aN h7) h8 h9 dM)
end jL
namespace bR
@[reducible] def fn:Func:=Tryz.f14
def bK:List gC:=focus [0,2,0,2,0,0,2,1,2,0,0,2,1,2,0,0,2,0,0] [.code (aA fn)]
def inv1(He:Nat)(a b:az):St:=⟨[(2,(.ptr 2 0)),(3,(.ptr 3 0)),(4,(.ptr 4 0)),(27,(eI (He:Int)))],[(2,(.lit [(.pv (ae a.p)),(eB a.rV.lo.neg),(.pv (ag a.rV.lo.num)),(.pv (ag a.rV.lo.den)),(eB a.rV.hi.neg),(.pv (ag a.rV.hi.num)),(.pv (ag a.rV.hi.den))])),(3,(.lit [(.pv (ae b.p)),(eB b.rV.lo.neg),(.pv (ag b.rV.lo.num)),(.pv (ag b.rV.lo.den)),(eB b.rV.hi.neg),(.pv (ag b.rV.hi.num)),(.pv (ag b.rV.hi.den))])),(4,(.lit [(eB false),(.pv (.list [])),(.pv (.list []))]))]⟩
@[reducible] def aj(He:Nat)(a b:az)(r:PV):Prop:=L bT fn bK (inv1 He a b) r
theorem e0(a b:az)(c:Int)(h1:Cp 35 [a.pv,b.pv] (.aB [vI c,.aq]))(h2:0≤c):Cp 14 [a.pv,b.pv] (.aB [(⟨false,[],[]⟩:ah).pv,(.iface 67 (vI 3))]) :=
 eD func14 105 [1,1] [.q,.h 2 (.pv (.aB [vI c,.aq])),.q,.a,.q,.t,.q] (y2 h1 (jv h2))
theorem e1(a b:az)(c:Int){r:PV}(h1:Cp 35 [a.pv,b.pv] (.aB [vI c,.aq]))(h2:c<0)(hL:aj 0 a b r):Cp 14 [a.pv,b.pv] r :=
 eG func14 117 [1,1] [.q,.h 2 (.pv (.aB [vI c,.aq])),.q,.a,.q,.f,.q,.aP [2,3,4,27],.ord [2,3,4]] (y2 h1 (kL h2)) hL
theorem l10(c:Nat)(a b:az)(d of g:aI)(i:ah)(j:Int)(h1:c<65)(h2:Cp 62 [a.pv,(vI (c:Int))] (.aB [d.pv,.aq]))(h3:Cp 67 [vI 1] of.pv)(h4:Cp 66 [d.pv,of.pv] g.pv)(h5:Cp 63 [g.pv,(vI (c:Int))] (.aB [i.pv,.aq]))(h6:Cp 64 [b.pv,i.pv] (.aB [vI j,.aq]))(h7:0<j):aj c a b (.aB [i.pv,.aq]) :=
 lD 225 [1,1,1,1,1,1,1] [.a,.q,.t,.q,.h 2 (.pv (.aB [d.pv,.aq])),.q,.a,dr 10 1 [.none,(.pv of.pv),(.pv g.pv),.none,(.pv (.aB [i.pv,.aq]))],.q,.a,.h 2 (.pv (.aB [vI j,.aq])),.q,.a,.q,.t,.q] (y7 (ak h1) h2 h3 h4 h5 h6 (dJ h7))
theorem dw(c:Nat)(a b:az)(d of g:aI)(i:ah)(j:Int){r:PV}(h1:c<65)(h2:Cp 62 [a.pv,(vI (c:Int))] (.aB [d.pv,.aq]))(h3:Cp 67 [vI 1] of.pv)(h4:Cp 66 [d.pv,of.pv] g.pv)(h5:Cp 63 [g.pv,(vI (c:Int))] (.aB [i.pv,.aq]))(h6:Cp 64 [b.pv,i.pv] (.aB [vI j,.aq]))(h7:j≤0)(h8:(c+1)<9223372036854775808)(hL:aj (c+1) a b r):aj c a b r :=
 lG 228 [1,1,1,1,1,1,1,1] [.a,.q,.t,.q,.h 2 (.pv (.aB [d.pv,.aq])),.q,.a,dr 10 1 [.none,(.pv of.pv),(.pv g.pv),.none,(.pv (.aB [i.pv,.aq]))],.q,.a,.h 2 (.pv (.aB [vI j,.aq])),.q,.a,.q,.f,.h 0 (iI (((c+1):Nat):Int)),.aP [2,3,4,27],.drop [11,9]] (y8 (ak h1) h2 h3 h4 h5 h6 (bQ h7) (aR h8)) hL
theorem T2(c:Nat)(a b:az)(h1:65≤c):aj c a b (.aB [(⟨false,[],[]⟩:ah).pv,(.iface 67 (vI 4))]) :=
 lD 150 [1] [.a,.q,.f,.q] (y1 (ax h1))
end bR
end Go.Proofs.YtllmkadmohkbfaaGreatDoor.Sym.Path
end
