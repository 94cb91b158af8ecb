/- The interval of a grid contains the algebraic number, and a fraction between two of them lies strictly between: the law AlgebraicNear returns true for every input, with the tables of numerals of the Go library that the row lists as they are laid. -/
import Derived.Test.YtllmkadmohkbfaaGreatDoorT0
import Derived.Test.YtllmkadmohkbfaaGreatDoorG6
import Derived.Test.YtllmkadmohkbfaaGreatDoorG3
import Derived.Test.YtllmkadmohkbfaaGreatDoorP3
import Derived.Test.YtllmkadmohkbfaaGreatDoorP2
import Derived.Test.YtllmkadmohkbfaaGreatDoorG5
import Derived.Test.YtllmkadmohkbfaaGreatDoorP4
noncomputable section
namespace Go.Proofs.YtllmkadmohkbfaaGreatDoor.Sym.Path
open Go
set_option maxRecDepth 20000
set_option linter.unusedVariables false
namespace iz
theorem e0(p:Rs)(b:ah)(c:List (Rs))(d:ah)(z:List af)(h1:Cp 150 [ae p] (.aB [b.pv,.aq]))(h2:Cp 151 [ae p] (.aB [(bq (an ah.cells) c),.aq]))(h3:Cp 87 [b.pv] d.pv)(h4:av bT 152 [.pv .gb,.pv (ae p),.pv (bq (an ah.cells) c),.pv d.pv,.pv b.pv] [] (.row 0 0 z.length 6) [(0,(.pure ((z:List af).map af.cells).flatten))]):Cp 75 [ae p] (.aB [bq af.cells z,.aq]) :=
 eD Tryz.func75 114 [1,1,1,1,3] [.q,.h 1 (.pv (.aB [b.pv,.aq])),.q,.a,.h 1 (.pv (.aB [(bq (an ah.cells) c),.aq])),.q,.a,dr 5 3 [.none,.none,.none,(.pv d.pv),.none,(.bI [] (some (0,28)) (.row 0 0 z.length 6) [(0,(.pure ((z:List af).map af.cells).flatten))])],.iZ 2 ((z:List af).map af.cells)] (y5 h1 h2 h3 h4 (eR eX (z:List af) (Eq.refl (z:List af).length)))
end iz
namespace gO
theorem e0(p:Rs)(rV:af)(b:Bool)(c:Option Int)(h1:Cp 165 [ae p] .aq)(h2:Cp 166 [ae p,rV.pv] (.aB [vB b,bC c])):Cp 82 [ae p,rV.pv] (.aB [vB b,bC c]) :=
 eD Tryz.func82 93 [1,1] [.q,.h 1 (.pv .aq),.q,.a,.h 2 (.pv (.aB [vB b,bC c]))] (y2 h1 h2)
end gO
namespace cF
theorem e0(p:Rs)(a:Int)(h1:Cp 56 [ae p] (vI a))(h2:a≠0):Cp 83 [ae p] (vI a) :=
 eD Tryz.func83 90 [1,1] [.q,.h 1 (.pv (vI a)),.q,.t,.q] (y2 h1 (dq h2))
theorem e1(p:Rs)(a:Int)(h1:Cp 56 [ae p] (vI a))(h2:a=0)(h3:p.length=0):Cp 83 [ae p] (vI 8) :=
 eD Tryz.func83 105 [1,1,1,1] [.q,.h 1 (.pv (vI a)),.q,.f,.h 1 (iI (p.length:Int)),.t,.q] (y4 h1 (bZ h2) (au ah.cells p) (aL h3))
theorem e2(p:Rs)(a:Int)(h1:Cp 56 [ae p] (vI a))(h2:a=0)(h3:p.length≠0):Cp 83 [ae p] (vI 0) :=
 eD Tryz.func83 108 [1,1,1,1] [.q,.h 1 (.pv (vI a)),.q,.f,.h 1 (iI (p.length:Int)),.f,.q] (y4 h1 (bZ h2) (au ah.cells p) (aC h3))
end cF
namespace dQ
theorem e1(p:Rs)(rV:af)(a:Int)(b:Bool)(h1:Cp 83 [ae p] (vI a))(h2:a=0)(h3:Cp 168 [ae p,rV.pv] (vB b)):Cp 86 [ae p,rV.pv] (.aB [vB b,vI 0]) :=
 eD Tryz.func86 93 [1,1,1] [.q,.h 1 (.pv (vI a)),.q,.f,.h 2 (.pv (vB b))] (y3 h1 (bZ h2) h3)
end dQ
namespace cI
@[reducible] def fn:Func:=Tryz.f150
def bK:List gC:=focus [0,2,0,0,2,0,2,1,2,0,2,0,0,2,0,0] [.code (aA fn)]
def inv1(p:List ah)(kQ:Nat)(dG:ah):St:=⟨[(0,(.pv (ae p))),(2,(.ptr 2 0)),(5,(.ptr 5 0)),(17,(.pv (ae p))),(18,(eI (p.length:Int))),(19,(eI (kQ:Int)))],[(2,(.lit [(eB false),(.pv (.list [])),(.pv (.list []))])),(5,(.lit [(eB dG.neg),(.pv (ag dG.num)),(.pv (ag dG.den))]))]⟩
@[reducible] def aj(p:List ah)(kQ:Nat)(dG:ah)(r:PV):Prop:=L bT fn bK (inv1 p kQ dG) r
def qv:List gC:=focus [0,2,0,0,2,0,2,1,2,0,2,0,0,2,0,0,0,0,2,0,0,2,0,0,0,2,0,2,0,0,2,1,2,0,0] [.code (aA fn)]
def inv2(p:List ah)(kQ:Nat)(dG div:ah):St:=⟨[(0,(.pv (ae p))),(2,(.ptr 2 0)),(5,(.ptr 5 0)),(8,(.ptr 8 0)),(17,(.pv (ae p))),(18,(eI (p.length:Int))),(19,(eI (kQ:Int)))],[(2,(.lit [(eB false),(.pv (.list [])),(.pv (.list []))])),(5,(.lit [(eB dG.neg),(.pv (ag dG.num)),(.pv (ag dG.den))])),(8,(.lit [(eB div.neg),(.pv (ag div.num)),(.pv (ag div.den))]))]⟩
@[reducible] def cz(p:List ah)(kQ:Nat)(dG div:ah)(r:PV):Prop:=L bT fn qv (inv2 p kQ dG div) r
theorem e0(p:Rs)(of:ah){r:PV}(h1:Cp 165 [ae p] .aq)(h2:Cp 46 [vI 1] of.pv)(hL:aj p 0 of r):Cp 150 [ae p] r :=
 eG Tryz.func150 108 [1,1,1] [.q,.h 1 (.pv .aq),.q,.a,.h 0 (.pv of.pv),.h 1 (iI (p.length:Int)),.aP [0,2,5,17,18,19],.ord [2,5]] (y3 h1 h2 (au ah.cells p)) hL
theorem l10(p:Rs)(b:Nat)(c v:ah)(k:Nat)(v1 d:ah){r:PV}(h1:b<p.length)(h2:p[b]? = some v)(h3:aw ((p.length:Int)-1))(h4:((p.length:Int)-1)=(k:Int))(h5:p[k]? = some v1)(h6:Cp 234 [v.pv,v1.pv] (.aB [d.pv,.aq]))(hL:cz p b c d r):aj p b c r :=
 lG 165 [1,3,1,1,3,1] [.a,.q,.t,.h 0 (.row b (ah.cells v)),dr 13 1 [.none,.none,.none,(iI (p.length:Int)),(iI ((p.length:Int)-1)),(.row k (ah.cells v1)),.none,(.pv (.aB [d.pv,.aq]))],.q,.a,.aP [0,2,5,8,17,18,19],.drop [7],.ord [2,5,8]] (y6 (ak h1) (bU ah.cells (Eq.refl (((b:Nat):Int):Int)) h2) (au ah.cells p) (aX h3) (bU ah.cells h4 h5) h6) hL
theorem ji(p:Rs)(b:Nat)(c:ah)(h1:p.length≤b):aj p b c (.aB [c.pv,.aq]) :=
 lD 141 [1] [.a,.q,.f,.q] (y1 (ax h1))
theorem xl(p:Rs)(b:Nat)(c d of g i:ah)(j:Int)(k:ah){r:PV}(h1:Cp 46 [vI 1] of.pv)(h2:Cp 235 [d.pv] g.pv)(h3:Cp 91 [of.pv,g.pv] i.pv)(h4:Cp 34 [c.pv,i.pv] (vI j))(h5:j<0)(h6:Cp 91 [c.pv,c.pv] k.pv)(hL:cz p b k d r):cz p b c d r :=
 lG 192 [1,1,1,1,1,1] [.a,dr 7 0 [.none,(.pv of.pv),.none,(.pv g.pv),(.pv i.pv),(.pv (vI j))],.t,.h 2 (.pv k.pv),.aP [0,2,5,8,17,18,19]] (y6 h1 h2 h3 h4 (dJ h5) h6) hL
theorem AR(p:Rs)(b:Nat)(c d of g i:ah)(j:Int){r:PV}(h1:Cp 46 [vI 1] of.pv)(h2:Cp 235 [d.pv] g.pv)(h3:Cp 91 [of.pv,g.pv] i.pv)(h4:Cp 34 [c.pv,i.pv] (vI j))(h5:0≤j)(h6:(b+1)<9223372036854775808)(hL:aj p (b+1) c r):cz p b c d r :=
 lG 198 [1,1,1,1,1,1] [.a,dr 7 0 [.none,(.pv of.pv),.none,(.pv g.pv),(.pv i.pv),(.pv (vI j))],.f,.h 0 (iI (((b+1):Nat):Int)),.aP [0,2,5,17,18,19],.drop [8]] (y6 h1 h2 h3 h4 (bQ h5) (aR h6)) hL
end cI
namespace eJ
@[reducible] def fn:Func:=Tryz.f151
def bK:List gC:=focus [0,2,0,2,0,0,2,1,2,0,2,0,0,2,1,2,0,2,0,0,0] [.code (aA fn)]
def inv1(Nk:List ah)(jE:List (List ah)):St:=⟨[(6,(.pv (ae Nk))),(7,(.row 28 0 jE.length 1))],[(28,(.pure ((jE:List (List ah)).map (an ah.cells)).flatten))]⟩
@[reducible] def aj(Nk:List ah)(jE:List (List ah))(r:PV):Prop:=L bT fn bK (inv1 Nk jE) r
theorem e0(p b c:Rs){r:PV}(h1:Cp 76 [ae p] (.aB [ae b,.aq]))(h2:Cp 80 [ae b] (.aB [ae c,.aq]))(hL:aj c [b] r):Cp 151 [ae p] r :=
 eG Tryz.func151 123 [1,1] [.q,.h 1 (.pv (.aB [ae b,.aq])),.q,.a,.h 1 (.pv (.aB [ae c,.aq])),.q,.a,.q,.aP [6,7]] (y2 h1 h2) hL
theorem l10(b:Rs)(c:List (Rs))(k:Nat)(v d g:Rs)(of:ah)(i:Rs){r:PV}(h1:0<b.length)(h2:((c++[b]):List (Rs)).length*24≤140737488355328)(h3:aw ((((c++[b]).length:Nat):Int)-2))(h4:((((c++[b]).length:Nat):Int)-2)=(k:Int))(h5:k<(c++[b]).length)(h6:(c++[b])[k]? = some v)(h7:Cp 236 [ae v,ae b] (.aB [ae d,ae g,.aq]))(h8:Cp 46 [(vI (-1))] of.pv)(h9:Cp 237 [ae g,of.pv] (.aB [ae i,.aq]))(hL:aj i (c++[b]) r):aj b c r :=
 lG 192 [1,1,6,1,2,1,1,1,1] [.a,.h 1 (iI (b.length:Int)),.t,.h 3 (.app ((c++[b]):List (Rs)).length (((c++[b]):List (Rs)).map (an ah.cells)).flatten),.ba [.o,.o,.o,(iI ((((c++[b]).length:Nat):Int)-2)),(.nat k),(.ev (.pv (ae v))),.o,(.pv (.aB [ae d,ae g,.aq]))],.q,.a,.ba [.o,(.pv of.pv),(.pv (.aB [ae i,.aq]))],.q,.a,.aP [6,7],.drop [34],.l7 35 28] (y9 (au ah.cells b) (ak h1) (gm (og ah.cells) (c:List (Rs)) ([b]:List (Rs)) 24 (Eq.refl (c:List (Rs)).length) (Eq.refl ([b]:List (Rs)).length) h2 rfl) (aX h3) (cj h4 h5) (j5 (enc:=(an ah.cells)) (f:=fun a=>(ae a)) (fun _=>rfl) h6) h7 h8 h9) hL
theorem oK(b:Rs)(c:List (Rs))(h1:b.length≤0):aj b c (.aB [(bq (an ah.cells) c),.aq]) :=
 lD 156 [1,1,3] [.a,.h 1 (iI (b.length:Int)),.f,.q,.iZ 2 ((c:List (Rs)).map (an ah.cells))] (y3 (au ah.cells b) (ax h1) (eR (og ah.cells) (c:List (Rs)) (Eq.refl (c:List (Rs)).length)))
end eJ
namespace cU
@[reducible] def fn:Func:=Tryz.f152
theorem e0(p:Rs)(l:List (Rs))(lo hi:ah)(a b:Int)(h1:Cp 238 [(bq (an ah.cells) l),lo.pv] (vI a))(h2:Cp 238 [(bq (an ah.cells) l),hi.pv] (vI b))(h3:aw (a-b))(h4:(a-b)=0):av bT 152 [(.pv .gb),(.pv (ae p)),(.pv (bq (an ah.cells) l)),(.pv lo.pv),(.pv hi.pv)] [] (.row 0 0 0 6) [(0,(.pure (([]:List af).map af.cells).flatten))] :=
 uT Tryz.func152 90 [1,1,1,1] [.ju 0 1 6,.q,dr 7 1 [.none,.none,(.pv (vI a)),.none,.none,(.pv (vI b)),(iI (a-b))],.q,.t,.q,.l7 1 0,.drop [9,8],.ord [0]] (y4 h1 h2 (aX h3) (aF h4))
theorem e1(p:Rs)(l:List (Rs))(lo hi:ah)(a b c d:Int)(g:af)(h1:Cp 238 [(bq (an ah.cells) l),lo.pv] (vI a))(h2:Cp 238 [(bq (an ah.cells) l),hi.pv] (vI b))(h3:aw (a-b))(h4:(a-b)≠0)(h5:(a-b)=1)(h6:Cp 239 [ae p,lo.pv] (vI c))(h7:c≠0)(h8:Cp 239 [ae p,hi.pv] (vI d))(h9:d=0)(dM:Cp 65 [hi.pv] g.pv)(gy:(([]:List af)++[g]:List af).length*112≤140737488355328):av bT 152 [(.pv .gb),(.pv (ae p)),(.pv (bq (an ah.cells) l)),(.pv lo.pv),(.pv hi.pv)] [] (.row 0 0 ([g].length) 6) [(0,(.pure (([g]:List af).map af.cells).flatten))] :=
 uT Tryz.func152 117 [1,1,1,1,1,1,1,1,1,1,1,1,1,1,6] [.ju 0 1 6,.q,dr 7 1 [.none,.none,(.pv (vI a)),.none,.none,(.pv (vI b)),(iI (a-b))],.q,.f,.ba [.o,.o,.o,.o,.o,(.pv (vI c)),.o,(.dec true)],.t,.h 2 (.pv (vI d)),.t,.ba [.o,.o,(.pv g.pv),.o,(.app ([g]:List af).length (([g]:List af).map af.cells).flatten)],.l7 39 0,.drop [38,9,8],.ord [0]] (Cy h1 h2 (aX h3) (aN h4) (aF h5) (aF h5) (aF h5) h6 (aF h5) (aF h5) (dq h7) h8 (aF h9) dM (gm eX ([]:List af) ([g]:List af) 112 (Eq.refl ([]:List af).length) (Eq.refl ([g]:List af).length) gy rfl))
theorem e2(p:Rs)(l:List (Rs))(lo hi:ah)(a b c d:Int)(g i:ah)(h1:Cp 238 [(bq (an ah.cells) l),lo.pv] (vI a))(h2:Cp 238 [(bq (an ah.cells) l),hi.pv] (vI b))(h3:aw (a-b))(h4:(a-b)≠0)(h5:(a-b)=1)(h6:Cp 239 [ae p,lo.pv] (vI c))(h7:c≠0)(h8:Cp 239 [ae p,hi.pv] (vI d))(h9:d≠0)(dM:Cp 91 [lo.pv,(⟨false,[],[]⟩:ah).pv] g.pv)(gy:Cp 91 [hi.pv,(⟨false,[],[]⟩:ah).pv] i.pv)(j8:(([]:List af)++[(⟨g,i⟩:af)]:List af).length*112≤140737488355328):av bT 152 [(.pv .gb),(.pv (ae p)),(.pv (bq (an ah.cells) l)),(.pv lo.pv),(.pv hi.pv)] [] (.row 0 0 ([(⟨g,i⟩:af)].length) 6) [(0,(.pure (([(⟨g,i⟩:af)]:List af).map af.cells).flatten))] :=
 uT Tryz.func152 120 [1,1,1,1,1,1,1,1,1,1,1,1,1,1,1,6] [.ju 0 1 6,.q,dr 7 1 [.none,.none,(.pv (vI a)),.none,.none,(.pv (vI b)),(iI (a-b))],.q,.f,.ba [.o,.o,.o,.o,.o,(.pv (vI c)),.o,(.dec true)],.t,.h 2 (.pv (vI d)),.f,dr 9 2 [.none,.none,.none,(.pv g.pv),.none,.none,(.pv i.pv),.none,.none,(.app ([(⟨g,i⟩:af)]:List af).length (([(⟨g,i⟩:af)]:List af).map af.cells).flatten)],.l7 49 0,.drop [48,9,8],.ord [0]] (Cz h1 h2 (aX h3) (aN h4) (aF h5) (aF h5) (aF h5) h6 (aF h5) (aF h5) (dq h7) h8 (aN h9) dM gy (gm eX ([]:List af) ([(⟨g,i⟩:af)]:List af) 112 (Eq.refl ([]:List af).length) (Eq.refl ([(⟨g,i⟩:af)]:List af).length) j8 rfl))
theorem nV(p:List ah)(l:List (List ah))(lo hi gJ:ah)(z z1:List af):uu bT lz fn.ntmps (br (focus [0,2,0,2,0,0,2,1,2,0,0,2,1,2,0,2,0] [.code (aA fn)])) (kW (br (focus [0,2,0,2,0,0,2,1,2,0,0,2,1,2,0,2,0] [.code (aA fn)])) [0,1,2,6,7]) (iL (br (focus [0,2,0,2,0,0,2,1,2,0,0,2,1,2,0,2,0] [.code (aA fn)])) [0,1,2,6,7]) [.none,.none,.none,.none,.none,(.bI [(1,200000)] (some (0,59)) (.row 0 0 z.length 6) [(0,(.pure ((z:List af).map af.cells).flatten))]),.none,.none,.none,.none,(.bI [(59,200000)] (some (0,64)) (.row 0 0 z1.length 6) [(0,(.pure ((z1:List af).map af.cells).flatten))]),.none] (wB lz fn.ntmps (br (focus [0,2,0,2,0,0,2,1,2,0,0,2,1,2,0,2,0] [.code (aA fn)])) [0,1,2,6,7] ⟨[(0,(.row 1 0 0 6)),(1,(.pv (ae p))),(2,(.pv (bq (an ah.cells) l))),(8,(.ptr 8 0)),(9,(.ptr 9 0)),(12,(.ptr 12 0))],[(12,(.lit [(eB gJ.neg),(.pv (ag gJ.num)),(.pv (ag gJ.den))])),(9,(.lit [(eB hi.neg),(.pv (ag hi.num)),(.pv (ag hi.den))])),(8,(.lit [(eB lo.neg),(.pv (ag lo.num)),(.pv (ag lo.den))])),(1,(.pure (([]:List af).map af.cells).flatten))]⟩)=uv bT lz fn.ntmps (br (focus [0,2,0,2,0,0,2,1,2,0,0,2,1,2,0,2,0] [.code (aA fn)])) (kW (br (focus [0,2,0,2,0,0,2,1,2,0,0,2,1,2,0,2,0] [.code (aA fn)])) [0,1,2,6,7]) (iL (br (focus [0,2,0,2,0,0,2,1,2,0,0,2,1,2,0,2,0] [.code (aA fn)])) [0,1,2,6,7]) [.none,.none,.none,.none,.none,(.bI [(1,200000)] (some (0,59)) (.row 0 0 z.length 6) [(0,(.pure ((z:List af).map af.cells).flatten))]),.none,.none,.none,.none,(.bI [(59,200000)] (some (0,64)) (.row 0 0 z1.length 6) [(0,(.pure ((z1:List af).map af.cells).flatten))]),.none] (wB lz fn.ntmps (br (focus [0,2,0,2,0,0,2,1,2,0,0,2,1,2,0,2,0] [.code (aA fn)])) [0,1,2,6,7] ⟨[(0,(.row 1 0 0 6)),(1,(.pv (ae p))),(2,(.pv (bq (an ah.cells) l))),(8,(.ptr 8 0)),(9,(.ptr 9 0)),(12,(.ptr 12 0))],[(12,(.lit [(eB gJ.neg),(.pv (ag gJ.num)),(.pv (ag gJ.den))])),(9,(.lit [(eB hi.neg),(.pv (ag hi.num)),(.pv (ag hi.den))])),(8,(.lit [(eB lo.neg),(.pv (ag lo.num)),(.pv (ag lo.den))])),(1,(.pure (([]:List af).map af.cells).flatten))]⟩):=by kernel_rfl
theorem e3(p:Rs)(l:List (Rs))(lo hi:ah)(a b c:Int)(d:ah)(z z1:List af)(h1:Cp 238 [(bq (an ah.cells) l),lo.pv] (vI a))(h2:Cp 238 [(bq (an ah.cells) l),hi.pv] (vI b))(h3:aw (a-b))(h4:(a-b)≠0)(h5:(a-b)=1)(h6:Cp 239 [ae p,lo.pv] (vI c))(h7:c=0)(h8:Cp 176 [(⟨lo,hi⟩:af).pv] d.pv)(h9:av bT 152 [.row 200000 0 0 6,.pv (ae p),.pv (bq (an ah.cells) l),.pv lo.pv,.pv d.pv] [(200000,(.pure (([]:List af).map af.cells).flatten))] (.row 0 0 z.length 6) [(0,(.pure ((z:List af).map af.cells).flatten))])(dM:av bT 152 [.row 200000 0 z.length 6,.pv (ae p),.pv (bq (an ah.cells) l),.pv d.pv,.pv hi.pv] [(200000,(.pure ((z:List af).map af.cells).flatten))] (.row 0 0 z1.length 6) [(0,(.pure ((z1:List af).map af.cells).flatten))]):av bT 152 [(.pv .gb),(.pv (ae p)),(.pv (bq (an ah.cells) l)),(.pv lo.pv),(.pv hi.pv)] [] (.row 0 0 z1.length 6) [(0,(.pure ((z1:List af).map af.cells).flatten))] :=
 uT Tryz.func152 114 [1,1,1,1,1,1,1,1,1,1,1,1,1,1,1] [.ju 0 1 6,.q,dr 7 1 [.none,.none,(.pv (vI a)),.none,.none,(.pv (vI b)),(iI (a-b))],.q,.f,.ba [.o,.o,.o,.o,.o,(.pv (vI c)),.o,(.dec true)],.f,.h 3 (.pv d.pv),.aP [0,1,2,8,9,12],.any [0,1,2,6,7] [.none,.none,.none,.none,.none,(.bI [(1,200000)] (some (0,59)) (.row 0 0 z.length 6) [(0,(.pure ((z:List af).map af.cells).flatten))]),.none,.none,.none,.none,(.bI [(59,200000)] (some (0,64)) (.row 0 0 z1.length 6) [(0,(.pure ((z1:List af).map af.cells).flatten))]),.none],.l7 64 0,.drop [12,9,8],.ord [0]] (Cy h1 h2 (aX h3) (aN h4) (aF h5) (aF h5) (aF h5) h6 (aF h5) (aF h5) (bZ h7) h8 h9 dM (nV p l lo hi d z z1))
theorem nW(p:List ah)(l:List (List ah))(lo hi gJ:ah)(z z1:List af):uu bT lz fn.ntmps (br (focus [0,2,0,2,0,0,2,1,2,0,0,2,1,2,0,2,0] [.code (aA fn)])) (kW (br (focus [0,2,0,2,0,0,2,1,2,0,0,2,1,2,0,2,0] [.code (aA fn)])) [0,1,2,6,7]) (iL (br (focus [0,2,0,2,0,0,2,1,2,0,0,2,1,2,0,2,0] [.code (aA fn)])) [0,1,2,6,7]) [.none,.none,.none,.none,.none,(.bI [(1,200000)] (some (0,59)) (.row 0 0 z.length 6) [(0,(.pure ((z:List af).map af.cells).flatten))]),.none,.none,.none,.none,(.bI [(59,200000)] (some (0,64)) (.row 0 0 z1.length 6) [(0,(.pure ((z1:List af).map af.cells).flatten))]),.none] (wB lz fn.ntmps (br (focus [0,2,0,2,0,0,2,1,2,0,0,2,1,2,0,2,0] [.code (aA fn)])) [0,1,2,6,7] ⟨[(0,(.row 1 0 0 6)),(1,(.pv (ae p))),(2,(.pv (bq (an ah.cells) l))),(8,(.ptr 8 0)),(9,(.ptr 9 0)),(12,(.ptr 12 0))],[(12,(.lit [(eB gJ.neg),(.pv (ag gJ.num)),(.pv (ag gJ.den))])),(9,(.lit [(eB hi.neg),(.pv (ag hi.num)),(.pv (ag hi.den))])),(8,(.lit [(eB lo.neg),(.pv (ag lo.num)),(.pv (ag lo.den))])),(1,(.pure (([]:List af).map af.cells).flatten))]⟩)=uv bT lz fn.ntmps (br (focus [0,2,0,2,0,0,2,1,2,0,0,2,1,2,0,2,0] [.code (aA fn)])) (kW (br (focus [0,2,0,2,0,0,2,1,2,0,0,2,1,2,0,2,0] [.code (aA fn)])) [0,1,2,6,7]) (iL (br (focus [0,2,0,2,0,0,2,1,2,0,0,2,1,2,0,2,0] [.code (aA fn)])) [0,1,2,6,7]) [.none,.none,.none,.none,.none,(.bI [(1,200000)] (some (0,59)) (.row 0 0 z.length 6) [(0,(.pure ((z:List af).map af.cells).flatten))]),.none,.none,.none,.none,(.bI [(59,200000)] (some (0,64)) (.row 0 0 z1.length 6) [(0,(.pure ((z1:List af).map af.cells).flatten))]),.none] (wB lz fn.ntmps (br (focus [0,2,0,2,0,0,2,1,2,0,0,2,1,2,0,2,0] [.code (aA fn)])) [0,1,2,6,7] ⟨[(0,(.row 1 0 0 6)),(1,(.pv (ae p))),(2,(.pv (bq (an ah.cells) l))),(8,(.ptr 8 0)),(9,(.ptr 9 0)),(12,(.ptr 12 0))],[(12,(.lit [(eB gJ.neg),(.pv (ag gJ.num)),(.pv (ag gJ.den))])),(9,(.lit [(eB hi.neg),(.pv (ag hi.num)),(.pv (ag hi.den))])),(8,(.lit [(eB lo.neg),(.pv (ag lo.num)),(.pv (ag lo.den))])),(1,(.pure (([]:List af).map af.cells).flatten))]⟩):=by kernel_rfl
theorem e4(p:Rs)(l:List (Rs))(lo hi:ah)(b c:Int)(d:ah)(z z1:List af)(h1:Cp 238 [(bq (an ah.cells) l),lo.pv] (vI b))(h2:Cp 238 [(bq (an ah.cells) l),hi.pv] (vI c))(h3:aw (b-c))(h4:(b-c)≠0)(h5:(b-c)≠1)(h6:Cp 176 [(⟨lo,hi⟩:af).pv] d.pv)(h7:av bT 152 [.row 200000 0 0 6,.pv (ae p),.pv (bq (an ah.cells) l),.pv lo.pv,.pv d.pv] [(200000,(.pure (([]:List af).map af.cells).flatten))] (.row 0 0 z.length 6) [(0,(.pure ((z:List af).map af.cells).flatten))])(h8:av bT 152 [.row 200000 0 z.length 6,.pv (ae p),.pv (bq (an ah.cells) l),.pv d.pv,.pv hi.pv] [(200000,(.pure ((z:List af).map af.cells).flatten))] (.row 0 0 z1.length 6) [(0,(.pure ((z1:List af).map af.cells).flatten))]):av bT 152 [(.pv .gb),(.pv (ae p)),(.pv (bq (an ah.cells) l)),(.pv lo.pv),(.pv hi.pv)] [] (.row 0 0 z1.length 6) [(0,(.pure ((z1:List af).map af.cells).flatten))] :=
 uT Tryz.func152 114 [1,1,1,1,1,1,1,1,1,1,1,1,1] [.ju 0 1 6,.q,dr 7 1 [.none,.none,(.pv (vI b)),.none,.none,(.pv (vI c)),(iI (b-c))],.q,.f,.ba [.o,.o,.o,.skip,.skip,.skip,.skip,(.dec false)],.a,.h 3 (.pv d.pv),.aP [0,1,2,8,9,12],.any [0,1,2,6,7] [.none,.none,.none,.none,.none,(.bI [(1,200000)] (some (0,59)) (.row 0 0 z.length 6) [(0,(.pure ((z:List af).map af.cells).flatten))]),.none,.none,.none,.none,(.bI [(59,200000)] (some (0,64)) (.row 0 0 z1.length 6) [(0,(.pure ((z1:List af).map af.cells).flatten))]),.none],.l7 64 0,.drop [12,9,8],.ord [0]] (Fz h1 h2 (aX h3) (aN h4) (aN h5) (aN h5) (aN h5) (aN h5) (aN h5) h6 h7 h8 (nW p l lo hi d z z1))
end cU
namespace cV
@[reducible] def fn:Func:=Tryz.f152
theorem e0(a:List af)(p:Rs)(l:List (Rs))(lo hi:ah)(b c:Int)(h1:Cp 238 [(bq (an ah.cells) l),lo.pv] (vI b))(h2:Cp 238 [(bq (an ah.cells) l),hi.pv] (vI c))(h3:aw (b-c))(h4:(b-c)=0):av bT 152 [(.row 200000 0 a.length 6),(.pv (ae p)),(.pv (bq (an ah.cells) l)),(.pv lo.pv),(.pv hi.pv)] [(200000,(.pure ((a:List af).map af.cells).flatten))] (.row 0 0 a.length 6) [(0,(.pure ((a:List af).map af.cells).flatten))] :=
 uT Tryz.func152 90 [1,1,1,1] [.l7 200000 1,.q,dr 7 1 [.none,.none,(.pv (vI b)),.none,.none,(.pv (vI c)),(iI (b-c))],.q,.t,.q,.l7 1 0,.drop [9,8],.ord [0]] (y4 h1 h2 (aX h3) (aF h4))
theorem e1(a:List af)(p:Rs)(l:List (Rs))(lo hi:ah)(b c d g:Int)(i:af)(h1:Cp 238 [(bq (an ah.cells) l),lo.pv] (vI b))(h2:Cp 238 [(bq (an ah.cells) l),hi.pv] (vI c))(h3:aw (b-c))(h4:(b-c)≠0)(h5:(b-c)=1)(h6:Cp 239 [ae p,lo.pv] (vI d))(h7:d≠0)(h8:Cp 239 [ae p,hi.pv] (vI g))(h9:g=0)(dM:Cp 65 [hi.pv] i.pv)(gy:((a++[i]):List af).length*112≤140737488355328):av bT 152 [(.row 200000 0 a.length 6),(.pv (ae p)),(.pv (bq (an ah.cells) l)),(.pv lo.pv),(.pv hi.pv)] [(200000,(.pure ((a:List af).map af.cells).flatten))] (.row 0 0 ((a++[i]).length) 6) [(0,(.pure (((a++[i]):List af).map af.cells).flatten))] :=
 uT Tryz.func152 117 [1,1,1,1,1,1,1,1,1,1,1,1,1,1,6] [.l7 200000 1,.q,dr 7 1 [.none,.none,(.pv (vI b)),.none,.none,(.pv (vI c)),(iI (b-c))],.q,.f,.ba [.o,.o,.o,.o,.o,(.pv (vI d)),.o,(.dec true)],.t,.h 2 (.pv (vI g)),.t,.ba [.o,.o,(.pv i.pv),.o,(.app ((a++[i]):List af).length (((a++[i]):List af).map af.cells).flatten)],.l7 39 0,.drop [38,9,8],.ord [0]] (Cy h1 h2 (aX h3) (aN h4) (aF h5) (aF h5) (aF h5) h6 (aF h5) (aF h5) (dq h7) h8 (aF h9) dM (gm eX (a:List af) ([i]:List af) 112 (Eq.refl (a:List af).length) (Eq.refl ([i]:List af).length) gy rfl))
theorem e2(a:List af)(p:Rs)(l:List (Rs))(lo hi:ah)(b c d g:Int)(i j:ah)(h1:Cp 238 [(bq (an ah.cells) l),lo.pv] (vI b))(h2:Cp 238 [(bq (an ah.cells) l),hi.pv] (vI c))(h3:aw (b-c))(h4:(b-c)≠0)(h5:(b-c)=1)(h6:Cp 239 [ae p,lo.pv] (vI d))(h7:d≠0)(h8:Cp 239 [ae p,hi.pv] (vI g))(h9:g≠0)(dM:Cp 91 [lo.pv,(⟨false,[],[]⟩:ah).pv] i.pv)(gy:Cp 91 [hi.pv,(⟨false,[],[]⟩:ah).pv] j.pv)(j8:((a++[(⟨i,j⟩:af)]):List af).length*112≤140737488355328):av bT 152 [(.row 200000 0 a.length 6),(.pv (ae p)),(.pv (bq (an ah.cells) l)),(.pv lo.pv),(.pv hi.pv)] [(200000,(.pure ((a:List af).map af.cells).flatten))] (.row 0 0 ((a++[(⟨i,j⟩:af)]).length) 6) [(0,(.pure (((a++[(⟨i,j⟩:af)]):List af).map af.cells).flatten))] :=
 uT Tryz.func152 120 [1,1,1,1,1,1,1,1,1,1,1,1,1,1,1,6] [.l7 200000 1,.q,dr 7 1 [.none,.none,(.pv (vI b)),.none,.none,(.pv (vI c)),(iI (b-c))],.q,.f,.ba [.o,.o,.o,.o,.o,(.pv (vI d)),.o,(.dec true)],.t,.h 2 (.pv (vI g)),.f,dr 9 2 [.none,.none,.none,(.pv i.pv),.none,.none,(.pv j.pv),.none,.none,(.app ((a++[(⟨i,j⟩:af)]):List af).length (((a++[(⟨i,j⟩:af)]):List af).map af.cells).flatten)],.l7 49 0,.drop [48,9,8],.ord [0]] (Cz h1 h2 (aX h3) (aN h4) (aF h5) (aF h5) (aF h5) h6 (aF h5) (aF h5) (dq h7) h8 (aN h9) dM gy (gm eX (a:List af) ([(⟨i,j⟩:af)]:List af) 112 (Eq.refl (a:List af).length) (Eq.refl ([(⟨i,j⟩:af)]:List af).length) j8 rfl))
theorem nV(out:List af)(p:List ah)(l:List (List ah))(lo hi gJ:ah)(z z1:List af):uu bT lz fn.ntmps (br (focus [0,2,0,2,0,0,2,1,2,0,0,2,1,2,0,2,0] [.code (aA fn)])) (kW (br (focus [0,2,0,2,0,0,2,1,2,0,0,2,1,2,0,2,0] [.code (aA fn)])) [0,1,2,6,7]) (iL (br (focus [0,2,0,2,0,0,2,1,2,0,0,2,1,2,0,2,0] [.code (aA fn)])) [0,1,2,6,7]) [.none,.none,.none,.none,.none,(.bI [(1,200000)] (some (0,59)) (.row 0 0 z.length 6) [(0,(.pure ((z:List af).map af.cells).flatten))]),.none,.none,.none,.none,(.bI [(59,200000)] (some (0,64)) (.row 0 0 z1.length 6) [(0,(.pure ((z1:List af).map af.cells).flatten))]),.none] (wB lz fn.ntmps (br (focus [0,2,0,2,0,0,2,1,2,0,0,2,1,2,0,2,0] [.code (aA fn)])) [0,1,2,6,7] ⟨[(0,(.row 1 0 out.length 6)),(1,(.pv (ae p))),(2,(.pv (bq (an ah.cells) l))),(8,(.ptr 8 0)),(9,(.ptr 9 0)),(12,(.ptr 12 0))],[(12,(.lit [(eB gJ.neg),(.pv (ag gJ.num)),(.pv (ag gJ.den))])),(9,(.lit [(eB hi.neg),(.pv (ag hi.num)),(.pv (ag hi.den))])),(8,(.lit [(eB lo.neg),(.pv (ag lo.num)),(.pv (ag lo.den))])),(1,(.pure ((out:List af).map af.cells).flatten))]⟩)=uv bT lz fn.ntmps (br (focus [0,2,0,2,0,0,2,1,2,0,0,2,1,2,0,2,0] [.code (aA fn)])) (kW (br (focus [0,2,0,2,0,0,2,1,2,0,0,2,1,2,0,2,0] [.code (aA fn)])) [0,1,2,6,7]) (iL (br (focus [0,2,0,2,0,0,2,1,2,0,0,2,1,2,0,2,0] [.code (aA fn)])) [0,1,2,6,7]) [.none,.none,.none,.none,.none,(.bI [(1,200000)] (some (0,59)) (.row 0 0 z.length 6) [(0,(.pure ((z:List af).map af.cells).flatten))]),.none,.none,.none,.none,(.bI [(59,200000)] (some (0,64)) (.row 0 0 z1.length 6) [(0,(.pure ((z1:List af).map af.cells).flatten))]),.none] (wB lz fn.ntmps (br (focus [0,2,0,2,0,0,2,1,2,0,0,2,1,2,0,2,0] [.code (aA fn)])) [0,1,2,6,7] ⟨[(0,(.row 1 0 out.length 6)),(1,(.pv (ae p))),(2,(.pv (bq (an ah.cells) l))),(8,(.ptr 8 0)),(9,(.ptr 9 0)),(12,(.ptr 12 0))],[(12,(.lit [(eB gJ.neg),(.pv (ag gJ.num)),(.pv (ag gJ.den))])),(9,(.lit [(eB hi.neg),(.pv (ag hi.num)),(.pv (ag hi.den))])),(8,(.lit [(eB lo.neg),(.pv (ag lo.num)),(.pv (ag lo.den))])),(1,(.pure ((out:List af).map af.cells).flatten))]⟩):=by kernel_rfl
theorem e3(a:List af)(p:Rs)(l:List (Rs))(lo hi:ah)(b c d:Int)(g:ah)(z z1:List af)(h1:Cp 238 [(bq (an ah.cells) l),lo.pv] (vI b))(h2:Cp 238 [(bq (an ah.cells) l),hi.pv] (vI c))(h3:aw (b-c))(h4:(b-c)≠0)(h5:(b-c)=1)(h6:Cp 239 [ae p,lo.pv] (vI d))(h7:d=0)(h8:Cp 176 [(⟨lo,hi⟩:af).pv] g.pv)(h9:av bT 152 [.row 200000 0 a.length 6,.pv (ae p),.pv (bq (an ah.cells) l),.pv lo.pv,.pv g.pv] [(200000,(.pure ((a:List af).map af.cells).flatten))] (.row 0 0 z.length 6) [(0,(.pure ((z:List af).map af.cells).flatten))])(dM:av bT 152 [.row 200000 0 z.length 6,.pv (ae p),.pv (bq (an ah.cells) l),.pv g.pv,.pv hi.pv] [(200000,(.pure ((z:List af).map af.cells).flatten))] (.row 0 0 z1.length 6) [(0,(.pure ((z1:List af).map af.cells).flatten))]):av bT 152 [(.row 200000 0 a.length 6),(.pv (ae p)),(.pv (bq (an ah.cells) l)),(.pv lo.pv),(.pv hi.pv)] [(200000,(.pure ((a:List af).map af.cells).flatten))] (.row 0 0 z1.length 6) [(0,(.pure ((z1:List af).map af.cells).flatten))] :=
 uT Tryz.func152 114 [1,1,1,1,1,1,1,1,1,1,1,1,1,1,1] [.l7 200000 1,.q,dr 7 1 [.none,.none,(.pv (vI b)),.none,.none,(.pv (vI c)),(iI (b-c))],.q,.f,.ba [.o,.o,.o,.o,.o,(.pv (vI d)),.o,(.dec true)],.f,.h 3 (.pv g.pv),.aP [0,1,2,8,9,12],.any [0,1,2,6,7] [.none,.none,.none,.none,.none,(.bI [(1,200000)] (some (0,59)) (.row 0 0 z.length 6) [(0,(.pure ((z:List af).map af.cells).flatten))]),.none,.none,.none,.none,(.bI [(59,200000)] (some (0,64)) (.row 0 0 z1.length 6) [(0,(.pure ((z1:List af).map af.cells).flatten))]),.none],.l7 64 0,.drop [12,9,8],.ord [0]] (Cy h1 h2 (aX h3) (aN h4) (aF h5) (aF h5) (aF h5) h6 (aF h5) (aF h5) (bZ h7) h8 h9 dM (nV a p l lo hi g z z1))
theorem nW(out:List af)(p:List ah)(l:List (List ah))(lo hi gJ:ah)(z z1:List af):uu bT lz fn.ntmps (br (focus [0,2,0,2,0,0,2,1,2,0,0,2,1,2,0,2,0] [.code (aA fn)])) (kW (br (focus [0,2,0,2,0,0,2,1,2,0,0,2,1,2,0,2,0] [.code (aA fn)])) [0,1,2,6,7]) (iL (br (focus [0,2,0,2,0,0,2,1,2,0,0,2,1,2,0,2,0] [.code (aA fn)])) [0,1,2,6,7]) [.none,.none,.none,.none,.none,(.bI [(1,200000)] (some (0,59)) (.row 0 0 z.length 6) [(0,(.pure ((z:List af).map af.cells).flatten))]),.none,.none,.none,.none,(.bI [(59,200000)] (some (0,64)) (.row 0 0 z1.length 6) [(0,(.pure ((z1:List af).map af.cells).flatten))]),.none] (wB lz fn.ntmps (br (focus [0,2,0,2,0,0,2,1,2,0,0,2,1,2,0,2,0] [.code (aA fn)])) [0,1,2,6,7] ⟨[(0,(.row 1 0 out.length 6)),(1,(.pv (ae p))),(2,(.pv (bq (an ah.cells) l))),(8,(.ptr 8 0)),(9,(.ptr 9 0)),(12,(.ptr 12 0))],[(12,(.lit [(eB gJ.neg),(.pv (ag gJ.num)),(.pv (ag gJ.den))])),(9,(.lit [(eB hi.neg),(.pv (ag hi.num)),(.pv (ag hi.den))])),(8,(.lit [(eB lo.neg),(.pv (ag lo.num)),(.pv (ag lo.den))])),(1,(.pure ((out:List af).map af.cells).flatten))]⟩)=uv bT lz fn.ntmps (br (focus [0,2,0,2,0,0,2,1,2,0,0,2,1,2,0,2,0] [.code (aA fn)])) (kW (br (focus [0,2,0,2,0,0,2,1,2,0,0,2,1,2,0,2,0] [.code (aA fn)])) [0,1,2,6,7]) (iL (br (focus [0,2,0,2,0,0,2,1,2,0,0,2,1,2,0,2,0] [.code (aA fn)])) [0,1,2,6,7]) [.none,.none,.none,.none,.none,(.bI [(1,200000)] (some (0,59)) (.row 0 0 z.length 6) [(0,(.pure ((z:List af).map af.cells).flatten))]),.none,.none,.none,.none,(.bI [(59,200000)] (some (0,64)) (.row 0 0 z1.length 6) [(0,(.pure ((z1:List af).map af.cells).flatten))]),.none] (wB lz fn.ntmps (br (focus [0,2,0,2,0,0,2,1,2,0,0,2,1,2,0,2,0] [.code (aA fn)])) [0,1,2,6,7] ⟨[(0,(.row 1 0 out.length 6)),(1,(.pv (ae p))),(2,(.pv (bq (an ah.cells) l))),(8,(.ptr 8 0)),(9,(.ptr 9 0)),(12,(.ptr 12 0))],[(12,(.lit [(eB gJ.neg),(.pv (ag gJ.num)),(.pv (ag gJ.den))])),(9,(.lit [(eB hi.neg),(.pv (ag hi.num)),(.pv (ag hi.den))])),(8,(.lit [(eB lo.neg),(.pv (ag lo.num)),(.pv (ag lo.den))])),(1,(.pure ((out:List af).map af.cells).flatten))]⟩):=by kernel_rfl
theorem e4(b:List af)(p:Rs)(l:List (Rs))(lo hi:ah)(c d:Int)(g:ah)(z z1:List af)(h1:Cp 238 [(bq (an ah.cells) l),lo.pv] (vI c))(h2:Cp 238 [(bq (an ah.cells) l),hi.pv] (vI d))(h3:aw (c-d))(h4:(c-d)≠0)(h5:(c-d)≠1)(h6:Cp 176 [(⟨lo,hi⟩:af).pv] g.pv)(h7:av bT 152 [.row 200000 0 b.length 6,.pv (ae p),.pv (bq (an ah.cells) l),.pv lo.pv,.pv g.pv] [(200000,(.pure ((b:List af).map af.cells).flatten))] (.row 0 0 z.length 6) [(0,(.pure ((z:List af).map af.cells).flatten))])(h8:av bT 152 [.row 200000 0 z.length 6,.pv (ae p),.pv (bq (an ah.cells) l),.pv g.pv,.pv hi.pv] [(200000,(.pure ((z:List af).map af.cells).flatten))] (.row 0 0 z1.length 6) [(0,(.pure ((z1:List af).map af.cells).flatten))]):av bT 152 [(.row 200000 0 b.length 6),(.pv (ae p)),(.pv (bq (an ah.cells) l)),(.pv lo.pv),(.pv hi.pv)] [(200000,(.pure ((b:List af).map af.cells).flatten))] (.row 0 0 z1.length 6) [(0,(.pure ((z1:List af).map af.cells).flatten))] :=
 uT Tryz.func152 114 [1,1,1,1,1,1,1,1,1,1,1,1,1] [.l7 200000 1,.q,dr 7 1 [.none,.none,(.pv (vI c)),.none,.none,(.pv (vI d)),(iI (c-d))],.q,.f,.ba [.o,.o,.o,.skip,.skip,.skip,.skip,(.dec false)],.a,.h 3 (.pv g.pv),.aP [0,1,2,8,9,12],.any [0,1,2,6,7] [.none,.none,.none,.none,.none,(.bI [(1,200000)] (some (0,59)) (.row 0 0 z.length 6) [(0,(.pure ((z:List af).map af.cells).flatten))]),.none,.none,.none,.none,(.bI [(59,200000)] (some (0,64)) (.row 0 0 z1.length 6) [(0,(.pure ((z1:List af).map af.cells).flatten))]),.none],.l7 64 0,.drop [12,9,8],.ord [0]] (Fz h1 h2 (aX h3) (aN h4) (aN h5) (aN h5) (aN h5) (aN h5) (aN h5) h6 h7 h8 (nW b p l lo hi g z z1))
end cV
namespace bX
@[reducible] def fn:Func:=Tryz.f159
def bK:List gC:=focus [0,2,0,2,0,2,0,2,0,0,0] [.code (aA fn)]
def inv1(Nl:List ah)(lx:List (List ah)):St:=⟨[(5,(.pv (ae Nl))),(7,(.row 22 0 lx.length 1))],[(22,(.pure ((lx:List (List ah)).map (an ah.cells)).flatten))]⟩
@[reducible] def aj(Nl:List ah)(lx:List (List ah))(r:PV):Prop:=L bT fn bK (inv1 Nl lx) r
theorem e0(p a:Rs)(b:Int)(c:Rs)(d:Int){r:PV}(h1:Cp 78 [ae p] (.aB [ae a,vI b]))(h2:Cp 84 [ae a] (.aB [ae c,vI d]))(hL:aj c [a] r):Cp 159 [ae p] r :=
 eG Tryz.func159 93 [1,1] [.q,.h 1 (.pv (.aB [ae a,vI b])),.h 1 (.pv (.aB [ae c,vI d])),.q,.aP [5,7]] (y2 h1 h2) hL
theorem l10(b:Rs)(c:List (Rs))(k:Nat)(v d g:Rs)(i:Int)(of:ah)(j:Rs)(l:Int){r:PV}(h1:0<b.length)(h2:((c++[b]):List (Rs)).length*24≤140737488355328)(h3:aw ((((c++[b]).length:Nat):Int)-2))(h4:((((c++[b]).length:Nat):Int)-2)=(k:Int))(h5:k<(c++[b]).length)(h6:(c++[b])[k]? = some v)(h7:Cp 242 [ae v,ae b] (.aB [ae d,ae g,vI i]))(h8:Cp 89 [(vI (-1))] of.pv)(h9:Cp 243 [ae g,of.pv] (.aB [ae j,vI l]))(hL:aj j (c++[b]) r):aj b c r :=
 lG 132 [1,1,6,1,2,1,1,1,1] [.a,.h 1 (iI (b.length:Int)),.t,.h 3 (.app ((c++[b]):List (Rs)).length (((c++[b]):List (Rs)).map (an ah.cells)).flatten),.ba [.o,.o,.o,(iI ((((c++[b]).length:Nat):Int)-2)),(.nat k),(.ev (.pv (ae v))),.o,(.pv (.aB [ae d,ae g,vI i]))],.ba [.o,(.pv of.pv),(.pv (.aB [ae j,vI l]))],.aP [5,7],.drop [28],.l7 29 22] (y9 (au ah.cells b) (ak h1) (gm (og ah.cells) (c:List (Rs)) ([b]:List (Rs)) 24 (Eq.refl (c:List (Rs)).length) (Eq.refl ([b]:List (Rs)).length) h2 rfl) (aX h3) (cj h4 h5) (j5 (enc:=(an ah.cells)) (f:=fun a=>(ae a)) (fun _=>rfl) h6) h7 h8 h9) hL
theorem dw(b:Rs)(c:List (Rs))(h1:b.length≤0):aj b c (bq (an ah.cells) c) :=
 lD 126 [1,1,3] [.a,.h 1 (iI (b.length:Int)),.f,.q,.iZ 2 ((c:List (Rs)).map (an ah.cells))] (y3 (au ah.cells b) (ax h1) (eR (og ah.cells) (c:List (Rs)) (Eq.refl (c:List (Rs)).length)))
end bX
namespace fV
theorem e0(p:Rs)(h1:Cp 79 [ae p] .aq)(h2:p.length=0):Cp 165 [ae p] (.iface 67 (vI 8)) :=
 eD Tryz.func165 105 [1,1,1] [.q,.h 1 (.pv .aq),.q,.a,.h 1 (iI (p.length:Int)),.t,.q] (y3 h1 (au ah.cells p) (aL h2))
theorem e1(p:Rs)(h1:Cp 79 [ae p] .aq)(h2:p.length≠0):Cp 165 [ae p] .aq :=
 eD Tryz.func165 108 [1,1,1] [.q,.h 1 (.pv .aq),.q,.a,.h 1 (iI (p.length:Int)),.f,.q] (y3 h1 (au ah.cells p) (aC h2))
theorem e2(p:Rs)(b:Int)(h1:Cp 79 [ae p] (.iface 67 (vI b))):Cp 165 [ae p] (.iface 67 (vI b)) :=
 eD Tryz.func165 90 [1] [.q,.h 1 (.pv (.iface 67 (vI b))),.q,.a,.q] (y1 h1)
end fV
namespace cQ
theorem e0(p:Rs)(rV:af)(a:Bool)(h1:Cp 213 [rV.pv] (vB a))(h2:a=false):Cp 166 [ae p,rV.pv] (.aB [vB false,.aq]) :=
 eD Tryz.func166 84 [1,1] [.q,.h 1 (.pv (vB a)),.t,.q] (y2 h1 (bB h2))
theorem e1(p:Rs)(rV:af)(a:Bool)(b c:Int)(h1:Cp 213 [rV.pv] (vB a))(h2:a=true)(h3:Cp 34 [rV.lo.pv,rV.hi.pv] (vI b))(h4:b=0)(h5:Cp 239 [ae p,rV.lo.pv] (vI c)):Cp 166 [ae p,rV.pv] (.aB [(vB (c==0)),.aq]) :=
 eD Tryz.func166 99 [1,1,1,1,1] [.q,.h 1 (.pv (vB a)),.f,.h 4 (.pv (vI b)),.t,.h 3 (.pv (vI c))] (y5 h1 (ay h2) h3 (aF h4) h5)
theorem e2(p:Rs)(rV:af)(b:Bool)(c:Int)(d:Rs)(g i:Int)(h1:Cp 213 [rV.pv] (vB b))(h2:b=true)(h3:Cp 34 [rV.lo.pv,rV.hi.pv] (vI c))(h4:c≠0)(h5:Cp 76 [ae p] (.aB [ae d,.aq]))(h6:Cp 239 [ae d,rV.lo.pv] (vI g))(h7:Cp 239 [ae d,rV.hi.pv] (vI i))(h8:aw (g*i))(h9:(g*i)≠(-1)):Cp 166 [ae p,rV.pv] (.aB [vB false,.aq]) :=
 eD Tryz.func166 135 [1,1,1,1,1,1,1,1,1] [.q,.h 1 (.pv (vB b)),.f,.h 4 (.pv (vI c)),.f,.h 1 (.pv (.aB [ae d,.aq])),.q,.a,dr 10 0 [.none,.none,.none,(.pv (vI g)),.none,.none,.none,(.pv (vI i)),(iI (g*i))],.t,.q] (y9 h1 (ay h2) h3 (aN h4) h5 h6 h7 (mR h8) (dq h9))
theorem e3(p:Rs)(rV:af)(b:Bool)(c:Int)(d:Rs)(g i j:Int)(k:Option Int)(h1:Cp 213 [rV.pv] (vB b))(h2:b=true)(h3:Cp 34 [rV.lo.pv,rV.hi.pv] (vI c))(h4:c≠0)(h5:Cp 76 [ae p] (.aB [ae d,.aq]))(h6:Cp 239 [ae d,rV.lo.pv] (vI g))(h7:Cp 239 [ae d,rV.hi.pv] (vI i))(h8:aw (g*i))(h9:(g*i)=(-1))(dM:Cp 246 [ae p,rV.lo.pv,rV.hi.pv] (.aB [vI j,bC k])):Cp 166 [ae p,rV.pv] (.aB [(vB (j==1)),bC k]) :=
 eD Tryz.func166 144 [1,1,1,1,1,1,1,1,1,1] [.q,.h 1 (.pv (vB b)),.f,.h 4 (.pv (vI c)),.f,.h 1 (.pv (.aB [ae d,.aq])),.q,.a,dr 10 0 [.none,.none,.none,(.pv (vI g)),.none,.none,.none,(.pv (vI i)),(iI (g*i))],.f,.h 5 (.pv (.aB [vI j,bC k])),.q] (Iu h1 (ay h2) h3 (aN h4) h5 h6 h7 (mR h8) (bZ h9) dM)
end cQ
namespace bD
theorem e0(p:Rs)(rV:af)(a:Bool)(h1:Cp 247 [rV.pv] (vB a))(h2:a=false):Cp 168 [ae p,rV.pv] (vB false) :=
 eD Tryz.func168 84 [1,1] [.q,.h 1 (.pv (vB a)),.t,.q] (y2 h1 (bB h2))
theorem e1(p:Rs)(rV:af)(a:Bool)(b c:Int)(h1:Cp 247 [rV.pv] (vB a))(h2:a=true)(h3:Cp 69 [rV.lo.pv,rV.hi.pv] (vI b))(h4:b=0)(h5:Cp 248 [ae p,rV.lo.pv] (vI c)):Cp 168 [ae p,rV.pv] (vB (c==0)) :=
 eD Tryz.func168 99 [1,1,1,1,1] [.q,.h 1 (.pv (vB a)),.f,.h 4 (.pv (vI b)),.t,.h 3 (.pv (vI c))] (y5 h1 (ay h2) h3 (aF h4) h5)
theorem e2(p:Rs)(rV:af)(a:Bool)(b c d g:Int)(h1:Cp 247 [rV.pv] (vB a))(h2:a=true)(h3:Cp 69 [rV.lo.pv,rV.hi.pv] (vI b))(h4:b≠0)(h5:Cp 248 [ae p,rV.lo.pv] (vI c))(h6:Cp 248 [ae p,rV.hi.pv] (vI d))(h7:aw (c*d))(h8:(c*d)=(-1))(h9:Cp 249 [ae p,rV.lo.pv,rV.hi.pv] (vI g)):Cp 168 [ae p,rV.pv] (vB (g==1)) :=
 eD Tryz.func168 102 [1,1,1,1,1,1,1,1,1,1,1,1,1,1,1,1] [.q,.h 1 (.pv (vB a)),.f,.h 4 (.pv (vI b)),.f,dr 19 1 [.none,.none,.none,(.pv (vI c)),.none,.none,.none,(.pv (vI d)),(iI (c*d)),.none,.none,.none,.none,.none,.none,.none,(.pv (vI g)),.none,(.dec true)]] (Cz h1 (ay h2) h3 (aN h4) h5 h6 (mR h7) (aF h8) (aF h8) (aF h8) (aF h8) (aF h8) (aF h8) h9 (aF h8) (aF h8))
theorem e3(p:Rs)(rV:af)(a:Bool)(b c d:Int)(h1:Cp 247 [rV.pv] (vB a))(h2:a=true)(h3:Cp 69 [rV.lo.pv,rV.hi.pv] (vI b))(h4:b≠0)(h5:Cp 248 [ae p,rV.lo.pv] (vI c))(h6:Cp 248 [ae p,rV.hi.pv] (vI d))(h7:aw (c*d))(h8:(c*d)≠(-1)):Cp 168 [ae p,rV.pv] (vB false) :=
 eD Tryz.func168 102 [1,1,1,1,1,1,1,1,1,1,1,1,1,1,1] [.q,.h 1 (.pv (vB a)),.f,.h 4 (.pv (vI b)),.f,dr 19 1 [.none,.none,.none,(.pv (vI c)),.none,.none,.none,(.pv (vI d)),(iI (c*d)),.none,.none,.skip,.skip,.skip,.skip,.skip,.skip,.skip,(.dec false)]] (Cy h1 (ay h2) h3 (aN h4) h5 h6 (mR h7) (aN h8) (aN h8) (aN h8) (aN h8) (aN h8) (aN h8) (aN h8) (aN h8))
end bD
namespace lk
theorem e4(p:Rs)(lo hi:ah)(a:Int)(b c:Bool)(d g:Int)(h1:Cp 83 [ae p] (vI a))(h2:a=0)(h3:Cp 111 [lo.pv] (vB b))(h4:b=true)(h5:Cp 111 [hi.pv] (vB c))(h6:c=true)(h7:Cp 69 [lo.pv,hi.pv] (vI d))(h8:d≤0)(h9:Cp 249 [ae p,lo.pv,hi.pv] (vI g)):Cp 207 [ae p,lo.pv,hi.pv] (.aB [vI g,vI 0]) :=
 eD Tryz.func207 108 [1,1,1,1,1,1,1,1,1,1,1,1,1,1,1,1] [.q,.h 1 (.pv (vI a)),.q,.f,.ba [.o,(.pv (vB b)),.o,.o,.o,(.pv (vB c)),.o,(.dec false),.o,.o,.o,(.pv (vI d)),.o,(.dec false)],.f,.h 3 (.pv (vI g))] (Cz h1 (bZ h2) h3 (ay h4) (ay h4) h5 (ay h4) (ay h4) (ay h6) (ay h6) (ay h6) h7 (ay h6) (ay h6) (bQ h8) h9)
end lk
namespace cy
@[reducible] def fn:Func:=Tryz.f238
def bK:List gC:=focus [0,2,0,2,0,0,2,0,0] [.code (aA fn)]
def inv1(Ca:Nat)(jt:Int)(l:List (List ah))(pn:Nat)(x:ah):St:=⟨[(3,(.ptr 3 0)),(5,(eI (Ca:Int))),(6,(eI jt)),(10,(.pv (bq (an ah.cells) l))),(11,(eI (l.length:Int))),(12,(eI (pn:Int)))],[(3,(.lit [(eB x.neg),(.pv (ag x.num)),(.pv (ag x.den))]))]⟩
@[reducible] def aj(Ca:Nat)(jt:Int)(l:List (List ah))(pn:Nat)(x:ah)(r:PV):Prop:=L bT fn bK (inv1 Ca jt l pn x) r
theorem e0 (l : List (Rs)) (x : ah) {r : PV}  (hL : aj 0 0 l 0 x r) : Cp 238 [(bq (an ah.cells) l), x.pv] r :=
 eG Tryz.func238 87 [1] [.q,.q,.h 1 (iI (l.length:Int)),.aP [3,5,6,10,11,12]] (y1 (au (an ah.cells) l)) hL
theorem l10(b:Nat)(c:Int)(l:List (Rs))(d:Nat)(x:ah)(v:Rs)(g:Int){r:PV}(h1:d<l.length)(h2:l[d]? = some v)(h3:Cp 239 [ae v,x.pv] (vI g))(h4:g≠0)(h5:aw (-c))(h6:g=(-c))(h7:(b+1)<9223372036854775808)(h8:(d+1)<9223372036854775808)(hL:aj (b+1) g l (d+1) x r):aj b c l d x r :=
 lG 156 [1,3,1,1,1,1,1,1] [.a,.q,.t,.h 0 (.row d ((an ah.cells) v)),.h 2 (.pv (vI g)),.q,.t,.h 2 (iI (-c)),.t,.h 1 (iI (((b+1):Nat):Int)),.q,.h 0 (iI (((d+1):Nat):Int)),.aP [3,5,6,10,11,12]] (y8 (ak h1) (bU (an ah.cells) (Eq.refl (((d:Nat):Int):Int)) h2) h3 (dq h4) (oI h5) (aF h6) (aR h7) (aR h8)) hL
theorem dw(b:Nat)(c:Int)(l:List (Rs))(d:Nat)(x:ah)(v:Rs)(g:Int){r:PV}(h1:d<l.length)(h2:l[d]? = some v)(h3:Cp 239 [ae v,x.pv] (vI g))(h4:g≠0)(h5:aw (-c))(h6:g≠(-c))(h7:(d+1)<9223372036854775808)(hL:aj b g l (d+1) x r):aj b c l d x r :=
 lG 156 [1,3,1,1,1,1,1] [.a,.q,.t,.h 0 (.row d ((an ah.cells) v)),.h 2 (.pv (vI g)),.q,.t,.h 2 (iI (-c)),.f,.q,.h 0 (iI (((d+1):Nat):Int)),.aP [3,5,6,10,11,12]] (y7 (ak h1) (bU (an ah.cells) (Eq.refl (((d:Nat):Int):Int)) h2) h3 (dq h4) (oI h5) (aN h6) (aR h7)) hL
theorem ji(b:Nat)(c:Int)(l:List (Rs))(d:Nat)(x:ah)(v:Rs)(g:Int){r:PV}(h1:d<l.length)(h2:l[d]? = some v)(h3:Cp 239 [ae v,x.pv] (vI g))(h4:g=0)(h5:(d+1)<9223372036854775808)(hL:aj b c l (d+1) x r):aj b c l d x r :=
 lG 141 [1,3,1,1,1] [.a,.q,.t,.h 0 (.row d ((an ah.cells) v)),.h 2 (.pv (vI g)),.q,.f,.h 0 (iI (((d+1):Nat):Int)),.aP [3,5,6,10,11,12]] (y5 (ak h1) (bU (an ah.cells) (Eq.refl (((d:Nat):Int):Int)) h2) h3 (bZ h4) (aR h5)) hL
theorem oK(b:Nat)(c:Int)(l:List (Rs))(d:Nat)(x:ah)(h1:l.length≤d):aj b c l d x (vI (b:Int)) :=
 lD 120 [1] [.a,.q,.f,.q] (y1 (ax h1))
end cy
namespace iy
theorem e0(p:Rs)(x a:ah)(b:Option Int)(c:Int)(h1:Cp 133 [ae p,x.pv] (.aB [a.pv,bC b]))(h2:Cp 33 [a.pv] (vI c)):Cp 239 [ae p,x.pv] (vI c) :=
 eD Tryz.func239 78 [1,1] [.q,.h 2 (.pv (.aB [a.pv,bC b])),.h 1 (.pv (vI c))] (y2 h1 h2)
end iy
namespace a6
@[reducible] def fn:Func:=Tryz.f241
def bK:List gC:=focus [0,2,0,2,0,0,2,0,0] [.code (aA fn)]
def inv1(Ca:Nat)(jt:Int)(l:List (List ah))(pn:Nat)(x:ah):St:=⟨[(3,(.ptr 3 0)),(5,(eI (Ca:Int))),(6,(eI jt)),(10,(.pv (bq (an ah.cells) l))),(11,(eI (l.length:Int))),(12,(eI (pn:Int)))],[(3,(.lit [(eB x.neg),(.pv (ag x.num)),(.pv (ag x.den))]))]⟩
@[reducible] def aj(Ca:Nat)(jt:Int)(l:List (List ah))(pn:Nat)(x:ah)(r:PV):Prop:=L bT fn bK (inv1 Ca jt l pn x) r
theorem e0 (l : List (Rs)) (x : ah) {r : PV}  (hL : aj 0 0 l 0 x r) : Cp 241 [(bq (an ah.cells) l), x.pv] r :=
 eG Tryz.func241 87 [1] [.q,.q,.h 1 (iI (l.length:Int)),.aP [3,5,6,10,11,12]] (y1 (au (an ah.cells) l)) hL
theorem l10(b:Nat)(c:Int)(l:List (Rs))(d:Nat)(x:ah)(v:Rs)(g:ah)(i:Int){r:PV}(h1:d<l.length)(h2:l[d]? = some v)(h3:Cp 208 [ae v,x.pv] g.pv)(h4:Cp 124 [g.pv] (vI i))(h5:i=0)(h6:(d+1)<9223372036854775808)(hL:aj b c l (d+1) x r):aj b c l d x r :=
 lG 147 [1,3,1,1,1,1] [.a,.q,.t,.h 0 (.row d ((an ah.cells) v)),.ba [.o,.o,(.pv g.pv),(.pv (vI i))],.q,.t,.h 0 (iI (((d+1):Nat):Int)),.aP [3,5,6,10,11,12]] (y6 (ak h1) (bU (an ah.cells) (Eq.refl (((d:Nat):Int):Int)) h2) h3 h4 (aF h5) (aR h6)) hL
theorem dw(b:Nat)(c:Int)(l:List (Rs))(d:Nat)(x:ah)(v:Rs)(g:ah)(i:Int){r:PV}(h1:d<l.length)(h2:l[d]? = some v)(h3:Cp 208 [ae v,x.pv] g.pv)(h4:Cp 124 [g.pv] (vI i))(h5:i≠0)(h6:aw (-c))(h7:i=(-c))(h8:(b+1)<9223372036854775808)(h9:(d+1)<9223372036854775808)(hL:aj (b+1) i l (d+1) x r):aj b c l d x r :=
 lG 162 [1,3,1,1,1,1,1,1,1] [.a,.q,.t,.h 0 (.row d ((an ah.cells) v)),.ba [.o,.o,(.pv g.pv),(.pv (vI i))],.q,.f,.h 2 (iI (-c)),.t,.h 1 (iI (((b+1):Nat):Int)),.q,.h 0 (iI (((d+1):Nat):Int)),.aP [3,5,6,10,11,12]] (y9 (ak h1) (bU (an ah.cells) (Eq.refl (((d:Nat):Int):Int)) h2) h3 h4 (aN h5) (oI h6) (aF h7) (aR h8) (aR h9)) hL
theorem ji(b:Nat)(c:Int)(l:List (Rs))(d:Nat)(x:ah)(v:Rs)(g:ah)(i:Int){r:PV}(h1:d<l.length)(h2:l[d]? = some v)(h3:Cp 208 [ae v,x.pv] g.pv)(h4:Cp 124 [g.pv] (vI i))(h5:i≠0)(h6:aw (-c))(h7:i≠(-c))(h8:(d+1)<9223372036854775808)(hL:aj b i l (d+1) x r):aj b c l d x r :=
 lG 162 [1,3,1,1,1,1,1,1] [.a,.q,.t,.h 0 (.row d ((an ah.cells) v)),.ba [.o,.o,(.pv g.pv),(.pv (vI i))],.q,.f,.h 2 (iI (-c)),.f,.q,.h 0 (iI (((d+1):Nat):Int)),.aP [3,5,6,10,11,12]] (y8 (ak h1) (bU (an ah.cells) (Eq.refl (((d:Nat):Int):Int)) h2) h3 h4 (aN h5) (oI h6) (aN h7) (aR h8)) hL
theorem oK(b:Nat)(c:Int)(l:List (Rs))(d:Nat)(x:ah)(h1:l.length≤d):aj b c l d x (vI (b:Int)) :=
 lD 120 [1] [.a,.q,.f,.q] (y1 (ax h1))
end a6
namespace kF
theorem e3(p:Rs)(lo hi:ah)(b c:Bool)(d:Int)(g:List (Rs))(i j:Int)(h1:Cp 165 [ae p] .aq)(h2:Cp 164 [lo.pv] (vB b))(h3:b=true)(h4:Cp 164 [hi.pv] (vB c))(h5:c=true)(h6:Cp 34 [lo.pv,hi.pv] (vI d))(h7:d≤0)(h8:Cp 151 [ae p] (.aB [(bq (an ah.cells) g),.aq]))(h9:Cp 238 [(bq (an ah.cells) g),lo.pv] (vI i))(dM:Cp 238 [(bq (an ah.cells) g),hi.pv] (vI j))(gy:aw (i-j)):Cp 246 [ae p,lo.pv,hi.pv] (.aB [(vI (i-j)),.aq]) :=
 eD Tryz.func246 129 [1,1,1,1,1,1,1,1,1,1,1,1,1,1,1,1,1,1] [.q,.h 1 (.pv .aq),.q,.a,.ba [.o,(.pv (vB b)),.o,.o,.o,(.pv (vB c)),.o,(.dec false),.o,.o,.o,(.pv (vI d)),.o,(.dec false)],.f,.h 1 (.pv (.aB [(bq (an ah.cells) g),.aq])),.q,.a,dr 7 2 [.none,.none,(.pv (vI i)),.none,.none,(.pv (vI j)),(iI (i-j))]] (PU h1 h2 (ay h3) (ay h3) h4 (ay h3) (ay h3) (ay h5) (ay h5) (ay h5) h6 (ay h5) (ay h5) (bQ h7) h8 h9 dM (aX gy))
end kF
namespace fH
theorem e0(p:Rs)(x:ah)(a:Rs)(b:Int)(c:ah)(d:Int)(h1:Cp 78 [ae p] (.aB [ae a,vI b]))(h2:Cp 208 [ae a,x.pv] c.pv)(h3:Cp 124 [c.pv] (vI d)):Cp 248 [ae p,x.pv] (vI d) :=
 eD Tryz.func248 78 [1,1,1] [.q,.h 1 (.pv (.aB [ae a,vI b])),.ba [.o,.o,(.pv c.pv),(.pv (vI d))]] (y3 h1 h2 h3)
end fH
namespace eT
theorem e0(p:Rs)(lo hi:ah)(a:List (Rs))(b c:Int)(h1:Cp 159 [ae p] (bq (an ah.cells) a))(h2:Cp 241 [(bq (an ah.cells) a),lo.pv] (vI b))(h3:Cp 241 [(bq (an ah.cells) a),hi.pv] (vI c))(h4:aw (b-c)):Cp 249 [ae p,lo.pv,hi.pv] (vI (b-c)) :=
 eD Tryz.func249 78 [1,1,1,1] [.q,.h 1 (.pv (bq (an ah.cells) a)),dr 7 1 [.none,.none,(.pv (vI b)),.none,.none,(.pv (vI c)),(iI (b-c))]] (y4 h1 h2 h3 (aX h4))
end eT
end Go.Proofs.YtllmkadmohkbfaaGreatDoor.Sym.Path
namespace Go.Proofs.YtllmkadmohkbfaaGreatDoor.Sym
open Go Path dE
set_option linter.unusedVariables false
namespace o7
theorem check(p:List ah)(hp:iN 274877906944 p):Cp 165 [ae p] (bC (l6 (if kN p=0 then (if p.length=0 then 8 else 0) else kN p))):=by
 have hk:=uh.Check p hp
 by_cases h:kN p=0
 ·rw[if_pos h]
  rw[h] at hk
  by_cases h0:p.length=0
  ·rw[if_pos h0];exact fV.e0 p hk h0
  ·rw[if_neg h0];exact fV.e1 p hk h0
 ·rw[if_neg h]
  rw[gw h] at hk ⊢
  exact fV.e2 p _ hk
theorem chain{h L:Nat}{p:List Rat}(f:cH h L p):Cp 151 [pq p] (.aB [w9 (aG p),.aq]):=by
 have hL:=f.hL
 have DJ:=f.fb
 obtain⟨f1,f2,_⟩:=free_spec f.zp f.ne
 have FH:=f.jS
 have hl:=f.len
 have FG:=f.o0.fl DJ.2.2.1
 have hd:=uh.iS ((aM p).map aE) (cE f1 (by omega)) (db (cL FG (by omega)))
 rw[cO] at hd
 have loop:∀(n i j:Nat) (pre:List (List Rat)) (q d:List Rat),d.length<n→pre.length+n≤20→su (fB h L) (fB h L+1) L i j q d→eJ.aj (d.map aE) ((pre++[q]).map (fun g=>g.map aE)) (.aB [w9 (pre++chainF n q d),.aq]):=by
  intro n
  induction n with
  |zero=>intro i j pre q d hn;omega
  |succ n ih =>
   intro i j pre q d hn Gd e
   by_cases h0:d=[]
   ·subst h0
    rw[fc]
    exact eJ.oK _ _ (by simp)
   ·rw[eb h0]
    obtain⟨c1,c2⟩:=qG.next DJ.2.2.1 (Nat.le_succ _) (by omega) f.xa e h0
    obtain⟨r1,r2⟩:=e.rest (Nat.le_succ _) h0
    have hc:Ch (xB (fB h L) (fB h L+1) (j+(q.length-d.length))) (aU (bn (-1) (a7 q d))):=by
     refine Ch.trim ?_
     obtain⟨D,d1,d2,d3⟩:=r1
     refine⟨D,d1,d2,fun i => ?_⟩
     obtain⟨m,m1,m2⟩:=d3 i
     refine⟨-m,?_,by rw[kC];exact m2⟩
     rw[ck,Rat.intCast_neg,←m1];grind
    have next:=ih _ _ (pre++[q]) d _ (by have:=eM (p:=q) e.zq h0;omega) (by rw[List.length_append,List.length_singleton];omega) (e.next (Nat.le_succ _) h0 hc (eM e.zq h0) (bj _))
    have es:(pre++[q]).map (fun g=>g.map aE)++[d.map aE]=(pre++[q]++[d]).map (fun g=>g.map aE):=by rw[List.map_append (l₁:=pre++[q])];rfl
    have hlen:((pre++[q]++[d]).map (fun g=>g.map aE)).length=pre.length+2:=by simp
    have l5:=qC.Of (-1) (by unfold aw;omega)
    have:=List.length_pos_iff.2 h0
    refine eJ.l10 _ _ pre.length (q.map aE) _ _ _ _ (by rw[bf];omega) (by rw[es,hlen];omega) (by rw[es,hlen];unfold aw;omega) (by rw[es,hlen];omega) (by rw[es,hlen];omega) (by rw[es];simp) c1 l5 c2 ?_
    rw[es]
    have e2:pre++[q]++chainF n d (aU (bn (-1) (a7 q d)))=pre++q::chainF n d (aU (bn (-1) (a7 q d))):=by simp
    rwa[e2] at next
 have:=loop (aM p).length 0 1 [] (aM p) (ar (aM p)) (jB f2) (by simp;omega) f.ni
 exact eJ.e0 _ _ _ (qG.ud f) hd this
theorem changes(G:List (List Rat))(x:Rat)(hG:∀g∈G,aJ g=false∧Fl 1073741824 g∧g.length≤10)(hl:G.length≤1000)(hx:ht x≤1073741824):Cp 238 [w9 G,(aE x).pv] (vI (fR G x)):=by
 have loop:∀(j t n:Nat) (l:Int),G.length-t=j→t≤G.length→n≤t → -1≤l→l≤1→cy.aj n l (G.map (fun g=>g.map aE)) t (aE x) (vI ((n:Int)+varS l ((G.drop t).map (fun g=>sg (evalL g x))))):=by
  intro j
  induction j with
  |zero =>
   intro t n l hj ht hn _ _
   rw[List.drop_of_length_le (by omega),List.map_nil,varS,Int.add_zero]
   exact cy.oK n l _ t _ (by rw[List.length_map];omega)
  |succ j ih =>
   intro t n l hj PY hn o9 FZ
   obtain⟨g,hg⟩:∃g,G[t]? = some g:=⟨_,List.getElem?_eq_getElem (by omega)⟩
   obtain⟨z,fl,ln⟩:=hG g (List.mem_of_getElem? hg)
   have hm:(G.map (fun g=>g.map aE))[t]? = some (g.map aE):=by rw[List.getElem?_map,hg];rfl
   have mD:=uh.Eval (g.map aE) (aE x) (cE z (by omega)) (db fl) (aW hx)
   rw[cO,bS] at mD
   have h3:=fN g x 1073741824 fl hx
   have h4:g.length*(2*1073741824+1)≤10*(2*1073741824+1):=Nat.mul_le_mul_right _ ln
   have hs:=QF.Sign (evalL g x) (by omega)
   have hv:=iy.e0 _ _ _ none _ mD hs
   have En:dz (evalL g x) 0=sg (evalL g x):=rfl
   have Nn:=hJ (evalL g x)
   rw[En] at hv
   have bH:t<(G.map (fun g=>g.map aE)).length:=by rw[List.length_map];omega
   rw[drop_cons hg,List.map_cons,varS]
   generalize sg (evalL g x)=s at hv Nn
   by_cases h0:s=0
   ·rw[if_pos h0]
    exact cy.ji n l _ t _ _ _ bH hm hv h0 (by omega) (ih (t+1) n l (by omega) (by omega) (by omega) o9 FZ)
   ·rw[if_neg h0]
    by_cases h1:s = -l
    ·rw[if_pos h1]
     have:=ih (t+1) (n+1) s (by omega) (by omega) (by omega) (by omega) (by omega)
     rw[show (((n+1:Nat):Int))+varS s ((G.drop (t+1)).map (fun g=>sg (evalL g x)))=(n:Int)+(1+varS s ((G.drop (t+1)).map (fun g=>sg (evalL g x)))) from by omega] at this
     exact cy.l10 n l _ t _ _ _ bH hm hv h0 (by unfold aw;omega) h1 (by omega) (by omega) this
    ·rw[if_neg h1,Int.zero_add]
     exact cy.dw n l _ t _ _ _ bH hm hv h0 (by unfold aw;omega) h1 (by omega) (ih (t+1) n s (by omega) (by omega) (by omega) (by omega) (by omega))
 have:=loop _ 0 0 0 rfl (by omega) (by omega) (by omega) (by omega)
 rw[List.drop_zero,show(((0:Nat):Int))=0 from rfl,Int.zero_add] at this
 exact cy.e0 _ _ this
theorem eN{h L:Nat}{p:List Rat}(f:cH h L p):∀g∈aG p,aJ g=false∧Fl 1073741824 g∧g.length≤10:=by
 intro g hg
 refine⟨?_,f.chain g hg⟩
 have key:∀(n:Nat) (p d:List Rat),aJ p=false→aJ d=false→∀g∈chainF n p d,aJ g=false:=by
  intro n
  induction n with
  |zero=>intro p d hp _ g hg;rw[chainF,List.mem_singleton] at hg;rw[hg];exact hp
  |succ n ih =>
   intro p d hp hd g hg
   by_cases h:d=[]
   ·rw[h,fc,List.mem_singleton] at hg;rw[hg];exact hp
   ·rw[eb h] at hg
    rcases List.mem_cons.1 hg with hg|hg
    ·rw[hg];exact hp
    ·exact ih d _ hd (bj _) g hg
 exact key _ _ _ (free_spec f.zp f.ne).1 (bc _) g hg
theorem Count{h L:Nat}{p:List Rat}(f:cH h L p)(lo hi:Rat)(RW:lo≤hi)(h1:ht lo≤1073741824)(h2:ht hi≤1073741824):Cp 246 [pq p,(aE lo).pv,(aE hi).pv] (.aB [vI (fR (aG p) lo-fR (aG p) hi),.aq]):=by
 have hc:=f.gB
 have kJ:=check (p.map aE) (mw (f.ch.fl f.h1) (by have:=f.fb;omega))
 have hp:=List.length_pos_iff.2 f.ne
 rw[f.kN,if_pos rfl,if_neg (by rw[bf];omega)] at kJ
 obtain⟨a1,a2⟩:=dU (aG p) lo
 obtain⟨b1,b2⟩:=dU (aG p) hi
 exact kF.e3 _ _ _ _ _ _ _ _ _ kJ (QF.Valid lo (by omega)) rfl (QF.Valid hi (by omega)) rfl (QF.jN lo hi (by omega) (by omega)) (lZ.2 RW) (chain f) (changes _ lo (eN f) (by omega) h1) (changes _ hi (eN f) (by omega) h2) (by unfold aw;omega)
end o7
namespace uN
theorem Error(p:List ah)(hp:iN 274877906944 p):Cp 83 [ae p] (vI (if kN p=0 then (if p.length=0 then 8 else 0) else kN p)):=by
 have hk:=zJ.Check p hp
 by_cases h:kN p=0
 ·rw[if_pos h]
  by_cases h0:p.length=0
  ·rw[if_pos h0];exact cF.e1 p _ hk h h0
  ·rw[if_neg h0];exact cF.e2 p _ hk h h0
 ·rw[if_neg h];exact cF.e0 p _ hk h
theorem chain{h L:Nat}{p:List Rat}(f:cH h L p):Cp 159 [pq p] (w9 (aG p)):=by
 have hL:=f.hL
 have DJ:=f.fb
 obtain⟨f1,f2,_⟩:=free_spec f.zp f.ne
 have FH:=f.jS
 have hl:=f.len
 have FG:=f.o0.fl DJ.2.2.1
 have hd:=zJ.iS ((aM p).map aE) (cE f1 (by omega)) (db (cL FG (by omega)))
 rw[cO] at hd
 have loop:∀(n i j:Nat) (pre:List (List Rat)) (q d:List Rat),d.length<n→pre.length+n≤20→su (fB h L) (fB h L+1) L i j q d→bX.aj (d.map aE) ((pre++[q]).map (fun g=>g.map aE)) (w9 (pre++chainF n q d)):=by
  intro n
  induction n with
  |zero=>intro i j pre q d hn;omega
  |succ n ih =>
   intro i j pre q d hn Gd e
   by_cases h0:d=[]
   ·subst h0
    rw[fc]
    exact bX.dw _ _ (by simp)
   ·rw[eb h0]
    obtain⟨c1,c2⟩:=ui.next DJ.2.2.1 (Nat.le_succ _) (by omega) f.xa e h0
    obtain⟨r1,r2⟩:=e.rest (Nat.le_succ _) h0
    have hc:Ch (xB (fB h L) (fB h L+1) (j+(q.length-d.length))) (aU (bn (-1) (a7 q d))):=by
     refine Ch.trim ?_
     obtain⟨D,d1,d2,d3⟩:=r1
     refine⟨D,d1,d2,fun i => ?_⟩
     obtain⟨m,m1,m2⟩:=d3 i
     refine⟨-m,?_,by rw[kC];exact m2⟩
     rw[ck,Rat.intCast_neg,←m1];grind
    have next:=ih _ _ (pre++[q]) d _ (by have:=eM (p:=q) e.zq h0;omega) (by rw[List.length_append,List.length_singleton];omega) (e.next (Nat.le_succ _) h0 hc (eM e.zq h0) (bj _))
    have es:(pre++[q]).map (fun g=>g.map aE)++[d.map aE]=(pre++[q]++[d]).map (fun g=>g.map aE):=by rw[List.map_append (l₁:=pre++[q])];rfl
    have hlen:((pre++[q]++[d]).map (fun g=>g.map aE)).length=pre.length+2:=by simp
    have l5:=tj.Of (-1) (by unfold aw;omega)
    have:=List.length_pos_iff.2 h0
    refine bX.l10 _ _ pre.length (q.map aE) _ _ _ _ _ _ (by rw[bf];omega) (by rw[es,hlen];omega) (by rw[es,hlen];unfold aw;omega) (by rw[es,hlen];omega) (by rw[es,hlen];omega) (by rw[es];simp) c1 l5 c2 ?_
    rw[es]
    have e2:pre++[q]++chainF n d (aU (bn (-1) (a7 q d)))=pre++q::chainF n d (aU (bn (-1) (a7 q d))):=by simp
    rwa[e2] at next
 have:=loop (aM p).length 0 1 [] (aM p) (ar (aM p)) (jB f2) (by simp;omega) f.ni
 exact bX.e0 _ _ _ _ _ (ui.ud f) hd this
theorem changes(G:List (List Rat))(x:Rat)(hG:∀g∈G,aJ g=false∧Fl 1073741824 g∧g.length≤10)(hl:G.length≤1000)(hx:ht x≤1073741824):Cp 241 [w9 G,(aE x).pv] (vI (fR G x)):=by
 have loop:∀(j t n:Nat) (l:Int),G.length-t=j→t≤G.length→n≤t → -1≤l→l≤1→a6.aj n l (G.map (fun g=>g.map aE)) t (aE x) (vI ((n:Int)+varS l ((G.drop t).map (fun g=>sg (evalL g x))))):=by
  intro j
  induction j with
  |zero =>
   intro t n l hj ht hn _ _
   rw[List.drop_of_length_le (by omega),List.map_nil,varS,Int.add_zero]
   exact a6.oK n l _ t _ (by rw[List.length_map];omega)
  |succ j ih =>
   intro t n l hj PY hn o9 FZ
   obtain⟨g,hg⟩:∃g,G[t]? = some g:=⟨_,List.getElem?_eq_getElem (by omega)⟩
   obtain⟨z,fl,ln⟩:=hG g (List.mem_of_getElem? hg)
   have hm:(G.map (fun g=>g.map aE))[t]? = some (g.map aE):=by rw[List.getElem?_map,hg];rfl
   have mD:=zJ.At (g.map aE) (aE x) (by rw[bf];omega) (db fl) (aW hx)
   rw[cO,bS] at mD
   have h3:=fN g x 1073741824 fl hx
   have h4:g.length*(2*1073741824+1)≤10*(2*1073741824+1):=Nat.mul_le_mul_right _ ln
   have hv:=QR.Sign (evalL g x) (by omega)
   have En:dz (evalL g x) 0=sg (evalL g x):=rfl
   have Nn:=hJ (evalL g x)
   rw[En] at hv
   have bH:t<(G.map (fun g=>g.map aE)).length:=by rw[List.length_map];omega
   rw[drop_cons hg,List.map_cons,varS]
   generalize sg (evalL g x)=s at hv Nn
   by_cases h0:s=0
   ·rw[if_pos h0]
    exact a6.l10 n l _ t _ _ _ _ bH hm mD hv h0 (by omega) (ih (t+1) n l (by omega) (by omega) (by omega) o9 FZ)
   ·rw[if_neg h0]
    by_cases h1:s = -l
    ·rw[if_pos h1]
     have:=ih (t+1) (n+1) s (by omega) (by omega) (by omega) (by omega) (by omega)
     rw[show (((n+1:Nat):Int))+varS s ((G.drop (t+1)).map (fun g=>sg (evalL g x)))=(n:Int)+(1+varS s ((G.drop (t+1)).map (fun g=>sg (evalL g x)))) from by omega] at this
     exact a6.dw n l _ t _ _ _ _ bH hm mD hv h0 (by unfold aw;omega) h1 (by omega) (by omega) this
    ·rw[if_neg h1,Int.zero_add]
     exact a6.ji n l _ t _ _ _ _ bH hm mD hv h0 (by unfold aw;omega) h1 (by omega) (ih (t+1) n s (by omega) (by omega) (by omega) (by omega) (by omega))
 have:=loop _ 0 0 0 rfl (by omega) (by omega) (by omega) (by omega)
 rw[List.drop_zero,show(((0:Nat):Int))=0 from rfl,Int.zero_add] at this
 exact a6.e0 _ _ this
theorem count{h L:Nat}{p:List Rat}(f:cH h L p)(lo hi:Rat)(h1:ht lo≤1073741824)(h2:ht hi≤1073741824):Cp 249 [pq p,(aE lo).pv,(aE hi).pv] (vI (fR (aG p) lo-fR (aG p) hi)):=by
 have hc:=f.gB
 obtain⟨a1,a2⟩:=dU (aG p) lo
 obtain⟨b1,b2⟩:=dU (aG p) hi
 exact eT.e0 _ _ _ _ _ _ (chain f) (changes _ lo (o7.eN f) (by omega) h1) (changes _ hi (o7.eN f) (by omega) h2) (by unfold aw;omega)
theorem Count{h L:Nat}{p:List Rat}(f:cH h L p)(lo hi:Rat)(RW:lo≤hi)(h1:ht lo≤1073741824)(h2:ht hi≤1073741824):Cp 207 [pq p,(aE lo).pv,(aE hi).pv] (.aB [vI (fR (aG p) lo-fR (aG p) hi),vI 0]):=by
 have kJ:=Error (p.map aE) (mw (f.ch.fl f.h1) (by have:=f.fb;omega))
 have hp:=List.length_pos_iff.2 f.ne
 rw[f.kN,if_pos rfl,if_neg (by rw[bf];omega)] at kJ
 exact lk.e4 _ _ _ _ _ _ _ _ kJ rfl (QR.Valid lo (by omega)) rfl (QR.Valid hi (by omega)) rfl (QR.jN lo hi (by omega) (by omega)) (lZ.2 RW) (count f lo hi h1 h2)
end uN
def cY(a b:Rat):af:=⟨aE a,aE b⟩
def af.ok(r:af):Bool:=r.lo.valid&&(r.hi.valid&&decide (r.lo.val≤r.hi.val))
def loG(r:af):Rat:=bif r.ok then r.lo.val else 0
def hiG(r:af):Rat:=bif r.ok then r.hi.val else 0
theorem jT{r:af}(h:r.ok=true):r.lo.valid=true∧r.hi.valid=true∧r.lo.val≤r.hi.val:=by
 unfold af.ok at h
 simp only[Bool.and_eq_true,decide_eq_true_eq] at h
 exact h
theorem pG(r:af):loG r≤hiG r:=by
 unfold loG hiG
 cases h:r.ok with
 |true=>exact(jT h).2.2
 |false=>exact Rat.le_refl
theorem mb{a b:Rat}(h:a≤b):(cY a b).ok=true:=by
 unfold af.ok cY
 simp only[rB,bS,decide_eq_true h,Bool.and_self]
theorem fe{a b:Rat}(h:a≤b):loG (cY a b)=a:=by unfold loG;rw[mb h,cond_true];exact bS a
theorem fg{a b:Rat}(h:a≤b):hiG (cY a b)=b:=by unfold hiG;rw[mb h,cond_true];exact bS b
theorem mH{r:af}(h:r.ok=true):cY (loG r) (hiG r)=r:=by
 obtain⟨h1,h2,h3⟩:=jT h
 unfold cY loG hiG
 rw[h,cond_true,cond_true,oM h1,oM h2]
theorem uO{r:af}(h:r.ok=false):cY (loG r) (hiG r)=⟨⟨false,[],[]⟩,⟨false,[],[]⟩⟩:=by
 unfold cY loG hiG
 rw[h];rfl
abbrev gx(k:Nat)(r:af):Prop:=(r.lo.num.length≤k∧r.lo.den.length≤k)∧(r.hi.num.length≤k∧r.hi.den.length≤k)
theorem fO{a b:Rat}{k:Nat}(ha:ht a≤k)(hb:ht b≤k):gx k (cY a b):=⟨aW ha,aW hb⟩
theorem iT{r:af}{k:Nat}(h:gx k r)(hk:1≤k):ht (loG r)≤k:=by
 unfold loG
 cases r.ok with
 |true=>exact eQ h.1.1 h.1.2 hk
 |false=>exact Nat.le_trans (Nat.le_of_eq jF) hk
theorem iV{r:af}{k:Nat}(h:gx k r)(hk:1≤k):ht (hiG r)≤k:=by
 unfold hiG
 cases r.ok with
 |true=>exact eQ h.2.1 h.2.2 hk
 |false=>exact Nat.le_trans (Nat.le_of_eq jF) hk
def fy(a b c d:Rat):Rat:=eZ (eZ (eZ (a*c) (a*d)) (b*c)) (b*d)
def fz(a b c d:Rat):Rat:=fD (fD (fD (a*c) (a*d)) (b*c)) (b*d)
theorem sG(a b c d:Rat):fy a b c d≤fz a b c d:=by
 unfold fy fz
 have h1:=jc (eZ (eZ (a*c) (a*d)) (b*c)) (b*d)
 have h2:=jA (fD (fD (a*c) (a*d)) (b*c)) (b*d)
 grind
theorem sH{a b c d:Rat}{k m:Nat}(ha:ht a≤k)(hb:ht b≤k)(hc:ht c≤m)(hd:ht d≤m):ht (fy a b c d)≤k+m:=by
 have h1:=dP a c
 have h2:=dP a d
 have h3:=dP b c
 have h4:=dP b d
 unfold fy
 exact qD _ _ (qD _ _ (qD _ _ (by omega) (by omega)) (by omega)) (by omega)
theorem sI{a b c d:Rat}{k m:Nat}(ha:ht a≤k)(hb:ht b≤k)(hc:ht c≤m)(hd:ht d≤m):ht (fz a b c d)≤k+m:=by
 have h1:=dP a c
 have h2:=dP a d
 have h3:=dP b c
 have h4:=dP b d
 unfold fz
 exact qE _ _ (qE _ _ (qE _ _ (by omega) (by omega)) (by omega)) (by omega)
namespace uA
theorem Valid(r:af)(h:gx 68719476736 r):Cp 213 [r.pv] (vB r.ok):=by
 have h1:=qC.Valid r.lo ⟨by omega,by omega⟩
 have h2:=qC.Valid r.hi ⟨by omega,by omega⟩
 have h3:=qC.jN r.lo r.hi ⟨by omega,by omega⟩ ⟨by omega,by omega⟩
 unfold af.ok
 cases hv:r.lo.valid with
 |false=>exact gr.e2 r _ h1 hv
 |true =>
  cases hw:r.hi.valid with
  |false=>exact gr.e1 r _ _ h1 hv h2 hw
  |true =>
   have:=gr.e0 r _ _ _ h1 hv h2 hw h3
   rwa[show decide (dz r.lo.val r.hi.val≤0)=decide (r.lo.val≤r.hi.val) from decide_eq_decide.2 lZ] at this
theorem clean(r:af)(h:gx 68719476736 r):Cp 128 [r.pv] (cY (loG r) (hiG r)).pv:=by
 have hv:=Valid r h
 cases hk:r.ok with
 |false=>rw[uO hk];exact jJ.e0 r _ hv hk
 |true =>
  obtain⟨h1,h2,h3⟩:=jT hk
  have:=jJ.e1 r _ _ _ hv hk (uh.mG r.lo ⟨by omega,by omega⟩) (uh.mG r.hi ⟨by omega,by omega⟩)
  rw[oM h1,oM h2] at this
  rw[mH hk];exact this
theorem pH(x:Rat)(hx:ht x≤68719476736):Cp 65 [(aE x).pv] (cY x x).pv:=mX.e0 _ _ _ (QF.mG x hx) (QF.mG x hx)
end uA
namespace Cb
theorem Valid(r:af)(h:gx 68719476736 r):Cp 247 [r.pv] (vB r.ok):=by
 have h1:=tj.Valid r.lo ⟨by omega,by omega⟩
 have h2:=tj.Valid r.hi ⟨by omega,by omega⟩
 have h3:=tj.jN r.lo r.hi ⟨by omega,by omega⟩ ⟨by omega,by omega⟩
 unfold af.ok
 cases hv:r.lo.valid with
 |false=>exact dX.e2 r _ h1 hv
 |true =>
  cases hw:r.hi.valid with
  |false=>exact dX.e1 r _ _ h1 hv h2 hw
  |true =>
   have:=dX.e0 r _ _ _ h1 hv h2 hw h3
   rwa[show decide (dz r.lo.val r.hi.val≤0)=decide (r.lo.val≤r.hi.val) from decide_eq_decide.2 lZ] at this
theorem given(r:af)(h:gx 68719476736 r):Cp 225 [r.pv] (cY (loG r) (hiG r)).pv:=by
 have hv:=Valid r h
 cases hk:r.ok with
 |false=>rw[uO hk];exact gX.e0 r _ hv hk
 |true=>rw[mH hk];exact gX.e1 r _ hv hk
theorem span(a:Rat)(q:List Rat)(hl:q.length<4611686018427387904)(ha:ht a≤68719476736)(hq:Fl 68719476736 q):Cp 258 [ae (aE a::q.map aE)] (cY (q.foldl eZ a) (q.foldl fD a)).pv:=by
 have loop:∀(j t:Nat) (u v:Rat),(a::q).length-t=j→t≤(a::q).length→ht u≤68719476736→ht v≤68719476736→gI.aj ((a::q).map aE) t (cY u v) (cY (((a::q).drop t).foldl eZ u) (((a::q).drop t).foldl fD v)).pv:=by
  intro j
  induction j with
  |zero =>
   intro t u v hj ht _ _
   rw[List.drop_of_length_le (by omega)]
   exact gI.dw _ t _ (by rw[List.length_map];omega)
  |succ j ih =>
   intro t u v hj ht hu hv
   obtain⟨y,hy⟩:∃y,(a::q)[t]? = some y:=⟨_,List.getElem?_eq_getElem (by omega)⟩
   have TG:Sym.ht y≤68719476736:=by
    rcases List.mem_cons.1 (List.mem_of_getElem? hy) with e|hm
    ·rw[e];exact ha
    ·exact hq y hm
   rw[drop_cons hy,List.foldl_cons,List.foldl_cons]
   refine gI.l10 _ t (cY u v) (aE y) _ _ (by rw[List.length_map];omega) (by rw[List.getElem?_map,hy];rfl) (QR.Min u y hu TG) (QR.Max v y hv TG) (by simp at ht;omega) ?_
   exact ih (t+1) _ _ (by omega) (by omega) (qD _ _ hu TG) (qE _ _ hv TG)
 have:=loop _ 0 a a rfl (by omega) ha ha
 rw[List.drop_zero,List.foldl_cons,List.foldl_cons,tn,tp] at this
 exact gI.e0 _ _ _ _ rfl (QR.mG a ha) (QR.mG a ha) this
theorem pH(x:Rat)(hx:ht x≤68719476736):Cp 261 [(aE x).pv] (cY x x).pv:=qz.e0 _ _ (span x [] (by simp) hx (fun y h=>by cases h))
theorem Add(r s:af)(h:gx 34359738367 r)(h':gx 34359738367 s):Cp 259 [r.pv,s.pv] (cY (loG r+loG s) (hiG r+hiG s)).pv:=by
 have a1:=iT h (by omega)
 have a2:=iV h (by omega)
 have a3:=iT h' (by omega)
 have a4:=iV h' (by omega)
 have b1:=jg (loG r) (loG s)
 have b2:=jg (hiG r) (hiG s)
 have l1:=pG r
 have l2:=pG s
 have:=span (loG r+loG s) [hiG r+hiG s] (by simp) (by omega) (fun y hy=>by rw[List.mem_singleton.1 hy];omega)
 simp only[List.foldl] at this
 rw[pA (by grind),vE (by grind)] at this
 exact sf.e0 r s _ _ _ _ _ (given r ⟨by omega,by omega⟩) (given s ⟨by omega,by omega⟩) (QR.Add _ _ (by omega) (by omega)) (QR.Add _ _ (by omega) (by omega)) this
theorem Mul(r s:af)(h:gx 34359738368 r)(h':gx 34359738368 s):Cp 260 [r.pv,s.pv] (cY (fy (loG r) (hiG r) (loG s) (hiG s)) (fz (loG r) (hiG r) (loG s) (hiG s))).pv:=by
 have a1:=iT h (by omega)
 have a2:=iV h (by omega)
 have a3:=iT h' (by omega)
 have a4:=iV h' (by omega)
 have b1:=dP (loG r) (loG s)
 have b2:=dP (loG r) (hiG s)
 have b3:=dP (hiG r) (loG s)
 have b4:=dP (hiG r) (hiG s)
 have:=span (loG r*loG s) [loG r*hiG s,hiG r*loG s,hiG r*hiG s] (by simp) (by omega) (fun y hy=>by simp at hy;rcases hy with e|e|e<;>rw[e]<;>omega)
 exact si.e0 r s _ _ _ _ _ _ _ (given r ⟨by omega,by omega⟩) (given s ⟨by omega,by omega⟩) (QR.Mul _ _ (by omega) (by omega)) (QR.Mul _ _ (by omega) (by omega)) (QR.Mul _ _ (by omega) (by omega)) (QR.Mul _ _ (by omega) (by omega)) this
end Cb
def oP(m:Rat):Nat→Nat→Nat
 |0,j=>j
 |n+1,j=>if twP j<m then oP m n (j+1) else j
def mK(t:Rat):List Rat→Nat→Nat
 |[],j=>j
 |c::r,j=>mK t r (oP (1+ab (c/t)) (66-j) j)
def bndP(p:List Rat):Rat:=twP (mK (cb p) p 0)
theorem nj{m:Rat}(hm:m≤twP 65):∀n j,n+j=66→j≤65→j≤oP m n j∧oP m n j≤65∧m≤twP (oP m n j)
 |0,j,h,hj=>by omega
 |n+1,j,h,hj=>by
  rw[oP]
  by_cases bH:twP j<m
  ·rw[if_pos bH]
   have:j<65:=by
    refine Nat.lt_of_not_le fun hh => ?_
    have:=aS hh
    grind
   obtain⟨a,b,c⟩:=nj hm n (j+1) (by omega) (by omega)
   exact⟨by omega,b,c⟩
  ·rw[if_neg bH]
   exact⟨Nat.le_refl _,hj,by grind⟩
theorem Cc{c t:Rat}(hc:ht c≤1)(PS:ht t≤1):1+ab (c/t)≤twP 65:=by
 have h1:=sv (c/t)
 have h2:=kS c t
 have h3:=aS (show 32*ht (c/t)≤64 by omega)
 have h4:=Eu 64
 have h5:twP 65=twP 64+twP 64:=bP 64
 grind
theorem iF{t:Rat} : ∀(p:List Rat) (j:Nat),(∀c∈p,1+ab (c/t)≤twP 65)→j≤65→j≤mK t p j∧mK t p j≤65∧∀c∈p,1+ab (c/t)≤twP (mK t p j)
 |[],j,_,hj=>⟨Nat.le_refl _,hj,fun c h=>by cases h⟩
 |c::r,j,h,hj=>by
  obtain⟨a1,a2,a3⟩:=nj (h c (List.mem_cons_self ..)) (66-j) j (by omega) hj
  obtain⟨b1,b2,b3⟩:=iF r _ (fun x hx=>h x (List.mem_cons_of_mem _ hx)) a2
  rw[mK]
  refine⟨by omega,b2,fun x hx => ?_⟩
  rcases List.mem_cons.1 hx with rfl|hx
  ·exact Rat.le_trans a3 (aS b1)
  ·exact b3 x hx
theorem jH{j:Nat}(h:j≤66):ht (twP j)≤3:=by
 unfold twP
 rw[pz]
 refine Nat.max_le.2 ⟨oZ ?_,by omega⟩
 have h1:2^j<2^96:=Nat.pow_lt_pow_right (by omega) (by omega)
 have h2:(2:Nat)^96=4294967296^3:=by decide
 rw[h2] at h1
 generalize 2^j=x at h1 ⊢
 generalize 4294967296^3=y at h1 ⊢
 omega
def Bd(p:List Rat):Prop:=Fl 4 p∧∀c∈p,1+ab (c/cb p)≤twP 65
theorem zd{p:List Rat}(hp:Fl 1 p):ht (cb p)≤1:=by
 unfold cb
 exact nT hp (by omega) _
theorem Fl.bd{p:List Rat}(hp:Fl 1 p):Bd p:=⟨cL hp (by omega),fun c hc=>Cc (hp c hc) (zd hp)⟩
theorem AA{p:List Rat}(hp:Bd p):ht (cb p)≤4:=by
 unfold cb
 exact nT hp.1 (by omega) _
theorem uB{p:List Rat}(hp:Bd p):ht (bndP p)≤3:=jH (by have:=(iF p 0 hp.2 (by omega)).2.1;omega)
theorem qV(p:List Rat):0<bndP p:=bw _
theorem Cd(p:List Rat)(hp:Bd p):bndP p≤twP 65:=aS (iF p 0 hp.2 (by omega)).2.1
theorem x7(q:Rat):(if q<0 then -q else q)=ab q:=by
 rcases cf q with ⟨h1,h2⟩|⟨h1,h2⟩
 ·rw[if_neg (by grind),h2]
 ·rw[if_pos h1,h2]
theorem xb{p:List Rat}(h0:p≠[]):(p.map aE)[p.length-1]? = some (aE (cb p)):=by
 have:=List.length_pos_iff.2 h0
 have e:p[p.length-1]? = some (cb p):=by
  unfold cb
  rw[qQ (show p.length-1<p.length by omega)]
 rw[List.getElem?_map,e];rfl
def iO(p:List ah):Int:=if kN p=0 then (if p.length=0 then 8 else 0) else kN p
theorem kp{p:List Rat}(hz:aJ p=false)(h0:p≠[])(x:Rat):evalL p x=0↔evalL (aM p) x=0:=by
 obtain⟨f1,f2,f3,⟨u,hu⟩,k,hk,v,hv⟩:=free_spec hz h0
 constructor
 ·intro h
  have h1:=hv x
  rw[h,Rat.mul_zero,vG] at h1
  refine Classical.byContradiction fun dk => ?_
  have:∀n:Nat,evalL (aM p) x^n≠0:=fun n=>by
   induction n with
   |zero=>rw[Rat.pow_zero];decide
   |succ n ih=>rw[Rat.pow_succ];intro e;rcases Rat.mul_eq_zero.1 e with e|e;exact ih e;exact dk e
  exact this k h1
 ·intro h;rw[hu,h,Rat.mul_zero]
def rm(p:List Rat)(lo hi:Rat):Bool:=bif decide (lo=hi) then decide (evalL (aM p) lo=0) else (decide (sg (evalL (aM p) lo)*sg (evalL (aM p) hi) = -1)&&decide (fR (aG p) lo-fR (aG p) hi=1))
def fX(p:List Rat)(r:af):Bool:=r.ok&&rm p (loG r) (hiG r)
theorem eO{x:Rat} : sg x=0↔x=0:=by rcases bk x with ⟨h1,h2⟩|⟨h1,h2⟩|⟨h1,h2⟩<;>constructor<;>intro h<;>first|exact h1|exact h2|(exfalso;rw[h2] at h;exact absurd h (by decide))|(exfalso;grind)
theorem jU{p q:Rat} : dz p q=0↔p=q:=by
 unfold dz
 by_cases h1:p<q
 ·rw[if_pos h1];constructor
  ·intro h;exact absurd h (by decide)
  ·intro h;subst h;exact absurd h1 Rat.lt_irrefl
 ·rw[if_neg h1]
  by_cases h2:p=q
  ·rw[if_pos h2];exact⟨fun _=>h2,fun _=>rfl⟩
  ·rw[if_neg h2];exact⟨fun h=>absurd h (by decide),fun h=>absurd h h2⟩
theorem iG{a b:Int}{q:Prop}[Decidable q](h:a=b↔q):(a==b)=decide q:=by
 by_cases hq:q
 ·rw[decide_eq_true hq,h.2 hq];simp
 ·rw[decide_eq_false hq]
  have:a≠b:=fun e=>hq (h.1 e)
  simpa using this
theorem fh(x y:Rat):aw (sg x*sg y):=by
 unfold aw
 rcases hJ x with h|h|h<;>rcases hJ y with k|k|k<;>rw[h,k]<;>decide
theorem cH.l0{h L:Nat}{p:List Rat}(f:cH h L p):Fl 1073741824 (aM p):=cL (f.o0.fl f.fb.2.2.1) f.fb.2.2.2.1
theorem cH.gZ{h L:Nat}{p:List Rat}(f:cH h L p):(aM p).length≤10:=by have:=f.jS;have:=f.len;have:=f.hL;omega
theorem cH.wk{h L:Nat}{p:List Rat}(f:cH h L p):Fl 1073741824 p:=cL (f.ch.fl f.h1) (by have:=f.fb;omega)
theorem cH.kz{h L:Nat}{p:List Rat}(f:cH h L p):p.length≤10:=by have:=f.len;have:=f.hL;omega
namespace o7
theorem x8{h L:Nat}{p:List Rat}(f:cH h L p):Cp 165 [pq p] .aq:=by
 have kJ:=check (p.map aE) (mw (f.ch.fl f.h1) (by have:=f.fb;omega))
 have hp:=List.length_pos_iff.2 f.ne
 rw[f.kN,if_pos rfl,if_neg (by rw[bf];omega)] at kJ
 exact kJ
theorem value(q:List Rat)(x:Rat)(z:aJ q=false)(fl:Fl 1073741824 q)(ln:q.length≤10)(hx:ht x≤1073741824):Cp 239 [pq q,(aE x).pv] (vI (sg (evalL q x))):=by
 have mD:=uh.Eval (q.map aE) (aE x) (cE z (by omega)) (db fl) (aW hx)
 rw[cO,bS] at mD
 have h3:=fN q x 1073741824 fl hx
 have h4:q.length*(2*1073741824+1)≤10*(2*1073741824+1):=Nat.mul_le_mul_right _ ln
 exact iy.e0 _ _ _ none _ mD (QF.Sign (evalL q x) (by omega))
theorem DB{h L:Nat}{p:List Rat}(f:cH h L p)(h1:Bd p):Cp 150 [pq p] (.aB [(aE (bndP p)).pv,.aq]):=by
 have l5:=qC.Of 1 (by unfold aw;omega)
 have e1:((1:Int):Rat)=1:=rfl
 rw[e1] at l5
 have hlen:=f.kz
 have Nf:=List.length_pos_iff.2 f.ne
 have Bj:=AA h1
 have Ty:=eH f.zp f.ne
 have loop:∀d t j:Nat,p.length-t=d→t≤p.length→j≤65→cI.aj (p.map aE) t (aE (twP j)) (.aB [(aE (twP (mK (cb p) (p.drop t) j))).pv,.aq]):=by
  intro d
  induction d with
  |zero =>
   intro t j hd ht hj
   rw[List.drop_of_length_le (by omega)]
   exact cI.ji _ t _ (by rw[bf];omega)
  |succ d ih =>
   intro t j hd PY hj
   obtain⟨c,hc⟩:∃c,p[t]? = some c:=⟨_,List.getElem?_eq_getElem (by omega)⟩
   have Tz:(p.map aE)[t]? = some (aE c):=by rw[List.getElem?_map,hc];rfl
   have CC:=h1.1 c (List.mem_of_getElem? hc)
   have FD:=QF.Div c (cb p) (by omega) (by omega) Ty
   have hq:=kS c (cb p)
   have dK:=QF.Ww (c/cb p) (by omega)
   rw[x7] at dK
   have Wz:=h1.2 c (List.mem_of_getElem? hc)
   have Yw:ht (ab (c/cb p))≤8:=by
    rw[←x7];split
    ·rw[qB];omega
    ·omega
   have zN:=QF.Add 1 (ab (c/cb p)) (by decide) (by omega)
   have XT:=jg 1 (ab (c/cb p))
   have gy:ht (1:Rat)=1:=by decide
   rw[drop_cons hc,mK]
   have inner:∀n j,n+j=66→j≤65→cI.cz (p.map aE) t (aE (twP j)) (aE (c/cb p)) (.aB [(aE (twP (mK (cb p) (p.drop (t+1)) (oP (1+ab (c/cb p)) n j)))).pv,.aq]):=by
    intro n
    induction n with
    |zero=>intro j h hj;omega
    |succ n ihn =>
     intro j hn hj
     have Wo:=jH (j:=j) (by omega)
     have vC:=QF.jN (twP j) (1+ab (c/cb p)) (by omega) (by omega)
     rw[oP]
     by_cases bH:twP j<1+ab (c/cb p)
     ·rw[if_pos bH]
      have TA:j<65:=by
       refine Nat.lt_of_not_le fun hh => ?_
       have:=aS hh
       grind
      have DL:=QF.Add (twP j) (twP j) (by omega) (by omega)
      rw[←bP] at DL
      refine cI.xl _ t _ _ _ _ _ _ _ l5 dK zN vC ?_ DL (ihn (j+1) (by omega) (by omega))
      refine Int.lt_of_not_ge fun hh => ?_
      have:=mr.1 hh
      grind
     ·rw[if_neg bH]
      exact cI.AR _ t _ _ _ _ _ _ l5 dK zN vC (mr.2 (by grind)) (by omega) (ih (t+1) j (by omega) (by omega) hj)
   refine cI.l10 _ t _ _ (p.length-1) _ _ (by rw[bf];omega) Tz (by rw[bf];unfold aw;omega) (by rw[bf];omega) (xb f.ne) FD (inner (66-j) j (by omega) hj)
 have:=loop _ 0 0 rfl (by omega) (by omega)
 rw[List.drop_zero,hO] at this
 exact cI.e0 _ _ (x8 f) l5 this
theorem kq{h L:Nat}{p:List Rat}(f:cH h L p)(r:af)(hr:gx 1073741824 r):Cp 166 [pq p,r.pv] (.aB [vB (fX p r),.aq]):=by
 have hv:=uA.Valid r ⟨⟨by omega,by omega⟩,⟨by omega,by omega⟩⟩
 obtain⟨f1,f2,_⟩:=free_spec f.zp f.ne
 cases ho:r.ok with
 |false =>
  rw[ho] at hv
  have:fX p r=false:=by unfold fX;rw[ho,Bool.false_and]
  rw[this]
  exact cQ.e0 _ r _ hv rfl
 |true =>
  rw[ho] at hv
  have hm:=mH ho
  have h1:=iT hr (by omega)
  have h2:=iV hr (by omega)
  have hle:=pG r
  have e0:fX p r=rm p (loG r) (hiG r):=by unfold fX;rw[ho,Bool.true_and]
  rw[e0]
  generalize loG r=lo at hm h1 hle ⊢
  generalize hiG r=hi at hm h2 hle ⊢
  subst hm
  have hc:=QF.jN lo hi (by omega) (by omega)
  unfold rm
  by_cases he:lo=hi
  ·rw[decide_eq_true he,cond_true]
   have mI:=value p lo f.zp f.wk f.kz h1
   have:=cQ.e1 _ (cY lo hi) _ _ _ hv rfl hc (by rw[he];exact jU.2 rfl) mI
   rw[iG (q:=evalL (aM p) lo=0) (by rw[eO];exact kp f.zp f.ne lo)] at this
   exact this
  ·rw[decide_eq_false he,cond_false]
   have dk:dz lo hi≠0:=fun e=>he (jU.1 e)
   have v1:=value (aM p) lo f1 f.l0 f.gZ h1
   have v2:=value (aM p) hi f1 f.l0 f.gZ h2
   by_cases hs:sg (evalL (aM p) lo)*sg (evalL (aM p) hi) = -1
   ·rw[decide_eq_true hs,Bool.true_and]
    have:=cQ.e3 _ (cY lo hi) _ _ _ _ _ _ none hv rfl hc dk (qG.ud f) v1 v2 (fh _ _) hs (Count f lo hi hle h1 h2)
    rw[iG (q:=fR (aG p) lo-fR (aG p) hi=1) Iff.rfl] at this
    exact this
   ·rw[decide_eq_false hs,Bool.false_and]
    exact cQ.e2 _ (cY lo hi) _ _ _ _ _ hv rfl hc dk (qG.ud f) v1 v2 (fh _ _) hs
theorem kr{h L:Nat}{p:List Rat}(f:cH h L p)(r:af)(hr:gx 1073741824 r):Cp 82 [pq p,r.pv] (.aB [vB (fX p r),.aq]):=gO.e0 _ r _ none (x8 f) (kq f r hr)
end o7
namespace uN
theorem x8{h L:Nat}{p:List Rat}(f:cH h L p):Cp 83 [pq p] (vI 0):=by
 have kJ:=Error (p.map aE) (mw (f.ch.fl f.h1) (by have:=f.fb;omega))
 have hp:=List.length_pos_iff.2 f.ne
 rw[f.kN,if_pos rfl,if_neg (by rw[bf];omega)] at kJ
 exact kJ
theorem bad{p:List ah}(hp:iN 274877906944 p):Cp 83 [ae p] (vI (iO p)):=Error p hp
theorem Mf(q:List Rat)(x:Rat)(fl:Fl 1073741824 q)(ln:q.length≤10)(hx:ht x≤1073741824):Cp 208 [pq q,(aE x).pv] (aE (evalL q x)).pv∧Cp 124 [(aE (evalL q x)).pv] (vI (sg (evalL q x))):=by
 have mD:=zJ.At (q.map aE) (aE x) (by rw[bf];omega) (db fl) (aW hx)
 rw[cO,bS] at mD
 have h3:=fN q x 1073741824 fl hx
 have h4:q.length*(2*1073741824+1)≤10*(2*1073741824+1):=Nat.mul_le_mul_right _ ln
 exact⟨mD,QR.Sign (evalL q x) (by omega)⟩
theorem sign{h L:Nat}{p:List Rat}(f:cH h L p)(x:Rat)(hx:ht x≤1073741824):Cp 248 [pq p,(aE x).pv] (vI (sg (evalL (aM p) x))):=by
 obtain⟨a,b⟩:=Mf (aM p) x f.l0 f.gZ hx
 exact fH.e0 _ _ _ _ _ _ (ui.ud f) a b
theorem kq{h L:Nat}{p:List Rat}(f:cH h L p)(r:af)(hr:gx 1073741824 r):Cp 168 [pq p,r.pv] (vB (fX p r)):=by
 have hv:=Cb.Valid r ⟨⟨by omega,by omega⟩,⟨by omega,by omega⟩⟩
 cases ho:r.ok with
 |false =>
  rw[ho] at hv
  have:fX p r=false:=by unfold fX;rw[ho,Bool.false_and]
  rw[this]
  exact bD.e0 _ r _ hv rfl
 |true =>
  rw[ho] at hv
  have hm:=mH ho
  have h1:=iT hr (by omega)
  have h2:=iV hr (by omega)
  have hle:=pG r
  have e0:fX p r=rm p (loG r) (hiG r):=by unfold fX;rw[ho,Bool.true_and]
  rw[e0]
  generalize loG r=lo at hm h1 hle ⊢
  generalize hiG r=hi at hm h2 hle ⊢
  subst hm
  have hc:=QR.jN lo hi (by omega) (by omega)
  unfold rm
  have v1:=sign f lo h1
  have v2:=sign f hi h2
  by_cases he:lo=hi
  ·rw[decide_eq_true he,cond_true]
   have:=bD.e1 _ (cY lo hi) _ _ _ hv rfl hc (by rw[he];exact jU.2 rfl) v1
   rw[iG (q:=evalL (aM p) lo=0) eO] at this
   exact this
  ·rw[decide_eq_false he,cond_false]
   have dk:dz lo hi≠0:=fun e=>he (jU.1 e)
   by_cases hs:sg (evalL (aM p) lo)*sg (evalL (aM p) hi) = -1
   ·rw[decide_eq_true hs,Bool.true_and]
    have:=bD.e2 _ (cY lo hi) _ _ _ _ _ hv rfl hc dk v1 v2 (fh _ _) hs (count f lo hi h1 h2)
    rw[iG (q:=fR (aG p) lo-fR (aG p) hi=1) Iff.rfl] at this
    exact this
   ·rw[decide_eq_false hs,Bool.false_and]
    exact bD.e3 _ (cY lo hi) _ _ _ _ hv rfl hc dk v1 v2 (fh _ _) hs
theorem kr{h L:Nat}{p:List Rat}(f:cH h L p)(r:af)(hr:gx 1073741824 r):Cp 86 [pq p,r.pv] (.aB [vB (fX p r),vI 0]):=dQ.e1 _ r _ _ (x8 f) rfl (kq f r hr)
end uN
def mkGs(l:List (Rat×Rat)):List af:=l.map (fun r=>cY r.1 r.2)
theorem jV(l:List (Rat×Rat)):(mkGs l).length=l.length:=List.length_map ..
theorem nk(l m:List (Rat×Rat)):mkGs (l++m)=mkGs l++mkGs m:=List.map_append ..
def isoK(h L:Nat):Nat:=32*(4*xB (fB h L) (fB h L+1) (L-1))+32*(fB h L+1)+67*L+3+67
def jl(h L:Nat):Prop:=66*(L+2)+1≤64*fB h L∧isoK h L/32+20≤1073741824
instance (h L:Nat):Decidable (jl h L):=by unfold jl;infer_instance
def fM(h L:Nat)(p:List Rat):List (Rat×Rat):=(ei (aG p) (aM p) (-bndP p) (bndP p+bndP p) (isoK h L+1) 0 0).getD []
theorem sx{p:List Rat}(hp:Bd p):bndP p+bndP p≤twP 66∧ht (bndP p+bndP p)≤3:=by
 have h:=(iF p 0 hp.2 (by omega)).2.1
 unfold bndP
 rw[←bP]
 exact⟨aS (by omega),jH (by omega)⟩
theorem Ce(k:Nat):Rat.divInt 1 ((2^k:Nat):Int)*twP k=1:=by
 rw[Rat.divInt_eq_div]
 exact Rat.div_mul_cancel (vK k)
theorem nm{h L:Nat}{p:List Rat}(f:cH h L p)(h1:Bd p)(ok:jl h L):ei (aG p) (aM p) (-bndP p) (bndP p+bndP p) (isoK h L+1) 0 0=some (fM h L p):=by
 obtain⟨f1,f2,f3,_⟩:=free_spec f.zp f.ne
 have hb:=qV p
 have hw:0≤bndP p+bndP p:=by grind
 obtain⟨l,hl⟩:=uX (K:=isoK h L) (a := -bndP p) hw f1 f2 f3 (by
  intro j hj
  have w:=DA (-bndP p) (bndP p+bndP p) (isoK h L) j
  have k1:=OQ (a := -bndP p) hw (k:=isoK h L) (j:=j)
  have k2:=F7 (a := -bndP p) hw (k:=isoK h L) (show j+1≤2^isoK h L by omega)
  rw[Kl] at k2
  have k3:=Az (-bndP p) hw (isoK h L) j
  have u1:ab (ptQ (-bndP p) (bndP p+bndP p) (isoK h L) j)≤bndP p:=Ar (by grind) (by grind)
  have u2:ab (ptQ (-bndP p) (bndP p+bndP p) (isoK h L) (j+1))≤bndP p:=Ar (by grind) (by grind)
  refine oF (r:=65) (m:=isoK h L-67) f.fb.2.2.1 f.ni f2 f3 (Rat.le_of_lt hb) (Cd p h1) ok.1 u1 u2 k3 ?_ ?_
  ·have hl:=f.jS
   have FZ:=f.len
   have:(65+2)*(aM p).length≤67*L:=Nat.mul_le_mul_left _ (by omega)
   unfold isoK
   omega
  ·rw[w]
   have e1:isoK h L=(isoK h L-67)+67:=by unfold isoK;omega
   have e2:=Ce (isoK h L)
   have e3:twP (isoK h L)=twP (isoK h L-67)*twP 67:=by rw[←dS,←e1]
   have b2:=(sx h1).1
   have e4:=aS (show 66≤67 by omega)
   generalize Rat.divInt 1 ((2^isoK h L:Nat):Int)=δ at e2 ⊢
   rw[e3] at e2
   have hp:=bw (isoK h L-67)
   generalize twP (isoK h L-67)=T at e2 hp ⊢
   have hδ:0≤δ:=by
    refine Rat.not_lt.1 fun bH => ?_
    have:=Rat.mul_pos hp (bw 67)
    have:=Rat.mul_pos (show 0 < -δ by grind) this
    grind
   have:=Rat.mul_le_mul_of_nonneg_right (Rat.le_trans b2 e4) (Rat.mul_nonneg hδ (Rat.le_of_lt hp))
   grind) (isoK h L+1) 0 0 (by omega) (by omega) (by omega)
 have hl:ei (aG p) (aM p) (-bndP p) (bndP p+bndP p) (isoK h L+1) 0 0=some l:=hl
 unfold fM
 rw[hl];rfl
namespace o7
theorem FE(lo hi:Rat)(h1:ht lo≤1073741824)(h2:ht hi≤1073741824)(hle:lo≤hi):Cp 176 [(cY lo hi).pv] (aE (Rat.divInt 1 2*(lo+hi))).pv:=by
 have hc:=uA.clean (cY lo hi) (fO (Nat.le_trans h1 (by omega)) (Nat.le_trans h2 (by omega)))
 rw[fe hle,fg hle] at hc
 have hh:=qO.e0 _ none (QF.Make 1 2 (by unfold aw;omega) (by unfold aw;omega) (by omega))
 have h3:=jg lo hi
 have h4:ht (Rat.divInt 1 2)≤1:=by decide
 exact se.e0 _ (cY lo hi) _ _ _ hc hh (QF.Add lo hi (by omega) (by omega)) (QF.Mul _ _ (by omega) (by omega))
theorem qA{p:List Rat}{x:Rat} : sg (evalL p x)≠0↔evalL p x≠0:=not_congr eO
theorem nX{h L:Nat}{p:List Rat}(f:cH h L p){a w:Rat}{K:Nat}(hw:0≤w)(hh:ht a+ht w+K/32+4≤1073741824):∀(n k j:Nat) (l:List (Rat×Rat)) (out z:List af),n+k=K+1→j<2^k→ei (aG p) (aM p) a w n k j=some l→z=out++mkGs l→z.length≤1000000 →
  av bT 152 [(.row 200000 0 out.length 6),(.pv (pq p)),(.pv (w9 (aG p))),(.pv (aE (ptQ a w k j)).pv),(.pv (aE (ptQ a w k (j+1))).pv)] [(200000,(.pure ((out:List af).map af.cells).flatten))] (.row 0 0 z.length 6) [(0,(.pure ((z:List af).map af.cells).flatten))] ∧
  (out=[]→av bT 152 [(.pv .gb),(.pv (pq p)),(.pv (w9 (aG p))),(.pv (aE (ptQ a w k j)).pv),(.pv (aE (ptQ a w k (j+1))).pv)] [] (.row 0 0 z.length 6) [(0,(.pure ((z:List af).map af.cells).flatten))])
 |0,k,j,l,out,z,hn,hj,hl,hz,hlen=>by cases hl
 |n+1,k,j,l,out,z,hn,hj,hl,hz,hlen=>by
  have p1:=jh a w (k:=k) (j:=j) (by omega)
  have p2:=jh a w (k:=k) (j:=j+1) (by omega)
  have VR:k/32≤K/32:=Nat.div_le_div_right (by omega)
  have ON:=f.gB
  have c1:=changes (aG p) (ptQ a w k j) (eN f) (by omega) (by omega)
  have c2:=changes (aG p) (ptQ a w k (j+1)) (eN f) (by omega) (by omega)
  obtain⟨a1,a2⟩:=dU (aG p) (ptQ a w k j)
  obtain⟨b1,b2⟩:=dU (aG p) (ptQ a w k (j+1))
  have hI:aw (fR (aG p) (ptQ a w k j)-fR (aG p) (ptQ a w k (j+1))):=by unfold aw;omega
  have v1:=value p (ptQ a w k j) f.zp f.wk f.kz (by omega)
  have v2:=value p (ptQ a w k (j+1)) f.zp f.wk f.kz (by omega)
  have r1:=kp f.zp f.ne (ptQ a w k j)
  have r2:=kp f.zp f.ne (ptQ a w k (j+1))
  have hle:=Az a hw k j
  have rH:=FE (ptQ a w k j) (ptQ a w k (j+1)) (by omega) (by omega) hle
  rw[tu] at rH
  have EF:=uA.pH (ptQ a w k (j+1)) (by omega)
  have z1:=QF.mG (ptQ a w k j) (by omega)
  have z2:=QF.mG (ptQ a w k (j+1)) (by omega)
  have TB:2*j<2^(k+1):=by rw[Nat.pow_succ];omega
  have Fs:2*j+1<2^(k+1):=by rw[Nat.pow_succ];omega
  rw[ei] at hl
  by_cases h0:fR (aG p) (ptQ a w k j)-fR (aG p) (ptQ a w k (j+1))=0
  ·rw[if_pos h0] at hl
   injection hl with hl;subst hl
   have:z=out:=by rw[hz];exact List.append_nil _
   subst this
   refine⟨cV.e0 z _ _ _ _ _ _ c1 c2 hI h0,fun e => ?_⟩
   subst e
   exact cU.e0 _ _ _ _ _ _ c1 c2 hI h0
  ·rw[if_neg h0] at hl
   have DC:∀l1 l2:List (Rat×Rat),ei (aG p) (aM p) a w n (k+1) (2*j)=some l1→ei (aG p) (aM p) a w n (k+1) (2*j+1)=some l2→z=(out++mkGs l1)++mkGs l2 →
     av bT 152 [(.row 200000 0 out.length 6),(.pv (pq p)),(.pv (w9 (aG p))),(.pv (aE (ptQ a w k j)).pv),(.pv (aE (ptQ a w (k+1) (2*j+1))).pv)] [(200000,(.pure ((out:List af).map af.cells).flatten))] (.row 0 0 (out++mkGs l1).length 6) [(0,(.pure (((out++mkGs l1):List af).map af.cells).flatten))] ∧
     av bT 152 [(.row 200000 0 (out++mkGs l1).length 6),(.pv (pq p)),(.pv (w9 (aG p))),(.pv (aE (ptQ a w (k+1) (2*j+1))).pv),(.pv (aE (ptQ a w k (j+1))).pv)] [(200000,(.pure (((out++mkGs l1):List af).map af.cells).flatten))] (.row 0 0 z.length 6) [(0,(.pure ((z:List af).map af.cells).flatten))]:=by
    intro l1 l2 e1 e2 ez
    have Hj:(out++mkGs l1).length≤1000000:=by
     rw[ez,List.length_append] at hlen;omega
    have i1:=(nX f hw hh n (k+1) (2*j) l1 out (out++mkGs l1) (by omega) TB e1 rfl Hj).1
    have i2:=(nX f hw hh n (k+1) (2*j+1) l2 (out++mkGs l1) z (by omega) Fs e2 ez hlen).1
    rw[gS] at i1
    rw[show 2*j+1+1=2*(j+1) from by omega,gS] at i2
    exact⟨i1,i2⟩
   have split:∀l',(match ei (aG p) (aM p) a w n (k+1) (2*j),ei (aG p) (aM p) a w n (k+1) (2*j+1) with
     |some x,some y=>some (x++y)
     |_,_=>none)=some l'→∃l1 l2,ei (aG p) (aM p) a w n (k+1) (2*j)=some l1∧ei (aG p) (aM p) a w n (k+1) (2*j+1)=some l2∧l'=l1++l2:=by
    intro l' h
    cases hx:ei (aG p) (aM p) a w n (k+1) (2*j) with
    |none=>rw[hx] at h;cases h
    |some x =>
     cases hy:ei (aG p) (aM p) a w n (k+1) (2*j+1) with
     |none=>rw[hx,hy] at h;cases h
     |some y=>rw[hx,hy] at h;injection h with h;exact⟨x,y,rfl,rfl,h.symm⟩
   by_cases h1:fR (aG p) (ptQ a w k j)-fR (aG p) (ptQ a w k (j+1))=1
   ·by_cases h2:evalL (aM p) (ptQ a w k j)=0
    ·rw[if_neg (fun e=>e.2 h2)] at hl
     obtain⟨l1,l2,e1,e2,e3⟩:=split _ hl
     have ez:z=(out++mkGs l1)++mkGs l2:=by rw[hz,e3,nk,List.append_assoc]
     obtain⟨i1,i2⟩:=DC l1 l2 e1 e2 ez
     refine⟨cV.e3 out _ _ _ _ _ _ _ _ (out++mkGs l1) z c1 c2 hI h0 h1 v1 (eO.2 (r1.2 h2)) rH i1 i2,fun e => ?_⟩
     subst e
     exact cU.e3 _ _ _ _ _ _ _ _ ([]++mkGs l1) z c1 c2 hI h0 h1 v1 (eO.2 (r1.2 h2)) rH i1 i2
    ·rw[if_pos ⟨h1,h2⟩] at hl
     have n1:sg (evalL p (ptQ a w k j))≠0:=qA.2 (fun e=>h2 (r1.1 e))
     by_cases h3:evalL (aM p) (ptQ a w k (j+1))=0
     ·rw[if_pos h3] at hl
      injection hl with hl;subst hl
      have ez:z=out++[cY (ptQ a w k (j+1)) (ptQ a w k (j+1))]:=hz
      subst ez
      refine⟨cV.e1 out _ _ _ _ _ _ _ _ _ c1 c2 hI h0 h1 v1 n1 v2 (eO.2 (r2.2 h3)) EF (by omega),fun e => ?_⟩
      subst e
      exact cU.e1 _ _ _ _ _ _ _ _ _ c1 c2 hI h0 h1 v1 n1 v2 (eO.2 (r2.2 h3)) EF (by omega)
     ·rw[if_neg h3] at hl
      injection hl with hl;subst hl
      have n2:sg (evalL p (ptQ a w k (j+1)))≠0:=qA.2 (fun e=>h3 (r2.1 e))
      have ez:z=out++[cY (ptQ a w k j) (ptQ a w k (j+1))]:=hz
      subst ez
      refine⟨cV.e2 out _ _ _ _ _ _ _ _ _ _ c1 c2 hI h0 h1 v1 n1 v2 n2 z1 z2 (by rw[show (⟨aE (ptQ a w k j),aE (ptQ a w k (j+1))⟩:af)=cY (ptQ a w k j) (ptQ a w k (j+1)) from rfl];omega),fun e => ?_⟩
      subst e
      exact cU.e2 _ _ _ _ _ _ _ _ _ _ c1 c2 hI h0 h1 v1 n1 v2 n2 z1 z2 (by rw[show (⟨aE (ptQ a w k j),aE (ptQ a w k (j+1))⟩:af)=cY (ptQ a w k j) (ptQ a w k (j+1)) from rfl];omega)
   ·rw[if_neg (fun e=>h1 e.1)] at hl
    obtain⟨l1,l2,e1,e2,e3⟩:=split _ hl
    have ez:z=(out++mkGs l1)++mkGs l2:=by rw[hz,e3,nk,List.append_assoc]
    obtain⟨i1,i2⟩:=DC l1 l2 e1 e2 ez
    refine⟨cV.e4 out _ _ _ _ _ _ _ (out++mkGs l1) z c1 c2 hI h0 h1 rH i1 i2,fun e => ?_⟩
    subst e
    exact cU.e4 _ _ _ _ _ _ _ ([]++mkGs l1) z c1 c2 hI h0 h1 rH i1 i2
theorem ze{h L:Nat}{p:List Rat}(h1:Bd p)(ok:jl h L):ht (-bndP p)+ht (bndP p+bndP p)+isoK h L/32+4≤1073741824:=by
 have a:=uB h1
 have b:=(sx h1).2
 have c:=ok.2
 rw[qB]
 omega
theorem zh{h L:Nat}{p:List Rat}(f:cH h L p)(h1:Bd p)(ok:jl h L):((fM h L p).length:Int)=fR (aG p) (-bndP p)-fR (aG p) (bndP p):=by
 have:=x6 _ _ _ _ (nm f h1 ok)
 rwa[(iY _ _).1,(iY _ _).2,show -bndP p+(bndP p+bndP p)=bndP p from by grind] at this
theorem my{h L:Nat}{p:List Rat}(f:cH h L p)(h1:Bd p)(ok:jl h L):(fM h L p).length≤1000:=by
 have e:=zh f h1 ok
 have ON:=f.gB
 obtain⟨a1,a2⟩:=dU (aG p) (-bndP p)
 obtain⟨b1,b2⟩:=dU (aG p) (bndP p)
 omega
theorem uP{h L:Nat}{p:List Rat}(f:cH h L p)(h1:Bd p)(ok:jl h L):Cp 75 [pq p] (.aB [bq af.cells (mkGs (fM h L p)),.aq]):=by
 have hb:=qV p
 have hn:=uB h1
 have hs:=(nX f (show 0≤bndP p+bndP p by grind) (ze h1 ok) (isoK h L+1) 0 0 (fM h L p) [] (mkGs (fM h L p)) (by omega) (by omega) (nm f h1 ok) rfl (by rw[jV];have:=my f h1 ok;omega)).2 rfl
 rw[(iY _ _).1,(iY _ _).2,show -bndP p+(bndP p+bndP p)=bndP p from by grind] at hs
 exact iz.e0 _ _ _ _ _ (DB f h1) (chain f) (QF.Neg _ (by omega)) hs
end o7
namespace uN
theorem given(lo hi:Rat)(h1:ht lo≤68719476736)(h2:ht hi≤68719476736)(hle:lo≤hi):Cp 225 [(cY lo hi).pv] (cY lo hi).pv:=by
 have hv:=Cb.Valid (cY lo hi) (fO h1 h2)
 rw[mb hle] at hv
 exact gX.e1 _ _ hv rfl
theorem FE(lo hi:Rat)(h1:ht lo≤1073741824)(h2:ht hi≤1073741824)(hle:lo≤hi):Cp 226 [(cY lo hi).pv] (aE (Rat.divInt 1 2*(lo+hi))).pv:=by
 have h3:=jg lo hi
 have h4:ht (Rat.divInt 1 2)≤1:=by decide
 exact oW.e0 _ (cY lo hi) _ _ _ _ (given lo hi (by omega) (by omega) hle) (QR.Make 1 2 (by unfold aw;omega) (by unfold aw;omega) (by omega)) (QR.Add lo hi (by omega) (by omega)) (QR.Mul _ _ (by omega) (by omega))
theorem Um(lo hi:Rat)(h1:ht lo≤1073741824)(h2:ht hi≤1073741824)(hle:lo≤hi):Cp 141 [(cY lo hi).pv] (aE (hi-lo)).pv :=
 uG.e0 _ (cY lo hi) _ (given lo hi (by omega) (by omega) hle) (QR.Sub hi lo (by omega) (by omega))
end uN
def aQ:List Rat→Rat→Rat→Rat×Rat
 |[],_,_=>(0,0)
 |a::r,c,d=>(fy (aQ r c d).1 (aQ r c d).2 c d+a,fz (aQ r c d).1 (aQ r c d).2 c d+a)
theorem ow(q:List Rat)(c d:Rat):(aQ q c d).1≤(aQ q c d).2:=by
 cases q with
 |nil=>exact Rat.le_refl
 |cons a r =>
  have:=sG (aQ r c d).1 (aQ r c d).2 c d
  show fy _ _ _ _+a≤fz _ _ _ _+a
  grind
theorem nu{k m:Nat} : ∀(q:List Rat) (c d:Rat),Fl k q→ht c≤m→ht d≤m→ht (aQ q c d).1≤q.length*(k+m+1)+1∧ht (aQ q c d).2≤q.length*(k+m+1)+1
 |[],c,d,_,_,_=>by
  have:=jF
  exact⟨Nat.le_trans (Nat.le_of_eq this) (by omega),Nat.le_trans (Nat.le_of_eq this) (by omega)⟩
 |a::r,c,d,h,hc,hd=>by
  obtain⟨g1,g2⟩:=nu r c d (fun x hx=>h x (List.mem_cons_of_mem _ hx)) hc hd
  have ha:=h a (List.mem_cons_self ..)
  have m1:=sH g1 g2 hc hd
  have m2:=sI g1 g2 hc hd
  have s1:=jg (fy (aQ r c d).1 (aQ r c d).2 c d) a
  have s2:=jg (fz (aQ r c d).1 (aQ r c d).2 c d) a
  rw[List.length_cons,Nat.add_mul]
  constructor
  ·show ht (fy _ _ _ _+a)≤_
   omega
  ·show ht (fz _ _ _ _+a)≤_
   omega
theorem ya(c:Rat):(0:Rat)*c=0:=by grind
theorem uY(a c d:Rat):aQ [a] c d=(a,a):=by
 show(fy 0 0 c d+a,fz 0 0 c d+a)=(a,a)
 unfold fy fz
 simp only[ya,tn,tp]
 rw[Rat.zero_add]
theorem HU{k:Nat}{q:List Rat}{c d:Rat}(hl:q.length≤65)(hq:Fl k q)(hc:ht c≤k)(hd:ht d≤k)(hk:k≤67108864)(t:Nat):ht (aQ (q.drop t) c d).1≤17179869184∧ht (aQ (q.drop t) c d).2≤17179869184:=by
 obtain⟨g1,g2⟩:=nu (k:=k) (m:=k) (q.drop t) c d (fun x hx=>hq x (List.mem_of_mem_drop hx)) hc hd
 have e:(q.drop t).length*(k+k+1)≤65*(k+k+1):=Nat.mul_le_mul_right _ (by rw[List.length_drop];omega)
 omega
theorem LW{q:List Rat}{n:Nat}{v:Rat}(h:q[n]? = some v):(q.map aE)[n]? = some (aE v):=by rw[List.getElem?_map,h];rfl
theorem zJ.VY(q:List Rat)(r:af)(hc:kN (q.map aE)=0)(hq:Fl 67108864 q)(hr:gx 67108864 r):Cp 209 [ae (q.map aE),r.pv] (.aB [(cY (aQ q (loG r) (hiG r)).1 (aQ q (loG r) (hiG r)).2).pv,vI 0]):=by
 have T4:(q.map aE).length=q.length:=List.length_map ..
 have hl:q.length≤65:=by have:=Dr hc;omega
 have kJ:=zJ.Check (q.map aE) (wX (fun x hx=>Nat.le_trans (hq x hx) (by omega)))
 rw[hc] at kJ
 have r1:=iT hr (by omega)
 have r2:=iV hr (by omega)
 have fr:gx 34359738368 r:=⟨by omega,by omega⟩
 have loop:∀(n:Nat) (s:af),n≤q.length→s=cY (aQ (q.drop n) (loG r) (hiG r)).1 (aQ (q.drop n) (loG r) (hiG r)).2→gH.aj (q.map aE) ((n:Int)-1) r s (.aB [(cY (aQ q (loG r) (hiG r)).1 (aQ q (loG r) (hiG r)).2).pv,vI 0]):=by
  intro n
  induction n with
  |zero =>
   intro s _ h1
   rw[List.drop_zero] at h1
   rw[←h1]
   exact gH.dw _ _ r s (by omega)
  |succ n ih =>
   intro s hn es
   obtain⟨v,hv⟩:∃v,q[n]? = some v:=⟨_,List.getElem?_eq_getElem (by omega)⟩
   have hvk:=hq v (List.mem_of_getElem? hv)
   have hd:=drop_cons hv
   obtain⟨o1,o2⟩:=HU hl hq r1 r2 (by omega) (n+1)
   have ho:=ow (q.drop (n+1)) (loG r) (hiG r)
   have m:=Cb.Mul s r (by rw[es];exact fO (by omega) (by omega)) fr
   have Nu:=sH o1 o2 r1 r2
   have OV:=sI o1 o2 r1 r2
   rw[es,fe ho,fg ho] at m
   have hm:=sG (aQ (q.drop (n+1)) (loG r) (hiG r)).1 (aQ (q.drop (n+1)) (loG r) (hiG r)).2 (loG r) (hiG r)
   have a:=Cb.Add (cY (fy (aQ (q.drop (n+1)) (loG r) (hiG r)).1 (aQ (q.drop (n+1)) (loG r) (hiG r)).2 (loG r) (hiG r)) (fz (aQ (q.drop (n+1)) (loG r) (hiG r)).1 (aQ (q.drop (n+1)) (loG r) (hiG r)).2 (loG r) (hiG r))) (cY v v) (fO (by omega) (by omega)) (fO (by omega) (by omega))
   rw[fe hm,fg hm,fe Rat.le_refl,fg Rat.le_refl] at a
   rw[←es] at m
   refine gH.l10 _ _ r s _ n (aE v) _ _ (by omega) m (by omega) (LW hv) (Cb.pH v (by omega)) a (by unfold aw;omega) ?_
   have:=ih _ (by omega) (by rw[hd])
   rwa[show ((n+1:Nat):Int)-1-1=(n:Int)-1 from by omega]
 have:=loop q.length (cY 0 0) (Nat.le_refl _) (by rw[List.drop_of_length_le (Nat.le_refl _)];rfl)
 refine gH.e1 _ r 0 kJ rfl (by unfold aw;omega) ?_
 rw[T4];exact this
namespace PQ
theorem iS{k:Nat}(p:List Rat)(zp:aJ p=false)(lp:p.length≤65)(hp:Fl k p)(hk:k≤68719476736):Cp 80 [pq p] (.aB [pq (ar p),.aq]):=by
 have:=uh.iS (p.map aE) (cE zp lp) (db (cL hp (by omega)))
 rwa[cO] at this
theorem Eval{k:Nat}(p:List Rat)(x:Rat)(zp:aJ p=false)(lp:p.length≤65)(hp:Fl k p)(hx:ht x≤k)(hk:k≤1073741824):Cp 133 [pq p,(aE x).pv] (.aB [(aE (evalL p x)).pv,.aq]):=by
 have:=uh.Eval (p.map aE) (aE x) (cE zp lp) (db (cL hp (by omega))) (aW (Nat.le_trans hx hk))
 rwa[cO,bS] at this
theorem lS{a b N:Nat}(ha:1≤a)(dK:a≤b)(hN:N≤1000)(hk:4*xB a b (N+2)+10≤68719476736):∀(n i j:Nat) (p q:List Rat),q.length<n→su a b N i j p q→p.length≤10000→eS.aj (p.map aE) (q.map aE) (pq (cr (fa n p q))):=by
 have hx:xB a b (N+2)=xB a b N+2*(xB a b (N+1)+1):=rfl
 have x1:∀j,1≤xB a b j:=fun j=>Nat.le_trans ha (cv a b dK (i:=0) (Nat.zero_le _))
 intro n
 induction n with
 |zero=>intro i j p q hn;omega
 |succ n ih =>
  intro i j p q hn e hl
  have hi:=e.idx
  have Bh:=e.lt
  rw[fa]
  by_cases h:q.length=0
  ·rw[beq_iff.2 h,cond_true]
   have:=cv a b dK (i:=i) (j:=N+1) (by omega)
   exact eS.dw _ _ _ (by rw[bf];omega) (qG.dx p e.zp e.hp (x1 i) hl (by omega))
  ·have dk:q≠[]:=fun e=>h (by rw[e];rfl)
   rw[eL.2 h,cond_false]
   obtain⟨r1,r2⟩:=e.rest dK dk
   have hz:=b8 p q
   have hlen:=e.len
   have PX:=e.bound
   have b1:=cv a b dK (i:=j+(p.length-q.length)) (j:=N+1) (by omega)
   have hd:=qG.j9 p q e.zq dk e.hp e.hq (x1 i) (x1 j) hl (by omega) (by
    obtain⟨j',rfl⟩:∃j',j=j'+1:=⟨j-1,by omega⟩
    obtain⟨d,hd⟩:∃d,p.length-q.length=d+1:=⟨p.length-q.length-1,by omega⟩
    have h2:=cv a b dK (i:=i) (j:=j') (by omega)
    have h3:=rl a b dK j' d
    have h4:=cv a b dK (i:=j'+1+(d+1)) (j:=N+1) (by omega)
    have h5:=cv a b dK (i:=j'+1) (j:=N) (by omega)
    rw[show p.length+1-q.length=d+2 from by omega]
    omega)
   have hm:=qG.dx (a7 p q) hz r1 (x1 _) (by omega) (by omega)
   exact eS.l10 _ _ _ _ _ (by rw[bf];omega) hd hm (ih _ _ q _ (by rw[aY hz];omega) (e.next dK dk (r1.dx (x1 _) hz) (by rw[aY hz];exact r2) (bO _)) (by omega))
theorem nY{h b c L:Nat}(h1:1≤h)(mO:1≤b)(vL:b≤c)(hL:L≤65)(hc:h+(L+1)*(b+1)≤c)(hk:4*xB b c (L+2)+10≤68719476736)(p q:List Rat)(zp:aJ p=false)(zq:aJ q=false)(lp:p.length≤L)(lq:q.length≤L)(hp:Ch h p)(hq:Ch b q) :
  eS.aj (p.map aE) (q.map aE) (pq (cr (fa (q.length+1) p q))):=by
 have e2:xB b c (L+2)=xB b c L+2*(xB b c (L+1)+1):=rfl
 have e1:=cv b c vL (i:=1) (j:=L+1) (by omega)
 have e0:xB b c 1=c:=rfl
 have hm:(p.length+1-q.length)*(b+1)≤(L+1)*(b+1):=Nat.mul_le_mul_right _ (by omega)
 rw[fa]
 by_cases h0:q.length=0
 ·rw[beq_iff.2 h0,cond_true]
  exact eS.dw _ _ _ (by rw[bf];omega) (qG.dx p zp hp h1 (by omega) (by omega))
 ·have dk:q≠[]:=fun e=>h0 (by rw[e];rfl)
  rw[eL.2 h0,cond_false]
  have hr:=hp.rest hq zq dk
  have uW:(a7 p q).length<q.length:=(eE p zq dk).1
  have hz:=b8 p q
  have wg:Ch c (a7 p q):=hr.mono (by omega)
  have hd:=qG.j9 p q zq dk hp hq h1 mO (by omega) (by omega) (by omega)
  have hm:=qG.dx (a7 p q) hz wg (by omega) (by omega) (by omega)
  have hE:su b c L 0 1 q (cr (a7 p q)):=⟨hq,wg.dx (by omega) hz,by omega,by rw[aY hz];exact uW,by omega,zq,bO _⟩
  exact eS.l10 _ _ _ _ _ (by rw[bf];omega) hd hm (lS mO vL (by omega) hk q.length 0 1 q _ (by rw[aY hz];exact uW) hE (by omega))
theorem Gcd{h b c L:Nat}(h1:1≤h)(mO:1≤b)(vL:b≤c)(hL:L≤65)(hc:h+(L+1)*(b+1)≤c)(hk:4*xB b c (L+2)+10≤68719476736)(p q:List Rat)(zp:aJ p=false)(zq:aJ q=false)(lp:p.length≤L)(lq:q.length≤L)(hp:Ch h p)(hq:Ch b q):Cp 81 [pq p,pq q] (.aB [pq (bF p q),.aq]):=by
 have e2:xB b c (L+2)=xB b c L+2*(xB b c (L+1)+1):=rfl
 have e1:=cv b c vL (i:=1) (j:=L+1) (by omega)
 have e0:xB b c 1=c:=rfl
 have kJ:=qG.jR (p.map aE) (q.map aE) (mw (hp.fl h1) (by omega)) (mw (hq.fl mO) (by omega))
 rw[mf (cE zp (by omega)) (cE zq (by omega))] at kJ
 exact Ag.e0 _ _ _ kJ (eS.e0 _ _ (nY h1 mO vL hL hc hk p q zp zq lp lq hp hq))
end PQ
namespace RQ
theorem iS{k:Nat}(p:List Rat)(zp:aJ p=false)(lp:p.length≤65)(hp:Fl k p)(hk:k≤68719476736):Cp 84 [pq p] (.aB [pq (ar p),vI 0]):=by
 have:=zJ.iS (p.map aE) (cE zp lp) (db (cL hp (by omega)))
 rwa[cO] at this
theorem lS{a b N:Nat}(ha:1≤a)(dK:a≤b)(hN:N≤1000)(hk:4*xB a b (N+2)+10≤68719476736):∀(n i j:Nat) (p q:List Rat),q.length<n→su a b N i j p q→p.length≤10000→bA.aj (p.map aE) (q.map aE) (pq (fa n p q)):=by
 have hx:xB a b (N+2)=xB a b N+2*(xB a b (N+1)+1):=rfl
 have x1:∀j,1≤xB a b j:=fun j=>Nat.le_trans ha (cv a b dK (i:=0) (Nat.zero_le _))
 intro n
 induction n with
 |zero=>intro i j p q hn;omega
 |succ n ih =>
  intro i j p q hn e hl
  have hi:=e.idx
  have Bh:=e.lt
  rw[fa]
  by_cases h:q.length=0
  ·rw[beq_iff.2 h,cond_true]
   have:=cv a b dK (i:=i) (j:=N+1) (by omega)
   exact bA.dw _ _ (by rw[bf];omega)
  ·have dk:q≠[]:=fun e=>h (by rw[e];rfl)
   rw[eL.2 h,cond_false]
   obtain⟨r1,r2⟩:=e.rest dK dk
   have hz:=b8 p q
   have hlen:=e.len
   have PX:=e.bound
   have b1:=cv a b dK (i:=j+(p.length-q.length)) (j:=N+1) (by omega)
   have hd:=ui.j9 p q e.zq dk e.hp e.hq (x1 i) (x1 j) hl (by omega) (by
    obtain⟨j',rfl⟩:∃j',j=j'+1:=⟨j-1,by omega⟩
    obtain⟨d,hd⟩:∃d,p.length-q.length=d+1:=⟨p.length-q.length-1,by omega⟩
    have h2:=cv a b dK (i:=i) (j:=j') (by omega)
    have h3:=rl a b dK j' d
    have h4:=cv a b dK (i:=j'+1+(d+1)) (j:=N+1) (by omega)
    have h5:=cv a b dK (i:=j'+1) (j:=N) (by omega)
    rw[show p.length+1-q.length=d+2 from by omega]
    omega)
   have hm:=ui.dx (a7 p q) hz r1 (x1 _) (by omega) (by omega)
   exact bA.l10 _ _ _ _ _ (by rw[bf];omega) hd hm (ih _ _ q _ (by rw[aY hz];omega) (e.next dK dk (r1.dx (x1 _) hz) (by rw[aY hz];exact r2) (bO _)) (by omega))
theorem nY{h b c L:Nat}(h1:1≤h)(mO:1≤b)(vL:b≤c)(hL:L≤65)(hc:h+(L+1)*(b+1)≤c)(hk:4*xB b c (L+2)+10≤68719476736)(p q:List Rat)(zp:aJ p=false)(zq:aJ q=false)(lp:p.length≤L)(lq:q.length≤L)(hp:Ch h p)(hq:Ch b q) :
  bA.aj (p.map aE) (q.map aE) (pq (fa (q.length+1) p q)):=by
 have e2:xB b c (L+2)=xB b c L+2*(xB b c (L+1)+1):=rfl
 have e1:=cv b c vL (i:=1) (j:=L+1) (by omega)
 have e0:xB b c 1=c:=rfl
 have hm:(p.length+1-q.length)*(b+1)≤(L+1)*(b+1):=Nat.mul_le_mul_right _ (by omega)
 rw[fa]
 by_cases h0:q.length=0
 ·rw[beq_iff.2 h0,cond_true]
  exact bA.dw _ _ (by rw[bf];omega)
 ·have dk:q≠[]:=fun e=>h0 (by rw[e];rfl)
  rw[eL.2 h0,cond_false]
  have hr:=hp.rest hq zq dk
  have uW:(a7 p q).length<q.length:=(eE p zq dk).1
  have hz:=b8 p q
  have wg:Ch c (a7 p q):=hr.mono (by omega)
  have hd:=ui.j9 p q zq dk hp hq h1 mO (by omega) (by omega) (by omega)
  have hm:=ui.dx (a7 p q) hz wg (by omega) (by omega) (by omega)
  have hE:su b c L 0 1 q (cr (a7 p q)):=⟨hq,wg.dx (by omega) hz,by omega,by rw[aY hz];exact uW,by omega,zq,bO _⟩
  exact bA.l10 _ _ _ _ _ (by rw[bf];omega) hd hm (lS mO vL (by omega) hk q.length 0 1 q _ (by rw[aY hz];exact uW) hE (by omega))
theorem Gcd{h b c L:Nat}(h1:1≤h)(mO:1≤b)(vL:b≤c)(hL:L≤65)(hc:h+(L+1)*(b+1)≤c)(hk:4*xB b c (L+2)+10≤68719476736)(p q:List Rat)(zp:aJ p=false)(zq:aJ q=false)(lp:p.length≤L)(lq:q.length≤L)(hp:Ch h p)(hq:Ch b q):Cp 85 [pq p,pq q] (.aB [pq (bF p q),vI 0]):=by
 have e2:xB b c (L+2)=xB b c L+2*(xB b c (L+1)+1):=rfl
 have e1:=cv b c vL (i:=1) (j:=L+1) (by omega)
 have e0:xB b c 1=c:=rfl
 have kJ:=ui.both (p.map aE) (q.map aE) (mw (hp.fl h1) (by omega)) (mw (hq.fl mO) (by omega))
 rw[mf (cE zp (by omega)) (cE zq (by omega))] at kJ
 have m1:=ui.dx p zp hp h1 (by omega) (by omega)
 have m2:=ui.dx q zq hq mO (by omega) (by omega)
 have:=nY h1 mO vL hL hc hk (cr p) (cr q) (bO _) (bO _) (by rw[aY zp];exact lp) (by rw[aY zq];exact lq) (hp.dx h1 zp) (hq.dx mO zq)
 rw[aY zq,Du p q zp zq] at this
 exact mn.e1 _ _ _ _ kJ rfl (bA.e0 _ _ _ _ m1 m2 this)
end RQ
def bW(f:List Rat)(lo hi:Rat):az:=⟨f.map aE,cY lo hi⟩
structure Mg (f:List Rat) (lo hi:Rat):Prop where
 zf:aJ f=false
 fl:Fl 1073741824 f
 ln:f.length≤10
 h1:ht lo≤1073741824
 h2:ht hi≤1073741824
theorem cR{p q:Rat}(h:p≠q):dz p q≠0:=fun e=>h (dm.1 e)
theorem mz{a b N:Nat}(ha:1≤a)(dK:a≤b):∀(n i j:Nat) (p q:List Rat),su a b N i j p q→Ch (xB a b (N-(fa n p q).length)) (fa n p q)
 |0,i,j,p,q,e=>e.hp.mono (cv a b dK (by show i≤N-p.length;have:=e.bound;have:=e.lt;omega))
 |n+1,i,j,p,q,e=>by
  rw[fa]
  by_cases h:q.length=0
  ·rw[beq_iff.2 h,cond_true];exact e.hp.mono (cv a b dK (by have:=e.bound;have:=e.lt;omega))
  ·have dk:q≠[]:=fun e=>h (by rw[e];rfl)
   rw[eL.2 h,cond_false]
   obtain⟨h1,h2⟩:=e.rest dK dk
   have hz:=b8 p q
   exact mz ha dK n _ _ q _ (e.next dK dk (h1.dx (Nat.le_trans ha (cv a b dK (i:=0) (Nat.zero_le _))) hz) (by rw[aY hz];exact h2) (bO _))
theorem vM:∀l,l<7→sB (xB 7 63 (6-l)) l≤1073741824:=by decide +kernel
theorem mA{p q:List Rat}(zp:aJ p=false)(zq:aJ q=false)(lp:p.length≤6)(lq:q.length≤6)(hp:Ch 7 p)(hq:Ch 7 q)(q0:q≠[]):cH (xB 7 63 (6-(bF p q).length)) (bF p q).length (bF p q):=by
 have D2:=List.length_pos_iff.2 q0
 have zg:=gD p q
 have zF:=kO (q.length+1) p q zp zq
 have g0:bF p q≠[]:=nh zF (tI _ _ _ (Or.inr ⟨q0,by omega⟩))
 have hl:(bF p q).length≤6:=by have:=((gR p q zp zq).2.len zg zq q0).2;omega
 have EA:(bF p q).length=(fa (q.length+1) p q).length:=aY zF
 have hr:Ch 63 (a7 p q):=(hp.rest hq zq q0).mono (by
  have:(p.length+1-q.length)*(7+1)≤6*(7+1):=Nat.mul_le_mul_right _ (by omega)
  omega)
 have uW:(a7 p q).length<q.length:=(eE p zq q0).1
 have hE:su 7 63 6 0 1 q (cr (a7 p q)):=⟨hq,hr.dx (by omega) (b8 p q),by omega,by rw[aY (b8 p q)];exact uW,by omega,zq,bO _⟩
 have e1:fa (q.length+1) p q=fa q.length q (cr (a7 p q)):=by
  rw[fa,eL.2 (by omega),cond_false]
 have hc:=mz (a:=7) (b:=63) (N:=6) (by omega) (by omega) q.length 0 1 q (cr (a7 p q)) hE
 rw[←e1,←EA] at hc
 have h1:1≤xB 7 63 (6-(bF p q).length):=sw (by omega) (by omega) _
 exact⟨zg,g0,Nat.le_refl _,hc.dx h1 zF,h1,by omega,vM _ (by omega)⟩
structure Sm (p:List Rat):Prop where
 z:aJ p=false
 l:p.length≤6
 f:Fl 1 p
theorem Sm.ch{p:List Rat}(h:Sm p):Ch 7 p:=(Ch.uH h.f).mono (by have:=h.l;omega)
theorem Sm.ok{f:List Rat}(h:Sm f){lo hi:Rat}(h1:ht lo≤1073741824)(h2:ht hi≤1073741824):Mg f lo hi:=⟨h.z,cL h.f (by omega),by have:=h.l;omega,h1,h2⟩
namespace hX
theorem compare{f:List Rat}{lo hi:Rat}(O:Mg f lo hi)(hle:lo≤hi){x:Rat}(hx:ht x≤1073741824):Cp 64 [(bW f lo hi).pv,(aE x).pv] (.aB [vI (aK f lo hi x),.aq]):=by
 have h1:=O.h1
 have h2:=O.h2
 have c1:=QF.jN lo hi (by omega) (by omega)
 have c2:=QF.jN lo x (by omega) (by omega)
 have c3:=QF.jN x lo (by omega) (by omega)
 have c4:=QF.jN x hi (by omega) (by omega)
 unfold aK
 by_cases he:lo=hi
 ·rw[if_pos he]
  exact cK.e0 (bW f lo hi) (aE x) _ _ c1 (dm.2 he) c2
 ·rw[if_neg he]
  by_cases k1:x≤lo
  ·rw[if_pos k1]
   exact cK.e1 (bW f lo hi) (aE x) _ _ c1 (cR he) c3 (by rcases cX x lo with k|k|k<;>first|omega|(exfalso;grind))
  ·rw[if_neg k1]
   have OU:0<dz x lo:=by rw[fG (by grind)];omega
   by_cases k2:hi≤x
   ·rw[if_pos k2]
    exact cK.e2 (bW f lo hi) (aE x) _ _ _ c1 (cR he) c3 OU c4 (by rcases cX x hi with k|k|k<;>first|omega|(exfalso;grind))
   ·rw[if_neg k2]
    have hl:=O.ln
    have e1:=PQ.Eval f x O.zf (by omega) O.fl hx (by omega)
    have e2:=PQ.Eval f lo O.zf (by omega) O.fl O.h1 (by omega)
    have w1:=fN f x _ O.fl hx
    have w2:=fN f lo _ O.fl O.h1
    have hm:f.length*(2*1073741824+1)≤10*(2*1073741824+1):=Nat.mul_le_mul_right _ hl
    exact cK.e3 (bW f lo hi) (aE x) _ _ _ _ _ _ _ c1 (cR he) c3 OU c4 (by rw[gN (by grind)];omega) e1 e2 (QF.Sign _ (by omega)) (QF.Sign _ (by omega)) (fh _ _)
theorem Dh{f:List Rat}{lo hi:Rat}(O:Mg f lo hi)(hle:lo≤hi)(h3:ht (midQ lo hi)≤1073741824):Cp 204 [(bW f lo hi).pv] (.aB [(bW f (c9 f lo hi).1 (c9 f lo hi).2).pv,.aq]):=by
 have h1:=O.h1
 have h2:=O.h2
 have c1:=QF.jN lo hi (by omega) (by omega)
 unfold c9
 by_cases he:lo=hi
 ·rw[if_pos he]
  exact dh.e0 (bW f lo hi) _ c1 (dm.2 he)
 ·rw[if_neg he]
  have cm:=o7.FE lo hi h1 h2 hle
  have cc:=compare O hle h3
  change Cp 176 [(cY lo hi).pv] (aE (midQ lo hi)).pv at cm
  by_cases k0:aK f lo hi (midQ lo hi)=0
  ·rw[if_pos k0]
   exact dh.e1 (bW f lo hi) _ _ _ (cY (midQ lo hi) (midQ lo hi)) c1 (cR he) cm cc k0 (uA.pH _ (by omega))
  ·rw[if_neg k0]
   by_cases k1:aK f lo hi (midQ lo hi)=1
   ·rw[if_pos k1]
    exact dh.e2 (bW f lo hi) _ _ _ c1 (cR he) cm cc k0 k1
   ·rw[if_neg k1]
    exact dh.e3 (bW f lo hi) _ _ _ c1 (cR he) cm cc k0 k1
theorem vN{p f:List Rat}{lo hi:Rat}(P:Sm p)(F:Sm f)(f0:f≠[])(hle:lo≤hi)(h1:ht lo≤1073741824)(h2:ht hi≤1073741824):Cp 201 [pq p,(bW f lo hi).pv] (.aB [vB (ua p f lo hi),.aq]):=by
 unfold ua
 by_cases h0:p.length=0
 ·rw[if_pos h0]
  exact bV.e0 _ (bW f lo hi) (by rw[bf];exact h0)
 ·rw[if_neg h0]
  have fi:=mA P.z F.z P.l F.l P.ch F.ch f0
  have lg:(bF p f).length≤6:=by have:=((gR p f P.z F.z).2.len fi.zp F.z f0).2;have:=F.l;omega
  have hg:=PQ.Gcd (h:=7) (b:=7) (c:=63) (L:=6) (by omega) (by omega) (by omega) (by omega) (by omega) (by decide) p f P.z F.z P.l F.l P.ch F.ch
  have c1:=QF.jN lo hi (by omega) (by omega)
  by_cases hl:(bF p f).length<2
  ·rw[if_pos hl]
   exact bV.e1 _ (bW f lo hi) _ (by rw[bf];exact h0) hg (by rw[bf];exact hl)
  ·rw[if_neg hl]
   by_cases he:lo=hi
   ·rw[if_pos he]
    have fl:=fi.wk
    have e1:=PQ.Eval (bF p f) lo fi.zp (by omega) fl h1 (by omega)
    have w1:=fN (bF p f) lo _ fl h1
    have hm:(bF p f).length*(2*1073741824+1)≤6*(2*1073741824+1):=Nat.mul_le_mul_right _ lg
    have:=bV.e2 _ (bW f lo hi) _ _ _ none _ (by rw[bf];exact h0) hg (by rw[bf];omega) c1 (dm.2 he) e1 (QF.Sign _ (by omega))
    rw[iG (q:=evalL (bF p f) lo=0) dm] at this
    exact this
   ·rw[if_neg he]
    have cn:=o7.Count fi lo hi hle h1 h2
    exact bV.e3 _ (bW f lo hi) _ _ _ none (by rw[bf];exact h0) hg (by rw[bf];omega) c1 (cR he) cn
def AB(f:List Rat)(lo hi:Rat)(g:List Rat)(lo' hi':Rat):Bool:=ua g f lo hi&&(decide (0≤aK f lo hi lo')&&decide (aK f lo hi hi'≤0))
theorem equal{f g:List Rat}{lo hi lo' hi':Rat}(F:Sm f)(G:Sm g)(f0:f≠[])(hle:lo≤hi)(h1:ht lo≤1073741824)(h2:ht hi≤1073741824)(h3:ht lo'≤1073741824)(h4:ht hi'≤1073741824):Cp 174 [(bW f lo hi).pv,(bW g lo' hi').pv] (.aB [vB (AB f lo hi g lo' hi'),.aq]):=by
 have hv:=vN G F f0 hle h1 h2
 have k1:=compare (F.ok h1 h2) hle h3
 have k2:=compare (F.ok h1 h2) hle h4
 unfold AB
 cases hb:ua g f lo hi with
 |false =>
  rw[hb] at hv
  exact fT.e0 (bW f lo hi) (bW g lo' hi') _ hv rfl
 |true =>
  rw[hb] at hv
  rw[Bool.true_and]
  by_cases h0:0≤aK f lo hi lo'
  ·rw[decide_eq_true h0,Bool.true_and]
   exact fT.e1 (bW f lo hi) (bW g lo' hi') _ _ _ none hv rfl k1 k2 h0
  ·rw[decide_eq_false h0,Bool.false_and]
   exact fT.e2 (bW f lo hi) (bW g lo' hi') _ _ _ none hv rfl k1 k2 (by omega)
theorem nZ{f g:List Rat}{lo hi lo' hi':Rat}(A:dH f lo hi)(B:dH g lo' hi'):AB f lo hi g lo' hi'=true↔xw f lo hi g lo' hi':=by
 rw[A7 A B]
 unfold AB
 rw[Bool.and_eq_true,Bool.and_eq_true,ub A B.zf,decide_eq_true_iff,decide_eq_true_iff]
end hX
def Dy(a w:Rat)(k:Nat)(lo hi:Rat):Prop:=(∃j,j<2^k∧lo=ptQ a w k j∧hi=ptQ a w k (j+1))∨(lo=hi∧∃j,j≤2^k∧lo=ptQ a w k j)
theorem Dy.start(lo hi:Rat):Dy lo (hi-lo) 0 lo hi:=Or.inl ⟨0,by decide,(iY _ _).1.symm,by have:=(iY lo (hi-lo)).2;rw[this];grind⟩
theorem Dy.ht{a w lo hi:Rat}{k:Nat}(h:Dy a w k lo hi):Sym.ht lo≤Sym.ht a+Sym.ht w+k/32+4∧Sym.ht hi≤Sym.ht a+Sym.ht w+k/32+4:=by
 rcases h with ⟨j,h1,rfl,rfl⟩|⟨rfl,j,h1,rfl⟩
 ·exact⟨jh a w (by omega),jh a w (by omega)⟩
 ·exact⟨jh a w h1,jh a w h1⟩
theorem Dy.gJ{a w lo hi:Rat}{k:Nat}(h:Dy a w k lo hi)(dk:lo≠hi):Sym.ht (midQ lo hi)≤Sym.ht a+Sym.ht w+(k+1)/32+4:=by
 rcases h with ⟨j,h1,rfl,rfl⟩|⟨e,_⟩
 ·unfold midQ
  rw[tu]
  exact jh a w (by rw[Nat.pow_succ];omega)
 ·exact absurd e dk
theorem Dy.half{a w lo hi:Rat}{k:Nat}(f:List Rat)(h:Dy a w k lo hi):Dy a w (k+1) (c9 f lo hi).1 (c9 f lo hi).2:=by
 unfold c9
 by_cases he:lo=hi
 ·rw[if_pos he]
  right
  refine⟨he,?_⟩
  rcases h with ⟨j,h1,h2,h3⟩|⟨_,j,h1,h2⟩
  ·exact⟨2*j,by rw[Nat.pow_succ];omega,by rw[gS];exact h2⟩
  ·exact⟨2*j,by rw[Nat.pow_succ];omega,by rw[gS];exact h2⟩
 ·rw[if_neg he]
  rcases h with ⟨j,h1,rfl,rfl⟩|⟨e,_⟩
  ·have hm:midQ (ptQ a w k j) (ptQ a w k (j+1))=ptQ a w (k+1) (2*j+1):=by unfold midQ;rw[tu]
   have hp:2^(k+1)=2^k*2:=Nat.pow_succ ..
   rw[hm]
   split
   ·exact Or.inr ⟨rfl,2*j+1,by omega,rfl⟩
   ·split
    ·exact Or.inl ⟨2*j+1,by omega,rfl,by rw[show 2*j+1+1=2*(j+1) by omega,gS]⟩
    ·exact Or.inl ⟨2*j,by omega,by rw[gS],rfl⟩
  ·exact absurd e he
def eu(f g:List Rat):Nat→Rat→Rat→Rat→Rat→Option ((Rat×Rat)×(Rat×Rat))
 |0,_,_,_,_=>none
 |n+1,lo,hi,lo',hi'=>if lo'<hi∧lo<hi' then eu f g n (c9 f lo hi).1 (c9 f lo hi).2 (c9 g lo' hi').1 (c9 g lo' hi').2 else some ((lo,hi),(lo',hi'))
theorem apart_spec{f g:List Rat} : ∀(n:Nat) (lo hi lo' hi':Rat) (r:(Rat×Rat)×(Rat×Rat)),dH f lo hi→dH g lo' hi'→eu f g n lo hi lo' hi'=some r →
  dH f r.1.1 r.1.2∧dH g r.2.1 r.2.2∧(∀x,aK f r.1.1 r.1.2 x=aK f lo hi x)∧(∀x,aK g r.2.1 r.2.2 x=aK g lo' hi' x)∧(r.1.2≤r.2.1∨r.2.2≤r.1.1)
 |0,_,_,_,_,_,_,_,h=>by cases h
 |n+1,lo,hi,lo',hi',r,A,B,h=>by
  rw[eu] at h
  split at h
  ·obtain⟨a1,a2, -⟩:=dD A
   obtain⟨b1,b2, -⟩:=dD B
   obtain⟨k1,k2,k3,k4,k5⟩:=apart_spec n _ _ _ _ r a1 b1 h
   exact⟨k1,k2,fun x=>by rw[k3,a2],fun x=>by rw[k4,b2],k5⟩
  ·rename_i hn
   injection h with h
   subst h
   refine⟨A,B,fun _=>rfl,fun _=>rfl,?_⟩
   by_cases h1:lo'<hi
   ·right
    show hi'≤lo
    grind
   ·left
    show hi≤lo'
    grind
def tv(f g:List Rat)(n:Nat)(lo hi lo' hi':Rat):Option Int :=
 bif hX.AB f lo hi g lo' hi' then some 0 else match eu f g n lo hi lo' hi' with
  |some r=>some (if midQ r.1.1 r.1.2<midQ r.2.1 r.2.2 then -1 else 1)
  |none=>none
theorem tx{f g:List Rat}{n:Nat}{lo hi lo' hi':Rat}{s:Int}(A:dH f lo hi)(B:dH g lo' hi')(h:tv f g n lo hi lo' hi'=some s) :
  (s=0∧xw f lo hi g lo' hi')∨(s = -1∧xZ f lo hi g lo' hi')∨(s=1∧xZ g lo' hi' f lo hi):=by
 unfold tv at h
 cases he:hX.AB f lo hi g lo' hi' with
 |true =>
  rw[he,cond_true] at h
  injection h with h
  exact Or.inl ⟨h.symm,(hX.nZ A B).1 he⟩
 |false =>
  rw[he,cond_false] at h
  have dk:¬xw f lo hi g lo' hi':=fun e=>by rw[(hX.nZ A B).2 e] at he;cases he
  cases hr:eu f g n lo hi lo' hi' with
  |none=>rw[hr] at h;cases h
  |some r =>
   rw[hr] at h
   injection h with h
   obtain⟨k1,k2,k3,k4,k5⟩:=apart_spec n lo hi lo' hi' r A B hr
   have l1:=k1.le
   have l2:=k2.le
   have m1:=qj r.1.1 r.1.2
   have m2:=qj r.2.1 r.2.2
   have EF:¬(r.1.1=r.1.2∧r.2.1=r.2.2∧r.1.1=r.2.1):=fun ⟨e1,e2,e3⟩=>dk (fun x=>by
    rw[←k3,←k4]
    unfold aK
    rw[if_pos e1,if_pos e2,e3])
   rcases k5 with k5|k5
   ·have bH:midQ r.1.1 r.1.2<midQ r.2.1 r.2.2:=by
     refine Rat.not_le.1 fun hc=>EF ⟨by grind,by grind,by grind⟩
    rw[if_pos bH] at h
    refine Or.inr (Or.inl ⟨h.symm,?_⟩)
    rcases Nh A B with t|t|t
    ·exact t
    ·exact absurd t dk
    ·obtain⟨x,x1,x2⟩:=t
     rw[←k4] at x1
     rw[←k3] at x2
     exfalso
     have a1:r.2.1≤x:=by
      refine Rat.not_lt.1 fun hh => ?_
      have:=k2.kx hh k2.lR;omega
     have a2:x≤r.1.2:=by
      refine Rat.not_lt.1 fun hh => ?_
      have:=k1.mono hh k1.nF;omega
     have ex:x=r.2.1:=by grind
     have pI:x=r.1.2:=by grind
     have b1:0≤aK g r.2.1 r.2.2 x:=by rw[ex];exact k2.lR
     omega
   ·have bH:¬midQ r.1.1 r.1.2<midQ r.2.1 r.2.2:=by grind
    rw[if_neg bH] at h
    refine Or.inr (Or.inr ⟨h.symm,?_⟩)
    rcases Nh A B with t|t|t
    ·obtain⟨x,x1,x2⟩:=t
     rw[←k3] at x1
     rw[←k4] at x2
     exfalso
     have a1:r.1.1≤x:=by
      refine Rat.not_lt.1 fun hh => ?_
      have:=k1.kx hh k1.lR;omega
     have a2:x≤r.2.2:=by
      refine Rat.not_lt.1 fun hh => ?_
      have:=k2.mono hh k2.nF;omega
     have ex:x=r.1.1:=by grind
     have b1:0≤aK f r.1.1 r.1.2 x:=by rw[ex];exact k1.lR
     omega
    ·exact absurd t dk
    ·exact t
namespace hX
theorem tz{f:List Rat}{lo hi a w:Rat}{k:Nat}(F:Sm f)(A:dH f lo hi)(D:Dy a w k lo hi)(hh:ht a+ht w+(k+1)/32+4≤1073741824):Cp 204 [(bW f lo hi).pv] (.aB [(bW f (c9 f lo hi).1 (c9 f lo hi).2).pv,.aq]):=by
 obtain⟨h1,h2⟩:=D.ht
 have O:=F.ok (lo:=lo) (hi:=hi) (by omega) (by omega)
 by_cases he:lo=hi
 ·have c1:=QF.jN lo hi (by omega) (by omega)
  have e:c9 f lo hi=(lo,hi):=by unfold c9;rw[if_pos he]
  rw[e]
  exact dh.e0 (bW f lo hi) _ c1 (dm.2 he)
 ·exact Dh O A.le (by have:=D.gJ he;omega)
theorem apart{f g:List Rat}{a w a' w':Rat}{K:Nat}(F:Sm f)(G:Sm g)(h1:ht a+ht w+K/32+4≤1073741824)(h2:ht a'+ht w'+K/32+4≤1073741824):∀(n k:Nat) (lo hi lo' hi':Rat) (r:(Rat×Rat)×(Rat×Rat)),n+k≤K+1→dH f lo hi→dH g lo' hi'→Dy a w k lo hi→Dy a' w' k lo' hi'→eu f g n lo hi lo' hi'=some r →
  di.aj (bW f lo hi) (bW g lo' hi') (.aB [(bW f r.1.1 r.1.2).pv,(bW g r.2.1 r.2.2).pv,.aq])∧ht (midQ r.1.1 r.1.2)≤4294967296∧ht (midQ r.2.1 r.2.2)≤4294967296∧ht r.1.1≤1073741824∧ht r.1.2≤1073741824∧ht r.2.1≤1073741824∧ht r.2.2≤1073741824
 |0,_,_,_,_,_,_,_,_,_,_,_,h=>by cases h
 |n+1,k,lo,hi,lo',hi',r,hn,A,B,D,E,h=>by
  obtain⟨d1,d2⟩:=D.ht
  obtain⟨e1,e2⟩:=E.ht
  have c1:=QF.jN hi lo' (by omega) (by omega)
  have c2:=QF.jN hi' lo (by omega) (by omega)
  rw[eu] at h
  split at h
  ·rename_i bH
   match n,h with
   |0,h=>cases h
   |n+1,h =>
    have a1:=dD A
    have b1:=dD B
    obtain⟨g1,g2⟩:=apart F G h1 h2 (n+1) (k+1) _ _ _ _ r (by omega) a1.1 b1.1 (D.half f) (E.half g) h
    exact⟨di.l10 (bW f lo hi) (bW g lo' hi') _ _ _ _ c1 (by rw[fG bH.1];omega) c2 (by rw[fG bH.2];omega) (tz F A D (by omega)) (tz G B E (by omega)) g1,g2⟩
  ·rename_i Fw
   injection h with h
   subst h
   have mh:∀x y:Rat,ht x≤1073741824→ht y≤1073741824→ht (midQ x y)≤4294967296:=fun x y hx hy=>by
    unfold midQ
    have s1:=jg x y
    have s2:=dP (Rat.divInt 1 2) (x+y)
    have s3:ht (Rat.divInt 1 2)=1:=by decide +kernel
    omega
   refine⟨?_,mh lo hi (by omega) (by omega),mh lo' hi' (by omega) (by omega),(show ht lo≤1073741824 by omega),(show ht hi≤1073741824 by omega),(show ht lo'≤1073741824 by omega),(show ht hi'≤1073741824 by omega)⟩
   by_cases k1:lo'<hi
   ·exact di.oK (bW f lo hi) (bW g lo' hi') _ _ c1 (by rw[fG k1];omega) c2 (by rcases cX hi' lo with k|k|k<;>first|omega|(exfalso;exact Fw ⟨k1,k.1⟩))
   ·exact di.AS (bW f lo hi) (bW g lo' hi') _ c1 (by rcases cX hi lo' with k|k|k<;>first|omega|(exfalso;exact k1 k.1))
theorem cmp{f g:List Rat}{lo hi lo' hi':Rat}{K:Nat}{s:Int}(F:Sm f)(G:Sm g)(A:dH f lo hi)(B:dH g lo' hi')(h1:ht lo+ht (hi-lo)+K/32+4≤1073741824)(h2:ht lo'+ht (hi'-lo')+K/32+4≤1073741824)(h:tv f g (K+1) lo hi lo' hi'=some s) :
  Cp 96 [(bW f lo hi).pv,(bW g lo' hi').pv] (.aB [vI s,.aq]):=by
 obtain⟨d1,d2⟩:=(Dy.start lo hi).ht
 obtain⟨e1,e2⟩:=(Dy.start lo' hi').ht
 have he:=equal F G A.f0 A.le (lo:=lo) (hi:=hi) (lo':=lo') (hi':=hi') (by omega) (by omega) (by omega) (by omega)
 unfold tv at h
 cases hb:AB f lo hi g lo' hi' with
 |true =>
  rw[hb] at he h
  have hs:s=0:=(Option.some.inj h).symm
  rw[hs]
  exact gT.e0 (bW f lo hi) (bW g lo' hi') _ he rfl
 |false =>
  rw[hb] at he h
  rw[cond_false] at h
  cases hr:eu f g (K+1) lo hi lo' hi' with
  |none=>rw[hr] at h;cases h
  |some r =>
   rw[hr] at h
   have h:=Option.some.inj h
   obtain⟨k1,k2, -⟩:=apart_spec _ lo hi lo' hi' r A B hr
   obtain⟨g1,g2,g3,g4,g5,g6,g7⟩:=apart F G h1 h2 (K+1) 0 lo hi lo' hi' r (by omega) A B (Dy.start lo hi) (Dy.start lo' hi') hr
   have ga:=di.e0 (bW f lo hi) (bW g lo' hi') g1
   have m1:=o7.FE r.1.1 r.1.2 g4 g5 k1.le
   have m2:=o7.FE r.2.1 r.2.2 g6 g7 k2.le
   have c:=QF.jN (midQ r.1.1 r.1.2) (midQ r.2.1 r.2.2) (by omega) (by omega)
   by_cases bH:midQ r.1.1 r.1.2<midQ r.2.1 r.2.2
   ·rw[if_pos bH] at h
    subst h
    exact gT.e1 (bW f lo hi) (bW g lo' hi') _ (bW f r.1.1 r.1.2) (bW g r.2.1 r.2.2) _ _ _ he rfl ga m1 m2 c (by rw[gN bH];omega)
   ·rw[if_neg bH] at h
    subst h
    exact gT.e2 (bW f lo hi) (bW g lo' hi') _ (bW f r.1.1 r.1.2) (bW g r.2.1 r.2.2) _ _ _ he rfl ga m1 m2 c (by rcases cX (midQ r.1.1 r.1.2) (midQ r.2.1 r.2.2) with k|k|k<;>first|omega|(exfalso;exact bH k.1))
end hX
end Go.Proofs.YtllmkadmohkbfaaGreatDoor.Sym
namespace Go.Proofs.YtllmkadmohkbfaaGreatDoor.Sym
open Go dE
set_option linter.unusedVariables false
theorem lT{P q:List Rat}(hz:aJ q=false)(sL:q≠[])(x:Rat):evalL (et P q).1 x*evalL q x+evalL (a7 P q) x=evalL P x:=(eE P hz sL).2 x
theorem tA{f g:List Rat}{u v:Rat}(A:dH f u v)(zg:aJ g=false)(g0:g≠[])(hd:Dv g f)(hn:¬Zr f u v g):o6 g u v:=by
 have hle:=A.le
 by_cases he:u=v
 ·subst he
  have h0:evalL g u≠0:=fun e=>hn ((A.ma (qT rfl)).2 e)
  obtain⟨δ,d0,hδ⟩:=oG h0
  exact hδ.sub (by grind) (by grind)
 ·have bH:u<v:=by grind
  obtain⟨G1,G2,G3,G4,k, -,G5⟩:=free_spec zg g0
  have hc:¬0<fR (aG g) u-fR (aG g) v:=fun h=>hn ((A.Ey bH zg g0 hd).1 h)
  have hm:=kE G1 G2 G3 hle
  have dk:evalL (aM g) u≠0:=fun e=>by
   obtain⟨c,hc⟩:=G4.trans hd
   exact(A.ends bH).1 (by rw[hc u,e];grind)
  have AM:¬0<cS (aM g) u-cS (aM g) v:=hc
  have ha:=ou G1 G2 G3 hle (by unfold cS at AM;omega) dk
  exact yZ (xW ha k) G5
theorem pJ{f g f1:List Rat}{u v:Rat}(A:dH f u v)(zg:aJ g=false)(g0:g≠[])(hd:∀x,evalL f x=evalL f1 x*evalL g x)(hn:¬Zr f u v g):evalL f1 u=0∨evalL f1 v=0∨sg (evalL f1 u) = - sg (evalL f1 v):=by
 have ha:=tA A zg g0 ⟨f1,hd⟩ hn
 have hle:=A.le
 by_cases he:u=v
 ·subst he
  left
  have hz:evalL f u=0:=by
   rcases A.DN with ⟨_,k⟩|⟨k,_⟩
   ·exact k
   ·exact absurd k Rat.lt_irrefl
  rw[hd] at hz
  rcases Rat.mul_eq_zero.1 hz with h|h
  ·exact h
  ·exact absurd h (ha.ne Rat.le_refl Rat.le_refl)
 ·have bH:u<v:=by grind
  right;right
  have hs:=A.xY (u:=u) (v:=v) (A.low bH Rat.le_refl) (A.high bH Rat.le_refl) (Or.inl Rat.le_refl) (Or.inl Rat.le_refl) bH
  have hg:=qi hle ha
  have n1:=rC (ha.ne Rat.le_refl hle)
  rw[hd,hd] at hs
  have sm:∀x y:Rat,sg (x*y)=sg x*sg y:=fun x y=>by
   rcases bk x with ⟨a,b⟩|⟨a,b⟩|⟨a,b⟩<;>rcases bk y with ⟨c,d⟩|⟨c,d⟩|⟨c,d⟩<;>rw[b,d]
   ·have:=Rat.mul_pos (show 0 < -x by grind) (show 0 < -y by grind)
    rcases bk (x*y) with k|k|k<;>first|(rw [k.2];decide)|(exfalso;grind)
   ·rw[c,Rat.mul_zero];rfl
   ·have:=Rat.mul_pos (show 0 < -x by grind) c
    rcases bk (x*y) with k|k|k<;>first|(rw [k.2];decide)|(exfalso;grind)
   ·rw[a,Rat.zero_mul];rfl
   ·rw[a,Rat.zero_mul];rfl
   ·rw[a,Rat.zero_mul];rfl
   ·have:=Rat.mul_pos a (show 0 < -y by grind)
    rcases bk (x*y) with k|k|k<;>first|(rw [k.2];decide)|(exfalso;grind)
   ·rw[c,Rat.mul_zero];rfl
   ·have:=Rat.mul_pos a c
    rcases bk (x*y) with k|k|k<;>first|(rw [k.2];decide)|(exfalso;grind)
  rw[sm,sm,hg] at hs
  rcases n1 with n|n<;>rw[hg] at n<;>rw[n] at hs<;>omega
theorem Ts{P1 V1 U1 K F1 w:Rat}{S K1 L1 N:Nat}(h:V1*P1+(U1-V1*K)*F1=1)(hU:ab U1≤twP S)(hV:ab V1≤twP S)(hK:ab K≤twP K1)(hF:ab F1≤twP L1*w)(yf:0≤w)(hw:w*twP N≤1)(hN:S+K1+L1+2≤N):1≤ab P1*twP N:=by
 have pS:=bw S
 have pK:=bw K1
 have pL:=bw L1
 have e1:ab (U1-V1*K)≤twP (S+K1+1):=by
  have a1:=kD U1 (-(V1*K))
  rw[yW,fQ] at a1
  have a2:=cM hV hK (bJ V1) (Rat.le_of_lt pK)
  have a3:=aS (show S≤S+K1 by omega)
  rw[bP,dS]
  rw[dS] at a3
  have a4:U1-V1*K=U1 + -(V1*K):=by grind
  rw[a4]
  grind
 have e2:ab ((U1-V1*K)*F1)≤twP (S+K1+1)*(twP L1*w):=by
  rw[fQ]
  exact cM e1 hF (bJ _) (Rat.mul_nonneg (Rat.le_of_lt pL) yf)
 have e3:twP (S+K1+1)*(twP L1*w)+twP (S+K1+1)*(twP L1*w)≤1:=by
  have b1:=Rat.mul_le_mul_of_nonneg_left (aS hN) yf
  have b2:twP (S+K1+L1+2)=twP (S+K1+1)*twP L1+twP (S+K1+1)*twP L1:=by
   rw[←dS,←bP]
   congr 1;omega
  rw[b2] at b1
  grind
 have e4:=kD (V1*P1) ((U1-V1*K)*F1)
 rw[h,show ab 1=1 from rfl,fQ] at e4
 have e5:=Rat.mul_le_mul_of_nonneg_right hV (bJ P1)
 have e6:=Rat.mul_le_mul_of_nonneg_left (aS (show S+1≤N by omega)) (bJ P1)
 rw[bP] at e6
 grind
theorem zi{f p g f1:List Rat}{u v:Rat}(A:dH f u v)(zp:aJ p=false)(lp:p.length≤6)(cp:Ch 7 p)(zg:aJ g=false)(g0:g≠[])(hd:∀x,evalL f x=evalL f1 x*evalL g x)(hb:∃U V,∀x,evalL g x=evalL U x*evalL p x+evalL V x*evalL f x)(FK:¬Zr f u v g)
  (z1:aJ f1=false) (l1:f1.length≤6) (c1:Ch 82021 f1) (ID:Fl 13670 f1) (hu:ab u≤twP 32) (hv:ab v≤twP 32) {N:Nat} (hN:1952809344+18373318+437644+2≤N) (hw:(v-u)*twP N≤1):∀x,u≤x→x≤v→1≤ab (evalL p x)*twP N:=by
 have EB:=pJ A zg g0 hd FK
 have hle:=A.le
 have f10:f1≠[]:=fun e=>by
  have h4:aU f=aU []:=xU (fun z=>by rw[hd z,e];show(0:Rat)*_=0;grind)
  rw[show aU f=f from jQ (bj f) A.zf (dV f)] at h4
  exact A.f0 h4
 obtain⟨a,b,dK⟩:=A.zK
 obtain⟨U0,V0,PD⟩:=hb
 have Np:qF f1 p:=by
  refine⟨ft (ft (mulL a g) (mulL b (ar g))) (mulL (mulL (mulL b (ar f1)) V0) g),mulL (mulL b (ar f1)) U0,fun x => ?_⟩
  have h1:=dK x
  have h2:=PD x
  have h3:=hd x
  have h4:dEv f x=dEv f1 x*evalL g x+evalL f1 x*dEv g x:=by
   rw[oE (q:=mulL f1 g) (fun x=>by rw[aO];exact hd x) x,sq]
  rw[dW,h4] at h1
  simp only[cu,aO,dW]
  generalize evalL a x=A' at *
  generalize evalL b x=B' at *
  generalize evalL g x=G' at *
  generalize evalL f1 x=F' at *
  generalize dEv f1 x=DF at *
  generalize dEv g x=DG at *
  generalize evalL U0 x=U' at *
  generalize evalL V0 x=V' at *
  generalize evalL p x=P' at *
  rw[h3] at h1 h2
  grind
 obtain⟨al,be,La⟩:=Np
 have he:=fun x=>lT (P:=p) z1 f10 x
 have H8:qF f1 (a7 p f1):=⟨ft al (mulL be (et p f1).1),be,fun x=>by
  have h1:=La x
  have h2:=he x
  rw[cu,aO]
  grind⟩
 have r0:a7 p f1≠[]:=fun e=>by
  obtain⟨x1,x2,hx⟩:=H8
  have FD:Dv f1 [1]:=⟨x1,fun x=>by
   have:=hx x
   rw[e] at this
   rw[fL]
   change _+_*(0:Rat)=1 at this
   grind⟩
  have hl:=(FD.len z1 (show aJ [(1:Rat)]=false by decide) (by simp)).2
  have oh:=List.length_pos_iff.2 f10
  obtain⟨c,rfl⟩:∃c,f1=[c]:=List.length_eq_one_iff.1 (by simp at hl;omega)
  have hc:c≠0:=eH z1 f10
  rw[fL,fL] at EB
  rcases EB with k|k|k
  ·exact hc k
  ·exact hc k
  ·rcases rC hc with m|m<;>omega
 have uW:=(eE p z1 f10).1
 have Gd:=List.length_pos_iff.2 f10
 have hm:(p.length+1-f1.length)*(82021+1)≤6*(82021+1):=Nat.mul_le_mul_right _ (by omega)
 have Pc:Ch 492139 (a7 p f1):=(cp.rest c1 z1 f10).mono (by omega)
 have hE:su 82021 492139 6 0 1 f1 (a7 p f1):=⟨c1,Pc,by omega,uW,by omega,z1,b8 p f1⟩
 have hR:(0:Rat)≤twP 32:=Rat.le_of_lt (bw 32)
 obtain⟨U,V,Nq,Kw,Jq⟩:=Jp (a:=82021) (b:=492139) (N:=6) (r:=32) (R:=twP 32) (by omega) (by omega) hR Rat.le_refl (by omega) 6 0 1 f1 (a7 p f1) hE r0 H8 (by unfold a7 at *;omega)
 have VS:xB 82021 492139 (6-1)=15256323:=by decide
 have hS:32*(4*xB 82021 492139 (6-1)-3*xB 82021 492139 1)≤1952809344:=by rw[VS];omega
 have Kw:=Rat.le_trans Kw (aS hS)
 have Jq:=Rat.le_trans Jq (aS hS)
 have VT:Fl 574160 (et p f1).1:=cL (tK cp c1 (by omega) (by omega) z1 f10) (by omega)
 have hkl:=qS (p:=p) z1 f10
 have Nr:=Av hR Rat.le_refl (et p f1).1 (qn VT)
 have Nr:=Rat.le_trans Nr (aS (show 32*574160+(32+1)*(et p f1).1.length≤18373318 from
  Nat.le_trans (Nat.add_le_add_left (Nat.mul_le_mul_left (32+1) (show (et p f1).1.length≤6 by omega)) _) (by decide)))
 have H9:=pF hR Rat.le_refl f1 (qn ID)
 have H9:=Rat.le_trans H9 (aS (show 32*13670+(32+2)*f1.length≤437644 from
  Nat.le_trans (Nat.add_le_add_left (Nat.mul_le_mul_left (32+2) l1) _) (by decide)))
 intro x h1 h2
 have hx:=a8 h1 h2 hu hv
 have zX:=iE hu hv EB h1 h2
 have yf:0≤v-u:=by grind
 refine Ts (P1:=evalL p x) (V1:=evalL V x) (U1:=evalL U x) (K:=evalL (et p f1).1 x) (F1:=evalL f1 x) (w:=v-u) ?_ (Rat.le_trans (kc hx U) Kw) (Rat.le_trans (kc hx V) Jq) (Rat.le_trans (kc hx _) Nr) (Rat.le_trans zX (Rat.mul_le_mul_of_nonneg_right H9 yf)) yf hw hN
 have q1:=Nq x
 have q2:=he x
 grind
theorem Uk:xB 7 63 5=1951:=by decide
theorem oH{f p:List Rat}(F:Sm f)(P:Sm p){u v:Rat}(A:dH f u v)(hn:¬Zr f u v p)(hu:ab u≤twP 32)(hv:ab v≤twP 32){N:Nat}(hN:1952809344+18373318+437644+2≤N)(hw:(v-u)*twP N≤1):∀x,u≤x→x≤v→1≤ab (evalL p x)*twP N:=by
 have f0:=A.f0
 have H9:=F.l
 have fi:=mA P.z F.z P.l F.l P.ch F.ch f0
 have zg:=fi.zp
 have g0:=fi.ne
 obtain⟨d1,d2⟩:=gR p f P.z F.z
 have CB:=List.length_pos_iff.2 g0
 have FK:¬Zr f u v (bF p f):=fun h=>hn (h.dv d1)
 obtain⟨c,hc⟩:=d2
 have SI:=qR (p:=f) zg g0 (bj c) (show aJ []=false from rfl) (by simpa using CB) (fun x=>by
  rw[da]
  show _+(0:Rat)=_
  rw[Rat.add_zero]
  exact(hc x).symm)
 have hd:∀x,evalL f x=evalL (et f (bF p f)).1 x*evalL (bF p f) x:=fun x=>by
  have:=lT (P:=f) zg g0 x
  rw[show a7 f (bF p f)=[] from by unfold a7;rw[SI]] at this
  change _+(0:Rat)=_ at this
  grind
 have hx:xB 7 63 (6-(bF p f).length)≤1951:=by
  rw[←Uk]
  exact cv 7 63 (by omega) (by omega)
 have cg:=fi.ch.mono hx
 have hm:(f.length+1-(bF p f).length)*(1951+1)≤6*(1951+1):=Nat.mul_le_mul_right _ (by omega)
 have ID:Fl 13670 (et f (bF p f)).1:=cL (tK F.ch cg (by omega) (by omega) zg g0) (by omega)
 have o9:=qS (p:=f) zg g0
 have l1:(et f (bF p f)).1.length≤6:=by omega
 have c1:Ch 82021 (et f (bF p f)).1:=(Ch.uH ID).mono (Nat.le_trans (Nat.add_le_add_right (Nat.mul_le_mul_right 13670 l1) 1) (by decide))
 exact zi A P.z P.l P.ch zg g0 hd (tZ p f P.z F.z) FK (me _ _).1 l1 c1 ID hu hv hN hw
theorem lU{f g:List Rat} : ∀(n:Nat) (lo hi lo' hi':Rat),dH f lo hi→dH g lo' hi'→eu f g (n+1) lo hi lo' hi'=none →
  ∃u v u' v',dH f u v∧dH g u' v'∧(∀x,aK f u v x=aK f lo hi x)∧(∀x,aK g u' v' x=aK g lo' hi' x)∧lo≤u∧v≤hi∧lo'≤u'∧v'≤hi'∧(v-u)*twP n≤hi-lo∧(v'-u')*twP n≤hi'-lo'∧u'<v∧u<v'
 |0,lo,hi,lo',hi',A,B,h=>by
  rw[eu] at h
  split at h
  ·rename_i bH
   exact⟨lo,hi,lo',hi',A,B,fun _=>rfl,fun _=>rfl,Rat.le_refl,Rat.le_refl,Rat.le_refl,Rat.le_refl,by rw[hO];grind,by rw[hO];grind,bH.1,bH.2⟩
  ·cases h
 |n+1,lo,hi,lo',hi',A,B,h=>by
  rw[eu] at h
  split at h
  ·obtain⟨a1,a2,a3,a4,a5⟩:=dD A
   obtain⟨b1,b2,b3,b4,b5⟩:=dD B
   obtain⟨u,v,u',v',k1,k2,k3,k4,k5,k6,k7,k8,k9,Ns,Nt,PH⟩:=lU n _ _ _ _ a1 b1 h
   refine⟨u,v,u',v',k1,k2,fun x=>by rw[k3,a2],fun x=>by rw[k4,b2],by grind,by grind,by grind,by grind,?_,?_,Nt,PH⟩
   ·rw[bP];grind
   ·rw[bP];grind
  ·cases h
theorem qW{f g:List Rat}{lo hi s t:Rat}(A:dH f lo hi)(zg:aJ g=false)(g0:g≠[])(cg:qF g (ar g))(hz:Zr f lo hi g)(bz:s≤t)(h1:aK f lo hi s=1)(h2:aK f lo hi t≤0)(hs:evalL g s≠0):1≤cS g s-cS g t:=by
 have hm:=kE zg g0 cg bz
 by_cases he:cS g s=cS g t
 ·exfalso
  have ha:=ou zg g0 cg bz he hs
  rcases A.three t with k|k|k
  ·omega
  ·exact ha.ne bz Rat.le_refl ((A.ma k).1 hz)
  ·exact hz s t h1 k ha
 ·unfold cS at *
  omega
theorem ks{f1 f2 g:List Rat}{EC xu vO ql s t:Rat}(A:dH f1 EC xu)(B:dH f2 vO ql)(zg:aJ g=false)(g0:g≠[])(cg:qF g (ar g))(hA:Zr f1 EC xu g)(hB:Zr f2 vO ql g)(bH:xZ f1 EC xu f2 vO ql)(hs:0≤aK f1 EC xu s)(ht:aK f2 vO ql t≤0) :
  s≤t∧(evalL g s≠0→2≤cS g s-cS g t)∧(evalL g s=0→1≤cS g s-cS g t):=by
 obtain⟨x0,x1,x2⟩:=bH
 obtain⟨x,y1,y2,hx⟩:∃x,aK f1 EC xu x = -1∧aK f2 vO ql x=1∧evalL g x≠0:=by
  by_cases h:evalL g x0=0
  ·obtain⟨y,h1,h2⟩:=B.zc x2
   obtain⟨d,d1,d2,d3⟩:=xX cg h (δ:=y-x0) (by grind) 1 (Or.inl rfl)
   have e:x0+1*d=x0+d:=by grind
   rw[e] at d3
   refine⟨x0+d,A.mono (x:=x0) (by grind) (by omega),?_,d3⟩
   by_cases hy:x0+d=y
   ·rw[hy];exact h2
   ·exact B.kx (y:=y) (by grind) (by omega)
  ·exact⟨x0,x1,x2,h⟩
 have PE:s<x:=by
  by_cases h:x<s
  ·have:=A.kx h hs;omega
  ·by_cases e:s=x
   ·rw[e] at hs;omega
   ·grind
 have QN:x<t:=by
  by_cases h:t<x
  ·have:=B.mono h ht;omega
  ·by_cases e:x=t
   ·rw[←e] at ht;omega
   ·grind
 have c2:=qW B zg g0 cg hB (Rat.le_of_lt QN) y2 ht hx
 refine⟨by grind,fun dk => ?_,fun _ => ?_⟩
 ·have h1:aK f1 EC xu s=1:=by
   rcases A.three s with k|k|k
   ·exact k
   ·exact absurd ((A.ma k).1 hA) dk
   ·omega
  have c1:=qW A zg g0 cg hA (Rat.le_of_lt PE) h1 (by omega) dk
  omega
 ·have hm:=kE zg g0 cg (Rat.le_of_lt PE)
  unfold cS at *
  omega
theorem mB{p:List Rat}(P:Sm p)(p0:p≠[]):cH 7 6 p:=⟨P.z,p0,P.l,P.ch,by omega,by omega,by decide +kernel⟩
theorem Fb:32*(4*xB 7 (7+1) (6-1))+32*(7+1)+(32+2)*6+3≤46031:=by decide
theorem jD{f:List Rat}{lo hi s:Rat}(A:dH f lo hi)(h:s≤lo):0≤aK f lo hi s:=by
 by_cases e:s=lo
 ·rw[e];exact A.lR
 ·rw[A.kx (y:=lo) (by grind) A.lR];omega
theorem lh{f:List Rat}{lo hi t:Rat}(A:dH f lo hi)(h:hi≤t):aK f lo hi t≤0:=by
 by_cases e:t=hi
 ·rw[e];exact A.nF
 ·rw[A.mono (x:=hi) (by grind) A.nF];omega
theorem kG{w c:Rat}{M:Nat}(h0:0≤w)(hc:c≤twP 33)(h:w*twP (M+33)≤c):w*twP M≤1:=by
 have p:=bw 33
 rw[dS] at h
 refine Rat.not_lt.1 fun bH => ?_
 have:=Rat.mul_lt_mul_of_pos_right bH p
 grind
theorem rn{f g:List Rat}(F:Sm f)(G:Sm g){lo hi lo' hi':Rat}(A:dH f lo hi)(B:dH g lo' hi')(dk:¬xw f lo hi g lo' hi')(h1:ab lo≤twP 32)(h2:ab hi≤twP 32)(h3:ab lo'≤twP 32)(h4:ab hi'≤twP 32){N:Nat}(hN:1952809344+18373318+437644+2≤N) :
  ∃r,eu f g (N+237+33+1) lo hi lo' hi'=some r:=by
 cases hr:eu f g (N+237+33+1) lo hi lo' hi' with
 |some r=>exact⟨r,rfl⟩
 |none =>
  exfalso
  obtain⟨u,v,u',v',A1,B1,k3,k4,k5,k6,k7,k8,k9,Ns,Nt,PH⟩:=lU (N+237+33) lo hi lo' hi' A B hr
  have CA:twP 32+twP 32=twP 33:=(bP 32).symm
  have w1:hi-lo≤twP 33:=by have:=ke hi;have:=dY lo;grind
  have w2:hi'-lo'≤twP 33:=by have:=ke hi';have:=dY lo';grind
  have l1:=A1.le
  have l2:=B1.le
  have z1:0≤v-u:=by grind
  have z2:0≤v'-u':=by grind
  have m1:=kG z1 w1 k9
  have m2:=kG z2 w2 Ns
  have bu:=a8 k5 (show u≤hi by grind) h1 h2
  have bv:=a8 (show lo≤v by grind) k6 h1 h2
  have RX:=a8 k7 (show u'≤hi' by grind) h3 h4
  have RY:=a8 (show lo'≤v' by grind) k8 h3 h4
  have Fx:¬xw f u v g u' v':=fun e=>dk (fun x=>by rw[←k3,←k4];exact e x)
  by_cases hz:Zr f u v g
  ·
   have fi:=mB G B.f0
   have he:=fi.Tt
   obtain⟨s,PF,Me,Kx⟩:∃s,s≤u∧s≤u'∧(s=u∨s=u'):=by
    by_cases h:u≤u'
    ·exact⟨u,Rat.le_refl,h,Or.inl rfl⟩
    ·exact⟨u',by grind,Rat.le_refl,Or.inr rfl⟩
   obtain⟨t,Nu,OV,LU⟩:∃t,v≤t∧v'≤t∧(t=v∨t=v'):=by
    by_cases h:v≤v'
    ·exact⟨v',h,Rat.le_refl,Or.inr rfl⟩
    ·exact⟨v,Rat.le_refl,by grind,Or.inl rfl⟩
   have bs:ab s≤twP 32:=by rcases Kx with e|e<;>rw[e]<;>assumption
   have bt:ab t≤twP 32:=by rcases LU with e|e<;>rw[e]<;>assumption
   have hw:(t-s)*twP 46031≤1:=by
    have q1:t-s≤(v-u)+(v'-u'):=by rcases Kx with e|e<;>rcases LU with e2|e2<;>rw[e,e2]<;>grind
    have q2:twP 46031+twP 46031≤twP (N+237):=by rw[←bP];exact aS (by omega)
    have q3:=Rat.mul_le_mul_of_nonneg_left q2 z1
    have q4:=Rat.mul_le_mul_of_nonneg_left q2 z2
    have q5:=Rat.mul_le_mul_of_nonneg_right q1 (Rat.le_of_lt (bw 46031))
    grind
   have HF:s≤t→cS g s-cS g t≤1∧(evalL g s=0→cS g s-cS g t≤0):=fun bz =>
    oF (a:=7) (N:=6) (r:=32) (m:=46031) (R:=twP 32) (by omega) he B.f0 B.zK (Rat.le_of_lt (bw 32)) Rat.le_refl (by omega) bs bt bz (Nat.le_trans (Nat.add_le_add_right (Nat.add_le_add_left (Nat.mul_le_mul_left (32+2) G.l) _) 3) Fb) hw
   have fin:∀(P:s≤t∧(evalL g s≠0→2≤cS g s-cS g t)∧(evalL g s=0→1≤cS g s-cS g t)),False:=fun ⟨p1,p2,p3⟩=>by
    obtain⟨q1,q2⟩:=HF p1
    by_cases h:evalL g s=0
    ·have:=p3 h;have:=q2 h;omega
    ·have:=p2 h;omega
   rcases Nh A1 B1 with h|h|h
   ·exact fin (ks A1 B1 B.zf B.f0 B.zK hz B1.own h (jD A1 PF) (lh B1 OV))
   ·exact Fx h
   ·exact fin (ks B1 A1 B.zf B.f0 B.zK B1.own hz h (jD B1 Me) (lh A1 Nu))
  ·
   obtain⟨x,x1,x2,x3,x4⟩:∃x,u≤x∧x≤v∧u'≤x∧x≤v':=by
    by_cases h:u≤u'
    ·exact⟨u',h,by grind,Rat.le_refl,l2⟩
    ·exact⟨u,Rat.le_refl,l1,by grind,by grind⟩
   have FM:(v-u)*twP N≤1:=by
    have:=Rat.mul_le_mul_of_nonneg_left (aS (show N≤N+237 by omega)) z1
    grind
   have Bi:=oH F G A1 hz bu bv hN FM x x1 x2
   have En:evalL g u'=0∨evalL g v'=0∨sg (evalL g u') = - sg (evalL g v'):=by
    by_cases he:u'=v'
    ·left
     rcases B1.DN with ⟨_,k⟩|⟨k,_⟩
     ·exact k
     ·grind
    ·have bH:u'<v':=by grind
     exact Or.inr (Or.inr (B1.xY (B1.low bH Rat.le_refl) (B1.high bH Rat.le_refl) (Or.inl Rat.le_refl) (Or.inl Rat.le_refl) bH))
   have zX:=iE RX RY En x3 x4
   have By:=pF (Rat.le_of_lt (bw 32)) Rat.le_refl g (qn G.f)
   have By:=Rat.le_trans By (aS (show 32*1+(32+2)*g.length≤236 by have:=G.l;omega))
   have h5:=Rat.le_trans zX (Rat.mul_le_mul_of_nonneg_right By z2)
   have h6:=Rat.mul_le_mul_of_nonneg_right h5 (Rat.le_of_lt (bw N))
   have e7:twP (N+237)=twP 236*twP N+twP 236*twP N:=by
    rw[←dS,←bP]
    congr 1;omega
   rw[e7] at m2
   grind
theorem kt:∀(l:List Int) (s:Int),varS (-s) (l.map (fun a => -a))=varS s l
 |[],s=>rfl
 |a::r,s=>by
  rw[List.map_cons,varS,varS]
  by_cases h:a=0
  ·rw[if_pos h,if_pos (by omega)]
   exact kt r s
  ·rw[if_neg h,if_neg (by omega),kt r a]
   by_cases h2:a = -s
   ·rw[if_pos h2,if_pos (by omega)]
   ·rw[if_neg h2,if_neg (by omega)]
theorem qX(x y:Rat):sg (x*y)=sg x*sg y:=by
 rcases bk x with ⟨a,b⟩|⟨a,b⟩|⟨a,b⟩<;>rcases bk y with ⟨c,d⟩|⟨c,d⟩|⟨c,d⟩<;>rw[b,d]
 ·have:=Rat.mul_pos (show 0 < -x by grind) (show 0 < -y by grind)
  rcases bk (x*y) with k|k|k<;>first|(rw [k.2];decide)|(exfalso;grind)
 ·rw[c,Rat.mul_zero];rfl
 ·have:=Rat.mul_pos (show 0 < -x by grind) c
  rcases bk (x*y) with k|k|k<;>first|(rw [k.2];decide)|(exfalso;grind)
 ·rw[a,Rat.zero_mul];rfl
 ·rw[a,Rat.zero_mul];rfl
 ·rw[a,Rat.zero_mul];rfl
 ·have:=Rat.mul_pos a (show 0 < -y by grind)
  rcases bk (x*y) with k|k|k<;>first|(rw [k.2];decide)|(exfalso;grind)
 ·rw[c,Rat.mul_zero];rfl
 ·have:=Rat.mul_pos a c
  rcases bk (x*y) with k|k|k<;>first|(rw [k.2];decide)|(exfalso;grind)
theorem lV{c:Rat}(hc:c≠0):∀(n:Nat) (p d:List Rat),aJ d=false→chainF n (bn c p) (bn c d)=(chainF n p d).map (bn c)
 |0,p,d,_=>rfl
 |n+1,p,d,hd=>by
  by_cases h:d=[]
  ·rw[h]
   show chainF (n+1) (bn c p) []=_
   rw[fc,fc];rfl
  ·have h2:bn c d≠[]:=fun e=>h (List.eq_nil_of_length_eq_zero (by have:=congrArg List.length e;rwa[jY] at this))
   rw[eb h2,eb h,List.map_cons,uV hd h hc hc]
   have e:aU (bn (-1) (bn c (a7 p d)))=bn c (aU (bn (-1) (a7 p d))):=by
    refine jQ (bj _) (gM (bj _) c hc) (fun i => ?_)
    rw[dV,ck,ck,ck,dV,ck]
    grind
   rw[e,lV hc n d _ (bj _)]
theorem jW(p:List Rat)(j:Nat):coef (ar p) j=((1+j:Nat):Int)*coef p (j+1):=by
 have AM:∀(q:List Rat) (i j:Nat),coef (ld i q) j=((i+j:Nat):Int)*coef q j:=by
  intro q
  induction q with
  |nil=>intro i j;show(0:Rat)=_*0;grind
  |cons a q ih =>
   intro i j
   cases j with
   |zero=>show((i:Int):Rat)*a=_;rfl
   |succ j=>exact(ih (i+1) j).trans (by rw[show i+1+j=i+(j+1) by omega];rfl)
 unfold ar
 rw[dV,AM]
 congr 1
 cases p with
 |nil=>rfl
 |cons a p=>rfl
theorem pM{c:Rat}(hc:c≠0)(p:List Rat):ar (bn c p)=bn c (ar p):=by
 refine jQ (bc _) (gM (bc _) c hc) (fun i => ?_)
 rw[jW,ck,ck,jW]
 grind
theorem xc{c:Rat}(hc:c≠0)(f:List Rat)(x:Rat):cS (bn c f) x=cS f x:=by
 unfold cS
 rw[jY,pM hc,lV hc _ _ _ (bc f)]
 unfold fR
 rw[List.map_map]
 rcases rC hc with k|k
 ·congr 1
  refine List.map_congr_left (fun g _ => ?_)
  show sg (evalL (bn c g) x)=_
  rw[bN,qX,k];omega
 ·have e:(chainF f.length f (ar f)).map ((fun g=>sg (evalL g x)) ∘ bn c)=((chainF f.length f (ar f)).map (fun g=>sg (evalL g x))).map (fun a => -a):=by
   rw[List.map_map]
   refine List.map_congr_left (fun g _ => ?_)
   show sg (evalL (bn c g) x) = - sg (evalL g x)
   rw[bN,qX,k];omega
  rw[e]
  exact kt _ 0
theorem ue{p:List Rat}(hz:aJ p=false)(h0:p≠[])(hc:qF p (ar p)):aM p=bn (1/cb p) p:=by
 have hg:=yV hz (bc p) hc
 unfold aM
 rw[hg]
 have hd:=qR (p:=p) (q:=[1]) (a:=p) (r:=[]) (by decide) (by simp) hz rfl (by simp) (fun x=>by
  rw[fL]
  show _+(0:Rat)=_
  grind)
 rw[hd]
 exact oD hz h0
theorem rp{p:List Rat}(hz:aJ p=false)(h0:p≠[])(hc:qF p (ar p)){lo hi:Rat}(hle:lo≤hi)(h:rm p lo hi=true):dH p lo hi:=by
 have hf:=ue hz h0 hc
 have ht:=eH hz h0
 have xu:(1:Rat)/cb p≠0:=fun e=>by
  have:=Rat.div_mul_cancel (a:=1) ht
  rw[e] at this
  grind
 have EB:∀x,fR (aG p) x=cS p x:=fun x=>by
  show cS (aM p) x=cS p x
  rw[hf];exact xc xu p x
 have mD:∀x,evalL (aM p) x=1/cb p*evalL p x:=fun x=>by rw[hf,bN]
 unfold rm at h
 refine⟨hz,h0,hc,?_⟩
 by_cases he:lo=hi
 ·rw[decide_eq_true he,cond_true,decide_eq_true_iff,mD] at h
  rcases Rat.mul_eq_zero.1 h with k|k
  ·exact absurd k xu
  ·exact Or.inl ⟨he,k⟩
 ·rw[decide_eq_false he,cond_false,Bool.and_eq_true,decide_eq_true_iff,decide_eq_true_iff,EB,EB] at h
  have nz:∀x,sg (evalL (aM p) x)≠0→evalL p x≠0:=fun x hx e=>hx (by rw[mD,e,Rat.mul_zero];rfl)
  refine Or.inr ⟨by grind,nz lo (fun e => ?_),nz hi (fun e => ?_),h.2⟩
  ·rw[e] at h;have:=h.1;omega
  ·rw[e] at h;have:=h.1;omega
namespace Ov
theorem wa{a c d x:Rat}(h1:c≤x)(h2:x≤d):eZ (a*c) (a*d)≤a*x:=by
 rcases Rat.le_total (a:=0) (b:=a) with h|h
 ·have:=Rat.mul_nonneg h (show 0≤x-c by grind)
  have:=jb (a*c) (a*d)
  grind
 ·have:=Rat.mul_nonneg (show 0 ≤ -a by grind) (show 0≤d-x by grind)
  have:=jc (a*c) (a*d)
  grind
theorem wb{a c d x:Rat}(h1:c≤x)(h2:x≤d):a*x≤fD (a*c) (a*d):=by
 rcases Rat.le_total (a:=0) (b:=a) with h|h
 ·have:=Rat.mul_nonneg h (show 0≤d-x by grind)
  have:=jA (a*c) (a*d)
  grind
 ·have:=Rat.mul_nonneg (show 0 ≤ -a by grind) (show 0≤x-c by grind)
  have:=ie (a*c) (a*d)
  grind
theorem HV{a b c d x y:Rat}(h1:a≤y)(h2:y≤b)(h3:c≤x)(h4:x≤d):fy a b c d≤y*x∧y*x≤fz a b c d:=by
 unfold fy fz
 have l1:=wa (a:=a) h3 h4
 have l2:=wa (a:=b) h3 h4
 have l3:=wa (a:=x) h1 h2
 have u1:=wb (a:=a) h3 h4
 have u2:=wb (a:=b) h3 h4
 have u3:=wb (a:=x) h1 h2
 constructor
 ·refine Rat.le_trans (A3 (a:=eZ (eZ (eZ (a*c) (a*d)) (b*c)) (b*d)) (p:=x*a) (q:=x*b) ?_ ?_) (by grind)
  ·exact Rat.le_trans (jb _ _) (Rat.le_trans (jb _ _) (by grind))
  ·refine Rat.le_trans (A3 (p:=b*c) (q:=b*d) ?_ (jc _ _)) (by grind)
   exact Rat.le_trans (jb _ _) (jc _ _)
 ·refine Rat.le_trans (show y*x≤fD (x*a) (x*b) by grind) (uL ?_ ?_)
  ·exact Rat.le_trans (show x*a≤fD (a*c) (a*d) by grind) (Rat.le_trans (ie _ _) (ie _ _))
  ·refine Rat.le_trans (show x*b≤fD (b*c) (b*d) by grind) (uL ?_ (jA _ _))
   exact Rat.le_trans (jA _ _) (ie _ _)
theorem val{c d x:Rat}(h1:c≤x)(h2:x≤d):∀q:List Rat,(aQ q c d).1≤evalL q x∧evalL q x≤(aQ q c d).2
 |[]=>⟨Rat.le_refl,Rat.le_refl⟩
 |a::r=>by
  obtain⟨g1,g2⟩:=val h1 h2 r
  obtain⟨m1,m2⟩:=HV g1 g2 h1 h2
  show fy _ _ _ _+a≤evalL r x*x+a∧evalL r x*x+a≤fz _ _ _ _+a
  constructor<;>grind
theorem max_mem(p q:Rat):fD p q=p∨fD p q=q:=by unfold fD;split<;>simp
theorem VZ{x0 u v:Rat}(h:u≤v):aQ [-x0,1] u v=(u-x0,v-x0):=by
 have e:aQ [-x0,1] u v=(fy (aQ [1] u v).1 (aQ [1] u v).2 u v + -x0,fz (aQ [1] u v).1 (aQ [1] u v).2 u v + -x0):=rfl
 rw[e,uY]
 have h1:fy 1 1 u v=u:=by
  unfold fy
  rw[Rat.one_mul,Rat.one_mul,pA h,tn,pA h]
 have h2:fz 1 1 u v=v:=by
  unfold fz
  rw[Rat.one_mul,Rat.one_mul,vE h]
  have hv:fD v u=v:=by
   rcases max_mem v u with k|k
   ·exact k
   ·have:=ie v u
    rw[k] at this ⊢
    grind
  rw[hv,tp]
 show(fy 1 1 u v + -x0,fz 1 1 u v + -x0)=_
 rw[h1,h2,Rat.sub_eq_add_neg,Rat.sub_eq_add_neg]
end Ov
def yb(p f:List Rat):Nat→Rat→Rat→Option Int
 |0,_,_=>none
 |n+1,lo,hi=>if 0<(aQ p lo hi).1 then some 1 else if (aQ p lo hi).2<0 then some (-1) else yb p f n (c9 f lo hi).1 (c9 f lo hi).2
theorem nv{f:List Rat}{lo hi:Rat}(A:dH f lo hi):aK f (c9 f lo hi).1 (c9 f lo hi).2=aK f lo hi:=funext (dD A).2.1
theorem ug{f p:List Rat}{lo hi:Rat}(A:dH f lo hi){s:Int}(hs:s=1∨s = -1){c:Rat}(hc:0<c)(h:∀x,lo≤x→x≤hi→sg (evalL p x)=s∧c≤ab (evalL p x)):xv f lo hi p s:=by
 by_cases he:lo=hi
 ·subst he
  obtain⟨h1,h2⟩:=h lo Rat.le_refl Rat.le_refl
  have dk:evalL p lo≠0:=fun e=>by rw[e,sr] at h2;grind
  obtain⟨δ,d0,hδ⟩:=oG dk
  refine Or.inr ⟨hs,lo-δ,lo+δ,?_,?_,hδ,?_⟩
  ·unfold aK;rw[if_pos rfl];exact fG (by grind)
  ·unfold aK;rw[if_pos rfl];exact gN (by grind)
  ·rw[qi (show lo-δ≤lo by grind) (hδ.sub Rat.le_refl (by grind)),h1]
 ·have bH:lo<hi:=by have:=A.le;grind
  exact Or.inr ⟨hs,lo,hi,A.low bH Rat.le_refl,A.high bH Rat.le_refl,⟨c,hc,fun x a b=>(h x a b).2⟩,(h lo Rat.le_refl A.le).1⟩
theorem sJ{f p:List Rat} : ∀(n:Nat) (lo hi:Rat) (s:Int),dH f lo hi→yb p f n lo hi=some s→xv f lo hi p s∧(s=1∨s = -1)
 |0,_,_,_,_,h=>by cases h
 |n+1,lo,hi,s,A,h=>by
  rw[yb] at h
  by_cases h1:0<(aQ p lo hi).1
  ·rw[if_pos h1] at h
   injection h with h
   subst h
   refine⟨ug A (Or.inl rfl) h1 (fun x a b => ?_),Or.inl rfl⟩
   obtain⟨o1,o2⟩:=Ov.val a b p
   have:=ke (evalL p x)
   refine⟨?_,by grind⟩
   rcases bk (evalL p x) with k|k|k<;>first|exact k.2|(exfalso;grind)
  ·rw[if_neg h1] at h
   by_cases h2:(aQ p lo hi).2<0
   ·rw[if_pos h2] at h
    injection h with h
    subst h
    refine⟨ug A (Or.inr rfl) (c := -(aQ p lo hi).2) (by grind) (fun x a b => ?_),Or.inr rfl⟩
    obtain⟨o1,o2⟩:=Ov.val a b p
    have:=dY (evalL p x)
    refine⟨?_,by grind⟩
    rcases bk (evalL p x) with k|k|k<;>first|exact k.2|(exfalso;grind)
   ·rw[if_neg h2] at h
    obtain⟨k1,k2⟩:=sJ n _ _ s (dD A).1 h
    refine⟨?_,k2⟩
    unfold xv at k1 ⊢
    rw[nv A] at k1
    exact k1
theorem sK{f p:List Rat} : ∀(n:Nat) (lo hi:Rat),dH f lo hi→yb p f (n+1) lo hi=none →
  ∃u v,dH f u v∧aK f u v=aK f lo hi∧lo≤u∧v≤hi∧(v-u)*twP n≤hi-lo∧(aQ p u v).1≤0∧0≤(aQ p u v).2
 |0,lo,hi,A,h=>by
  rw[yb] at h
  split at h
  ·cases h
  ·split at h
   ·cases h
   ·exact⟨lo,hi,A,rfl,Rat.le_refl,Rat.le_refl,by rw[hO];grind,by grind,by grind⟩
 |n+1,lo,hi,A,h=>by
  rw[yb] at h
  split at h
  ·cases h
  ·split at h
   ·cases h
   ·obtain⟨a1, -,a3,a4,a5⟩:=dD A
    obtain⟨u,v,k1,k2,k3,k4,k5,k6,k7⟩:=sK n _ _ a1 h
    exact⟨u,v,k1,by rw[k2,nv A],by grind,by grind,by rw[bP];grind,k6,k7⟩
theorem xr{w:Rat}{m n:Nat}(h0:0≤w)(Nx:m≤n)(h:w*twP n≤1):w*twP m≤1:=by
 have:=Rat.mul_le_mul_of_nonneg_left (aS Nx) h0
 grind
theorem dH.PJ{f:List Rat}{u v:Rat}(A:dH f u v):evalL f u=0∨evalL f v=0∨sg (evalL f u) = - sg (evalL f v):=by
 by_cases he:u=v
 ·left
  rcases A.DN with ⟨_,k⟩|⟨k,_⟩
  ·exact k
  ·grind
 ·have bH:u<v:=by have:=A.le;grind
  exact Or.inr (Or.inr (A.xY (A.low bH Rat.le_refl) (A.high bH Rat.le_refl) (Or.inl Rat.le_refl) (Or.inl Rat.le_refl) bH))
theorem Ko{f:List Rat}{lo hi x0:Rat}(F:Sm f)(A:dH f lo hi)(hx:aK f lo hi x0≠0){k:Nat}(hk:1≤k)(Sg:ht x0≤k)(h1:ab lo≤twP 32)(h2:ab hi≤twP 32){N:Nat}(hN:32*(6*(2*k+1)+1)+237≤N):∃s,yb [-x0,1] f (N+33+1) lo hi=some s:=by
 cases hr:yb [-x0,1] f (N+33+1) lo hi with
 |some s=>exact⟨s,rfl⟩
 |none =>
  exfalso
  obtain⟨u,v,k1,k2,k3,k4,k5,k6,k7⟩:=sK (N+33) lo hi A hr
  have hle:=k1.le
  have w0:0≤v-u:=by grind
  have bu:=a8 k3 (show u≤hi by grind) h1 h2
  have bv:=a8 (show lo≤v by grind) k4 h1 h2
  have w1:hi-lo≤twP 33:=by
   have CA:twP 32+twP 32=twP 33:=(bP 32).symm
   have:=ke hi;have:=dY lo;grind
  have m1:=kG w0 w1 k5
  rw[Ov.VZ hle] at k6 k7
  have x1:u≤x0:=by have:u-x0≤0:=k6;grind
  have x2:x0≤v:=by have:0≤v-x0:=k7;grind
  have dk:evalL f x0≠0:=fun e=>by
   by_cases rk:u=v
   ·exact hx (by rw[←k2];unfold aK;rw[if_pos rk];exact dm.2 (by grind))
   ·have bH:u<v:=by grind
    have en:=k1.ends bH
    have a1:u<x0:=by
     by_cases q:u=x0
     ·exact absurd (by rw[q];exact e) en.1
     ·grind
    have a2:x0<v:=by
     by_cases q:x0=v
     ·exact absurd (by rw[←q];exact e) en.2.1
     ·grind
    rcases k1.gJ bH a1 a2 with m|m|m
    ·exact m.2.1 e
    ·exact hx (by rw[←k2];exact m.1)
    ·exact m.2.1 e
  have hh:=fN f x0 k (cL F.f hk) Sg
  have hm:f.length*(2*k+1)≤6*(2*k+1):=Nat.mul_le_mul_right _ F.l
  have Bi:=RR dk
  have XY:=Rat.mul_le_mul_of_nonneg_left (aS (show 32*ht (evalL f x0)≤32*(6*(2*k+1)+1) by omega)) (bJ (evalL f x0))
  have zX:=iE bu bv k1.PJ x1 x2
  have By:=pF (Rat.le_of_lt (bw 32)) Rat.le_refl f (qn F.f)
  have By:=Rat.le_trans By (aS (show 32*1+(32+2)*f.length≤236 by have:=F.l;omega))
  have h5:=Rat.le_trans zX (Rat.mul_le_mul_of_nonneg_right By w0)
  have m2:=xr w0 hN m1
  generalize 32*(6*(2*k+1)+1)=H at *
  have h6:=Rat.mul_le_mul_of_nonneg_right h5 (Rat.le_of_lt (bw H))
  have e7:twP (H+237)=twP 236*twP H+twP 236*twP H:=by
   rw[←dS,←bP]
   congr 1;omega
  rw[e7] at m2
  grind
theorem Kp{f:List Rat}{lo hi x0:Rat}(A:dH f lo hi){s:Int}(h:xv f lo hi [-x0,1] s):s=aK f lo hi x0:=by
 have ev:∀x,evalL [-x0,1] x=x-x0:=fun x=>by show(0*x+1)*x + -x0=_;grind
 refine h.uniq A ?_
 rcases A.three x0 with k|k|k
 ·obtain⟨y,y1,y2⟩:=A.zc k
  obtain⟨n1,n2⟩:=A.Wy
  have hl:=A.qo y2 n2
  refine Or.inr ⟨Or.inl k,y,hi+1,y2,n2,⟨y-x0,by grind,fun x a b => ?_⟩,?_⟩
  ·rw[ev];have:=ke (x-x0);grind
  ·rw[ev,k];rcases bk (y-x0) with q|q|q<;>first|exact q.2|(exfalso;grind)
 ·refine Or.inl ⟨k,?_⟩
  have:Zr f lo hi [-x0,1]:=(A.ma k).2 (by rw[ev];grind)
  exact this
 ·obtain⟨y,y1,y2⟩:=A.Kj k
  obtain⟨n1,n2⟩:=A.Wy
  have hl:=A.qo n1 y2
  refine Or.inr ⟨Or.inr k,lo-1,y,n1,y2,⟨x0-y,by grind,fun x a b => ?_⟩,?_⟩
  ·rw[ev];have:=dY (x-x0);grind
  ·rw[ev,k];rcases bk (lo-1-x0) with q|q|q<;>first|exact q.2|(exfalso;grind)
theorem dH.meet{f:List Rat}{lo hi u v u' v':Rat}(A:dH f lo hi)(h1:aK f lo hi u=1)(h2:aK f lo hi v = -1)(k1:aK f lo hi u'=1)(k2:aK f lo hi v' = -1):∃a b,aK f lo hi a=1∧aK f lo hi b = -1∧u≤a∧u'≤a∧b≤v∧b≤v':=by
 obtain⟨a,a1,a2,a3⟩:∃a,aK f lo hi a=1∧u≤a∧u'≤a:=by
  by_cases h:u≤u'
  ·exact⟨u',k1,h,Rat.le_refl⟩
  ·exact⟨u,h1,Rat.le_refl,by grind⟩
 obtain⟨b,b1,b2,b3⟩:∃b,aK f lo hi b = -1∧b≤v∧b≤v':=by
  by_cases h:v≤v'
  ·exact⟨v,h2,Rat.le_refl,h⟩
  ·exact⟨v',k2,by grind,Rat.le_refl⟩
 exact⟨a,b,a1,b1,a2,a3,b2,b3⟩
structure Wd (p:List Rat):Prop where
 z:aJ p=false
 l:p.length≤9
 ch:Ch 2000 p
theorem Wd.VZ{x0:Rat}(h:ht x0≤900):Wd [-x0,1]:=by
 have hf:Fl 900 [-x0,1]:=fun x hx=>by
  simp at hx
  rcases hx with rfl|rfl
  ·rw[qB];exact h
  ·decide
 exact⟨decide_eq_false (show ¬(1:Rat)=0 by decide),by simp,(Ch.uH hf).mono (by simp)⟩
theorem Wd.fl{p:List Rat}(h:Wd p):Fl 2000 p:=h.ch.fl (by omega)
theorem DD:∀l,l<7→sB (xB 7 2080 (6-l)) l≤1073741824:=by decide +kernel
theorem uZ{p q:List Rat}(P:Wd p)(Q:Sm q)(q0:q≠[]):cH (xB 7 2080 (6-(bF p q).length)) (bF p q).length (bF p q):=by
 have zp:=P.z
 have zq:=Q.z
 have hp:=P.ch
 have hq:=Q.ch
 have lp:=P.l
 have lq:=Q.l
 have D2:=List.length_pos_iff.2 q0
 have zg:=gD p q
 have zF:=kO (q.length+1) p q zp zq
 have g0:bF p q≠[]:=nh zF (tI _ _ _ (Or.inr ⟨q0,by omega⟩))
 have hl:(bF p q).length≤6:=by have:=((gR p q zp zq).2.len zg zq q0).2;omega
 have EA:(bF p q).length=(fa (q.length+1) p q).length:=aY zF
 have hr:Ch 2080 (a7 p q):=(hp.rest hq zq q0).mono (by
  have:(p.length+1-q.length)*(7+1)≤9*(7+1):=Nat.mul_le_mul_right _ (by omega)
  omega)
 have uW:(a7 p q).length<q.length:=(eE p zq q0).1
 have hE:su 7 2080 6 0 1 q (cr (a7 p q)):=⟨hq,hr.dx (by omega) (b8 p q),by omega,by rw[aY (b8 p q)];exact uW,by omega,zq,bO _⟩
 have e1:fa (q.length+1) p q=fa q.length q (cr (a7 p q)):=by
  rw[fa,eL.2 (by omega),cond_false]
 have hc:=mz (a:=7) (b:=2080) (N:=6) (by omega) (by omega) q.length 0 1 q (cr (a7 p q)) hE
 rw[←e1,←EA] at hc
 have h1:1≤xB 7 2080 (6-(bF p q).length):=sw (by omega) (by omega) _
 exact⟨zg,g0,Nat.le_refl _,hc.dx h1 zF,h1,by omega,DD _ (by omega)⟩
theorem V2:4*xB 7 2080 (9+2)+10≤68719476736:=by decide
end Go.Proofs.YtllmkadmohkbfaaGreatDoor.Sym
namespace Go.Proofs.YtllmkadmohkbfaaGreatDoor.Sym.Path
open Go
set_option maxRecDepth 20000
set_option linter.unusedVariables false
namespace bY
theorem e0(a:az)(b:Int)(h1:Cp 83 [ae a.p] (vI b))(h2:b≠0):Cp 24 [a.pv] (vI b) :=
 eD Tryz.func24 90 [1,1] [.q,.h 2 (.pv (vI b)),.q,.t,.q] (y2 h1 (dq h2))
theorem e1(a:az)(b:Int)(c:Rs)(d:Int)(g:Rs)(i:Int)(h1:Cp 83 [ae a.p] (vI b))(h2:b=0)(h3:Cp 84 [ae a.p] (.aB [ae c,vI d]))(h4:Cp 85 [ae a.p,ae c] (.aB [ae g,vI i]))(h5:g.length≠1):Cp 24 [a.pv] (vI 2) :=
 eD Tryz.func24 117 [1,1,1,1,1,1] [.q,.h 2 (.pv (vI b)),.q,.f,.h 2 (.pv (.aB [ae c,vI d])),.h 3 (.pv (.aB [ae g,vI i])),.h 1 (iI (g.length:Int)),.t,.q] (y6 h1 (bZ h2) h3 h4 (au ah.cells g) (nH h5))
theorem e2(a:az)(b:Int)(c:Rs)(d:Int)(g:Rs)(i:Int)(j:Bool)(k:Int)(h1:Cp 83 [ae a.p] (vI b))(h2:b=0)(h3:Cp 84 [ae a.p] (.aB [ae c,vI d]))(h4:Cp 85 [ae a.p,ae c] (.aB [ae g,vI i]))(h5:g.length=1)(h6:Cp 86 [ae a.p,a.rV.pv] (.aB [vB j,vI k]))(h7:j=false):Cp 24 [a.pv] (vI 14) :=
 eD Tryz.func24 138 [1,1,1,1,1,1,1,1] [.q,.h 2 (.pv (vI b)),.q,.f,.h 2 (.pv (.aB [ae c,vI d])),.h 3 (.pv (.aB [ae g,vI i])),.h 1 (iI (g.length:Int)),.f,.h 4 (.pv (.aB [vB j,vI k])),.q,.t,.q] (y8 h1 (bZ h2) h3 h4 (au ah.cells g) (gj h5) h6 (bB h7))
theorem e3(a:az)(b:Int)(c:Rs)(d:Int)(g:Rs)(i:Int)(j:Bool)(k:Int)(h1:Cp 83 [ae a.p] (vI b))(h2:b=0)(h3:Cp 84 [ae a.p] (.aB [ae c,vI d]))(h4:Cp 85 [ae a.p,ae c] (.aB [ae g,vI i]))(h5:g.length=1)(h6:Cp 86 [ae a.p,a.rV.pv] (.aB [vB j,vI k]))(h7:j=true):Cp 24 [a.pv] (vI 0) :=
 eD Tryz.func24 141 [1,1,1,1,1,1,1,1] [.q,.h 2 (.pv (vI b)),.q,.f,.h 2 (.pv (.aB [ae c,vI d])),.h 3 (.pv (.aB [ae g,vI i])),.h 1 (iI (g.length:Int)),.f,.h 4 (.pv (.aB [vB j,vI k])),.q,.f,.q] (y8 h1 (bZ h2) h3 h4 (au ah.cells g) (gj h5) h6 (ay h7))
end bY
namespace iH
theorem e0(x a b of:ah)(h1:Cp 70 [x.pv,(⟨false,[],[]⟩:ah).pv] a.pv)(h2:Cp 88 [a.pv] b.pv)(h3:Cp 89 [vI 1] of.pv):Cp 27 [x.pv] ((⟨[b,of],(⟨a,a⟩:af)⟩:az).pv) :=
 eD Tryz.func27 78 [1,1,1,3] [.q,.h 2 (.pv a.pv),dr 8 1 [.none,(.pv b.pv),(.pv of.pv),(.ja 0 0 (([b,of]:Rs).map ah.cells))]] (y4 h1 h2 h3 (fP bM ([b,of]:Rs)))
end iH
namespace fI
theorem e0(a:az)(b c:ah)(d:Int)(h1:Cp 226 [a.rV.pv] b.pv)(h2:Cp 208 [ae a.p,b.pv] c.pv)(h3:Cp 124 [c.pv] (vI d))(h4:d=0):Cp 142 [a.pv] ((⟨a.p,(⟨b,b⟩:af)⟩:az).pv) :=
 eD Tryz.func142 105 [1,1,1,1] [.q,.h 2 (.pv b.pv),.ba [.o,.o,.o,(.pv c.pv),(.pv (vI d))],.q,.t,.q,.q] (y4 h1 h2 h3 (aF h4))
theorem e1(a:az)(b c:ah)(d:Int)(g:ah)(i:Int)(h1:Cp 226 [a.rV.pv] b.pv)(h2:Cp 208 [ae a.p,b.pv] c.pv)(h3:Cp 124 [c.pv] (vI d))(h4:d≠0)(h5:Cp 208 [ae a.p,a.rV.lo.pv] g.pv)(h6:Cp 124 [g.pv] (vI i))(h7:d=i):Cp 142 [a.pv] ((⟨a.p,(⟨b,a.rV.hi⟩:af)⟩:az).pv) :=
 eD Tryz.func142 114 [1,1,1,1,1,1,1] [.q,.h 2 (.pv b.pv),.ba [.o,.o,.o,(.pv c.pv),(.pv (vI d))],.q,.f,.ba [.o,.o,.o,.o,.o,.o,(.pv g.pv),(.pv (vI i))],.t,.q,.q] (y7 h1 h2 h3 (aN h4) h5 h6 (aF h7))
theorem e2(a:az)(b c:ah)(d:Int)(g:ah)(i:Int)(h1:Cp 226 [a.rV.pv] b.pv)(h2:Cp 208 [ae a.p,b.pv] c.pv)(h3:Cp 124 [c.pv] (vI d))(h4:d≠0)(h5:Cp 208 [ae a.p,a.rV.lo.pv] g.pv)(h6:Cp 124 [g.pv] (vI i))(h7:d≠i):Cp 142 [a.pv] ((⟨a.p,(⟨a.rV.lo,b⟩:af)⟩:az).pv) :=
 eD Tryz.func142 114 [1,1,1,1,1,1,1] [.q,.h 2 (.pv b.pv),.ba [.o,.o,.o,(.pv c.pv),(.pv (vI d))],.q,.f,.ba [.o,.o,.o,.o,.o,.o,(.pv g.pv),(.pv (vI i))],.f,.q,.q] (y7 h1 h2 h3 (aN h4) h5 h6 (aN h7))
end fI
namespace fj
theorem e0(p:Rs)(a:az)(h1:p.length=0):Cp 205 [ae p,a.pv] (vB true) :=
 eD Tryz.func205 84 [1,1] [.q,.h 1 (iI (p.length:Int)),.t,.q] (y2 (au ah.cells p) (aL h1))
theorem e1(p:Rs)(a:az)(b:Int)(c:ah)(d:Int)(h1:p.length≠0)(h2:Cp 69 [a.rV.lo.pv,a.rV.hi.pv] (vI b))(h3:b=0)(h4:Cp 208 [ae p,a.rV.lo.pv] c.pv)(h5:Cp 124 [c.pv] (vI d)):Cp 205 [ae p,a.pv] (vB (d==0)) :=
 eD Tryz.func205 99 [1,1,1,1,1,1] [.q,.h 1 (iI (p.length:Int)),.f,.h 6 (.pv (vI b)),.t,.ba [.o,.o,.o,.o,(.pv c.pv),(.pv (vI d))]] (y6 (au ah.cells p) (aC h1) h2 (aF h3) h4 h5)
theorem e2(p:Rs)(a:az)(b:Int)(c:Rs)(d g i:Int)(h1:p.length≠0)(h2:Cp 69 [a.rV.lo.pv,a.rV.hi.pv] (vI b))(h3:b≠0)(h4:Cp 85 [ae p,ae a.p] (.aB [ae c,vI d]))(h5:Cp 207 [ae c,a.rV.lo.pv,a.rV.hi.pv] (.aB [vI g,vI i])):Cp 205 [ae p,a.pv] (vB (decide (g>0))) :=
 eD Tryz.func205 114 [1,1,1,1,1,1] [.q,.h 1 (iI (p.length:Int)),.f,.h 6 (.pv (vI b)),.f,.h 3 (.pv (.aB [ae c,vI d])),.h 7 (.pv (.aB [vI g,vI i])),.q] (y6 (au ah.cells p) (aC h1) h2 (aN h3) h4 h5)
end fj
namespace dc
@[reducible] def fn:Func:=Tryz.f123
def bK:List gC:=focus [0,2,0,0,2,1,2,0,0] [.code (aA fn)]
def inv1(p:List ah)(dI:az):St:=⟨[(0,(.pv (ae p))),(3,(.ptr 3 0))],[(3,(.lit [(.pv (ae dI.p)),(eB dI.rV.lo.neg),(.pv (ag dI.rV.lo.num)),(.pv (ag dI.rV.lo.den)),(eB dI.rV.hi.neg),(.pv (ag dI.rV.hi.num)),(.pv (ag dI.rV.hi.den))]))]⟩
@[reducible] def aj(p:List ah)(dI:az)(r:PV):Prop:=L bT fn bK (inv1 p dI) r
theorem e0(p:Rs)(a:az)(b:Bool)(h1:Cp 205 [ae p,a.pv] (vB b))(h2:b=true):Cp 123 [ae p,a.pv] (vI 0) :=
 eD Tryz.func123 84 [1,1] [.q,.h 2 (.pv (vB b)),.t,.q] (y2 h1 h2)
theorem e1(p:Rs)(a:az)(b:Bool){r:PV}(h1:Cp 205 [ae p,a.pv] (vB b))(h2:b=false)(hL:aj p a r):Cp 123 [ae p,a.pv] r :=
 eG Tryz.func123 87 [1,1] [.q,.h 2 (.pv (vB b)),.f,.aP [0,3]] (y2 h1 h2) hL
theorem l10(p:Rs)(b:az)(c:af)(d g:Int)(i:Bool)(h1:Cp 209 [ae p,b.rV.pv] (.aB [c.pv,vI d]))(h2:Cp 210 [c.pv] (.aB [vI g,vB i]))(h3:i=true):aj p b (vI g) :=
 lD 123 [1,1,1] [.a,.h 3 (.pv (.aB [c.pv,vI d])),.h 1 (.pv (.aB [vI g,vB i])),.q,.t,.q] (y3 h1 h2 h3)
theorem dw(p:Rs)(b:az)(c:af)(d g:Int)(i:Bool)(j:az){r:PV}(h1:Cp 209 [ae p,b.rV.pv] (.aB [c.pv,vI d]))(h2:Cp 210 [c.pv] (.aB [vI g,vB i]))(h3:i=false)(h4:Cp 142 [b.pv] j.pv)(hL:aj p j r):aj p b r :=
 lG 126 [1,1,1,1] [.a,.h 3 (.pv (.aB [c.pv,vI d])),.h 1 (.pv (.aB [vI g,vB i])),.q,.f,.h 1 (.pv j.pv),.aP [0,3],.drop [5]] (y4 h1 h2 h3 h4) hL
end dc
namespace kH
theorem e0(a:az)(x:ah)(of:az)(b:Int)(h1:Cp 27 [x.pv] of.pv)(h2:Cp 123 [ae of.p,a.pv] (vI b)):Cp 72 [a.pv,x.pv] (vI b) :=
 eD Tryz.func72 72 [1,1] [.q,dr 5 1 [.none,(.pv of.pv),.none,.none,(.pv (vI b))]] (y2 h1 h2)
end kH
namespace dA
@[reducible] def fn:Func:=Tryz.f68
def bK:List gC:=focus [0,2,0,0] [.code (aA fn)]
def inv1(bits:Int)(iu:az):St:=⟨[(1,(eI bits)),(2,(.ptr 2 0)),(4,(.ptr 4 0))],[(2,(.lit [(.pv (ae iu.p)),(eB iu.rV.lo.neg),(.pv (ag iu.rV.lo.num)),(.pv (ag iu.rV.lo.den)),(eB iu.rV.hi.neg),(.pv (ag iu.rV.hi.num)),(.pv (ag iu.rV.hi.den))])),(4,(.lit [(eB false),(.pv (.list [])),(.pv (.list [])),(eB false),(.pv (.list [])),(.pv (.list []))]))]⟩
@[reducible] def aj(bits:Int)(iu:az)(r:PV):Prop:=L bT fn bK (inv1 bits iu) r
theorem e0 (a : az) (b : Int) {r : PV}  (hL : aj b a r) : Cp 68 [a.pv, vI b] r :=
 eG Tryz.func68 72 [] [.q,.aP [1,2,4],.ord [2,4]] True.intro hL
theorem l10(b:Int)(c:az)(d:ah)(g:Int)(i j:ah)(k:Int)(h1:Cp 140 [c.rV.lo.pv,vI b] (.aB [d.pv,vI g]))(h2:Cp 71 [vI b] i.pv)(h3:Cp 70 [d.pv,i.pv] j.pv)(h4:Cp 72 [c.pv,d.pv] (vI k))(h5:k=0):aj b c ((⟨d,d⟩:af).pv) :=
 lD 114 [1,1,1,1,1] [.a,.h 4 (.pv (.aB [d.pv,vI g])),.h 1 (.pv i.pv),.h 2 (.pv j.pv),.h 2 (.pv (vI k)),.t,.q] (y5 h1 h2 h3 h4 (aF h5))
theorem dw(b:Int)(c:az)(d:ah)(g:Int)(i j:ah)(k l:Int)(h1:Cp 140 [c.rV.lo.pv,vI b] (.aB [d.pv,vI g]))(h2:Cp 71 [vI b] i.pv)(h3:Cp 70 [d.pv,i.pv] j.pv)(h4:Cp 72 [c.pv,d.pv] (vI k))(h5:k≠0)(h6:Cp 72 [c.pv,j.pv] (vI l))(h7:l=0):aj b c ((⟨j,j⟩:af).pv) :=
 lD 138 [1,1,1,1,1,1,1] [.a,.h 4 (.pv (.aB [d.pv,vI g])),.h 1 (.pv i.pv),.h 2 (.pv j.pv),.h 2 (.pv (vI k)),.f,.h 2 (.pv (vI l)),.q,.t,.q] (y7 h1 h2 h3 h4 (aN h5) h6 (aF h7))
theorem ji(b:Int)(c:az)(d:ah)(g:Int)(i j:ah)(k l:Int)(h1:Cp 140 [c.rV.lo.pv,vI b] (.aB [d.pv,vI g]))(h2:Cp 71 [vI b] i.pv)(h3:Cp 70 [d.pv,i.pv] j.pv)(h4:Cp 72 [c.pv,d.pv] (vI k))(h5:k≠0)(h6:Cp 72 [c.pv,j.pv] (vI l))(h7:l≠0)(h8:l=(-1)):aj b c ((⟨d,j⟩:af).pv) :=
 lD 147 [1,1,1,1,1,1,1,1] [.a,.h 4 (.pv (.aB [d.pv,vI g])),.h 1 (.pv i.pv),.h 2 (.pv j.pv),.h 2 (.pv (vI k)),.f,.h 2 (.pv (vI l)),.q,.f,.q,.t,.q] (y8 h1 h2 h3 h4 (aN h5) h6 (aN h7) (aF h8))
theorem oK(b:Int)(c:az)(d:ah)(g:Int)(i j:ah)(k l:Int)(m:ah)(n:Int){r:PV}(h1:Cp 140 [c.rV.lo.pv,vI b] (.aB [d.pv,vI g]))(h2:Cp 71 [vI b] i.pv)(h3:Cp 70 [d.pv,i.pv] j.pv)(h4:Cp 72 [c.pv,d.pv] (vI k))(h5:k≠0)(h6:Cp 72 [c.pv,j.pv] (vI l))(h7:l≠0)(h8:l≠(-1))(h9:Cp 141 [c.rV.pv] m.pv)(dM:Cp 69 [m.pv,i.pv] (vI n))(gy:n≤0)(hL:aj b (⟨c.p,(⟨j,c.rV.hi⟩:af)⟩:az) r):aj b c r :=
 lG 162 [1,1,1,1,1,1,1,1,1,1,1] [.a,.h 4 (.pv (.aB [d.pv,vI g])),.h 1 (.pv i.pv),.h 2 (.pv j.pv),.h 2 (.pv (vI k)),.f,.h 2 (.pv (vI l)),.q,.f,.q,.f,dr 6 0 [.none,.none,(.pv m.pv),.none,(.pv (vI n))],.t,.q,.aP [1,2,4],.drop [8,7,5]] (FO h1 h2 h3 h4 (aN h5) h6 (aN h7) (aN h8) h9 dM (jv gy)) hL
theorem AS(b:Int)(c:az)(d:ah)(g:Int)(i j:ah)(k l:Int)(m:ah)(n:Int)(o:az){r:PV}(h1:Cp 140 [c.rV.lo.pv,vI b] (.aB [d.pv,vI g]))(h2:Cp 71 [vI b] i.pv)(h3:Cp 70 [d.pv,i.pv] j.pv)(h4:Cp 72 [c.pv,d.pv] (vI k))(h5:k≠0)(h6:Cp 72 [c.pv,j.pv] (vI l))(h7:l≠0)(h8:l≠(-1))(h9:Cp 141 [c.rV.pv] m.pv)(dM:Cp 69 [m.pv,i.pv] (vI n))(gy:0<n)(j8:Cp 142 [c.pv] o.pv)(hL:aj b o r):aj b c r :=
 lG 162 [1,1,1,1,1,1,1,1,1,1,1,1] [.a,.h 4 (.pv (.aB [d.pv,vI g])),.h 1 (.pv i.pv),.h 2 (.pv j.pv),.h 2 (.pv (vI k)),.f,.h 2 (.pv (vI l)),.q,.f,.q,.f,dr 6 0 [.none,.none,(.pv m.pv),.none,(.pv (vI n))],.f,.h 1 (.pv o.pv),.aP [1,2,4],.drop [8,7,5]] (Pp h1 h2 h3 h4 (aN h5) h6 (aN h7) (aN h8) h9 dM (kL gy) j8) hL
end dA
namespace ll
@[reducible] def fn:Func:=Tryz.f71
def bK:List gC:=focus [0,2,0,2,0,2,0,0,2,0,0] [.code (aA fn)]
def inv1(bits:Int)(uE:Nat)(dI X0:ah):St:=⟨[(2,(.ptr 2 0)),(3,(.ptr 3 0)),(4,(.ptr 4 0)),(7,(eI bits)),(8,(eI (uE:Int)))],[(2,(.lit [(eB false),(.pv (.list [])),(.pv (.list []))])),(3,(.lit [(eB dI.neg),(.pv (ag dI.num)),(.pv (ag dI.den))])),(4,(.lit [(eB X0.neg),(.pv (ag X0.num)),(.pv (ag X0.den))]))]⟩
@[reducible] def aj(bits:Int)(uE:Nat)(dI X0:ah)(r:PV):Prop:=L bT fn bK (inv1 bits uE dI X0) r
theorem e0(a:Int)(of b:ah){r:PV}(h1:Cp 89 [vI 1] of.pv)(h2:Cp 89 [vI 2] b.pv)(hL:aj a 0 of b r):Cp 71 [vI a] r :=
 eG Tryz.func71 93 [1,1] [.q,.h 0 (.pv of.pv),.h 0 (.pv b.pv),.q,.aP [2,3,4,7,8],.ord [2,3,4]] (y2 h1 h2) hL
theorem l10(b:Int)(c:Nat)(d g i:ah)(j:Int){r:PV}(h1:(c:Int)<b)(h2:Cp 148 [d.pv,g.pv] (.aB [i.pv,vI j]))(h3:(c+1)<9223372036854775808)(hL:aj b (c+1) i g r):aj b c d g r :=
 lG 126 [1,1,1] [.a,.q,.t,.h 2 (.pv (.aB [i.pv,vI j])),.h 0 (iI (((c+1):Nat):Int)),.aP [2,3,4,7,8]] (y3 (dJ h1) h2 (aR h3)) hL
theorem dw(b:Int)(c:Nat)(d g:ah)(h1:b≤(c:Int)):aj b c d g d.pv :=
 lD 126 [1] [.a,.q,.f,.q] (y1 (bQ h1))
end ll
namespace eP
@[reducible] def fn:Func:=Tryz.f16
def bK:List gC:=focus [0,2,0,2,0,0,2,1,2,0,0,2,1,2,0,0,2,0,0] [.code (aA fn)]
def inv1(V6:Nat)(a b:az):St:=⟨[(2,(.ptr 2 0)),(3,(.ptr 3 0)),(4,(.ptr 4 0)),(24,(eI (V6:Int)))],[(2,(.lit [(.pv (ae a.p)),(eB a.rV.lo.neg),(.pv (ag a.rV.lo.num)),(.pv (ag a.rV.lo.den)),(eB a.rV.hi.neg),(.pv (ag a.rV.hi.num)),(.pv (ag a.rV.hi.den))])),(3,(.lit [(.pv (ae b.p)),(eB b.rV.lo.neg),(.pv (ag b.rV.lo.num)),(.pv (ag b.rV.lo.den)),(eB b.rV.hi.neg),(.pv (ag b.rV.hi.num)),(.pv (ag b.rV.hi.den))])),(4,(.lit [(eB false),(.pv (.list [])),(.pv (.list []))]))]⟩
@[reducible] def aj(V6:Nat)(a b:az)(r:PV):Prop:=L bT fn bK (inv1 V6 a b) r
theorem l10(c:Nat)(a b:az)(d:af)(g:Int)(i j:ah)(k:Int)(h1:c<65)(h2:Cp 68 [a.pv,(vI (c:Int))] d.pv)(h3:Cp 69 [d.lo.pv,d.hi.pv] (vI g))(h4:g=0)(h5:Cp 71 [(vI (c:Int))] i.pv)(h6:Cp 70 [d.hi.pv,i.pv] j.pv)(h7:Cp 72 [b.pv,j.pv] (vI k))(h8:0<k):aj c a b (.aB [j.pv,vI 0]) :=
 lD 189 [1,1,1,1,1,1,1,1] [.a,.q,.t,.q,.h 2 (.pv d.pv),.q,.h 4 (.pv (vI g)),.t,dr 5 1 [.none,.none,.none,(.pv i.pv),(.pv j.pv)],.h 2 (.pv (vI k)),.t,.q] (y8 (ak h1) h2 h3 (aF h4) h5 h6 h7 (dJ h8))
theorem dw(c:Nat)(a b:az)(d:af)(g:Int)(i j:ah)(k:Int){r:PV}(h1:c<65)(h2:Cp 68 [a.pv,(vI (c:Int))] d.pv)(h3:Cp 69 [d.lo.pv,d.hi.pv] (vI g))(h4:g=0)(h5:Cp 71 [(vI (c:Int))] i.pv)(h6:Cp 70 [d.hi.pv,i.pv] j.pv)(h7:Cp 72 [b.pv,j.pv] (vI k))(h8:k≤0)(h9:(c+1)<9223372036854775808)(hL:aj (c+1) a b r):aj c a b r :=
 lG 192 [1,1,1,1,1,1,1,1,1] [.a,.q,.t,.q,.h 2 (.pv d.pv),.q,.h 4 (.pv (vI g)),.t,dr 5 1 [.none,.none,.none,(.pv i.pv),(.pv j.pv)],.h 2 (.pv (vI k)),.f,.h 0 (iI (((c+1):Nat):Int)),.aP [2,3,4,24],.drop [10,9]] (y9 (ak h1) h2 h3 (aF h4) h5 h6 h7 (bQ h8) (aR h9)) hL
theorem ji(c:Nat)(a b:az)(d:af)(g i:Int)(h1:c<65)(h2:Cp 68 [a.pv,(vI (c:Int))] d.pv)(h3:Cp 69 [d.lo.pv,d.hi.pv] (vI g))(h4:g≠0)(h5:Cp 72 [b.pv,d.hi.pv] (vI i))(h6:0<i):aj c a b (.aB [d.hi.pv,vI 0]) :=
 lD 189 [1,1,1,1,1,1] [.a,.q,.t,.q,.h 2 (.pv d.pv),.q,.h 4 (.pv (vI g)),.f,.h 2 (.pv (vI i)),.t,.q] (y6 (ak h1) h2 h3 (aN h4) h5 (dJ h6))
theorem oK(c:Nat)(a b:az)(d:af)(g i:Int){r:PV}(h1:c<65)(h2:Cp 68 [a.pv,(vI (c:Int))] d.pv)(h3:Cp 69 [d.lo.pv,d.hi.pv] (vI g))(h4:g≠0)(h5:Cp 72 [b.pv,d.hi.pv] (vI i))(h6:i≤0)(h7:(c+1)<9223372036854775808)(hL:aj (c+1) a b r):aj c a b r :=
 lG 192 [1,1,1,1,1,1,1] [.a,.q,.t,.q,.h 2 (.pv d.pv),.q,.h 4 (.pv (vI g)),.f,.h 2 (.pv (vI i)),.f,.h 0 (iI (((c+1):Nat):Int)),.aP [2,3,4,24],.drop [10,9]] (y7 (ak h1) h2 h3 (aN h4) h5 (bQ h6) (aR h7)) hL
theorem AS(c:Nat)(a b:az)(h1:65≤c):aj c a b (.aB [(⟨false,[],[]⟩:ah).pv,vI 4]) :=
 lD 150 [1] [.a,.q,.f,.q] (y1 (ax h1))
end eP
end Go.Proofs.YtllmkadmohkbfaaGreatDoor.Sym.Path
namespace Go.Proofs.YtllmkadmohkbfaaGreatDoor.Sym
open Go Path dE
set_option linter.unusedVariables false
structure Sh (a:az):Prop where
 l:a.p.length≤6
 fp:iN 1 a.p
 g:gx 1 a.rV
def fw(a:az):Int:=if iO a.p≠0 then iO a.p else if (bF (aT a.p) (ar (aT a.p))).length≠1 then 2 else if fX (aT a.p) a.rV then 0 else 14
theorem Sh.sm{a:az}(h:Sh a)(hc:iO a.p=0):Sm (aT a.p)∧aT a.p≠[]∧pq (aT a.p)=ae a.p∧a.p.length≠0∧kN a.p=0:=by
 unfold iO at hc
 by_cases h0:kN a.p=0
 ·rw[if_pos h0] at hc
  have hn:a.p.length≠0:=fun e=>by rw[if_pos e] at hc;exact absurd hc (by decide)
  have pl:(aT a.p).length=a.p.length:=by unfold aT;rw[List.length_map]
  have hl:=h.l
  exact⟨⟨vD h0,by omega,qg h.fp (by omega)⟩,fun e=>hn (by rw[←pl,e];rfl),by unfold pq;rw[sk (nd h0)],hn,h0⟩
 ·rw[if_neg h0] at hc;exact absurd hc h0
theorem pO{k m:Nat}{p:List ah}(h:iN k p)(hk:k≤m):iN m p:=fun a ha=>⟨Nat.le_trans (h a ha).1 hk,Nat.le_trans (h a ha).2 hk⟩
theorem sA{k m:Nat}{r:af}(h:gx k r)(hk:k≤m):gx m r:=⟨⟨Nat.le_trans h.1.1 hk,Nat.le_trans h.1.2 hk⟩,⟨Nat.le_trans h.2.1 hk,Nat.le_trans h.2.2 hk⟩⟩
theorem AD:4*xB 8 70 (6+2)+10≤68719476736:=by decide
theorem hX.Check{a:az}(h:Sh a):Cp 23 [a.pv] (bC (l6 (fw a))):=by
 have hc:=uh.Check a.p (pO h.fp (by omega))
 unfold fw
 by_cases he:iO a.p=0
 ·rw[if_neg (by omega)]
  obtain⟨S,p0,ep,hn,h0⟩:=h.sm he
  rw[h0] at hc
  have hl:=S.l
  have hd:=PQ.iS (aT a.p) S.z (by omega) S.f (by omega)
  have cd:Ch 8 (ar (aT a.p)):=S.ch.derive (by omega)
  have Tl:=nB (aT a.p)
  have hg:=PQ.Gcd (h:=7) (b:=8) (c:=70) (L:=6) (by omega) (by omega) (by omega) (by omega) (by omega) AD (aT a.p) (ar (aT a.p)) S.z (bc _) S.l (by omega) S.ch cd
  rw[ep] at hd hg
  by_cases o9:(bF (aT a.p) (ar (aT a.p))).length≠1
  ·rw[if_pos o9]
   exact df.e1 a _ _ hc hn hd hg (by rw[bf];exact o9)
  ·rw[if_neg o9]
   have hi:=o7.kr (mB S p0) a.rV (sA h.g (by omega))
   rw[ep] at hi
   cases hb:fX (aT a.p) a.rV with
   |true =>
    rw[hb] at hi
    exact df.e3 a _ _ _ hc hn hd hg (by rw[bf];omega) hi rfl
   |false =>
    rw[hb] at hi
    exact df.e2 a _ _ _ hc hn hd hg (by rw[bf];omega) hi rfl
 ·rw[if_pos he,gw he]
  unfold iO at he ⊢
  by_cases h0:kN a.p=0
  ·rw[if_pos h0] at he ⊢
   rw[h0] at hc
   have hn:a.p.length=0:=Classical.byContradiction fun e=>he (if_neg e)
   rw[if_pos hn]
   exact df.e0 a hc hn
  ·rw[if_neg h0]
   rw[gw h0] at hc
   exact df.e7 a _ hc
theorem x9.Check{a:az}(h:Sh a):Cp 24 [a.pv] (vI (fw a)):=by
 have hc:=uN.bad (p:=a.p) (pO h.fp (by omega))
 unfold fw
 by_cases he:iO a.p=0
 ·rw[if_neg (by omega)]
  obtain⟨S,p0,ep,hn,h0⟩:=h.sm he
  have hl:=S.l
  have hd:=RQ.iS (aT a.p) S.z (by omega) S.f (by omega)
  have cd:Ch 8 (ar (aT a.p)):=S.ch.derive (by omega)
  have Tl:=nB (aT a.p)
  have hg:=RQ.Gcd (h:=7) (b:=8) (c:=70) (L:=6) (by omega) (by omega) (by omega) (by omega) (by omega) AD (aT a.p) (ar (aT a.p)) S.z (bc _) S.l (by omega) S.ch cd
  rw[ep] at hd hg
  by_cases o9:(bF (aT a.p) (ar (aT a.p))).length≠1
  ·rw[if_pos o9]
   exact bY.e1 a _ _ _ _ _ hc he hd hg (by rw[bf];exact o9)
  ·rw[if_neg o9]
   have hi:=uN.kr (mB S p0) a.rV (sA h.g (by omega))
   rw[ep] at hi
   cases hb:fX (aT a.p) a.rV with
   |true =>
    rw[hb] at hi
    exact bY.e3 a _ _ _ _ _ _ _ hc he hd hg (by rw[bf];omega) hi rfl
   |false =>
    rw[hb] at hi
    exact bY.e2 a _ _ _ _ _ _ _ hc he hd hg (by rw[bf];omega) hi rfl
 ·rw[if_pos he]
  exact bY.e0 a _ hc he
structure Acc (a:az) (f:List Rat) (lo hi:Rat):Prop where
 e:a=bW f lo hi
 sm:Sm f
 lj:dH f lo hi
 h1:ht lo≤1
 h2:ht hi≤1
theorem Sh.acc{a:az}(h:Sh a)(hc:fw a=0):Acc a (aT a.p) (loG a.rV) (hiG a.rV):=by
 unfold fw at hc
 have he:iO a.p=0:=Classical.byContradiction fun e=>by rw[if_pos e] at hc;exact e hc
 rw[if_neg (by omega)] at hc
 have o9:(bF (aT a.p) (ar (aT a.p))).length=1:=Classical.byContradiction fun e=>by rw[if_pos e] at hc;exact absurd hc (by decide)
 rw[if_neg (by omega)] at hc
 have hb:fX (aT a.p) a.rV=true:=Classical.byContradiction fun e=>by rw[if_neg e] at hc;exact absurd hc (by decide)
 obtain⟨S,p0,ep,hn,h0⟩:=h.sm he
 unfold fX at hb
 rw[Bool.and_eq_true] at hb
 obtain⟨v1,v2,v3⟩:=jT hb.1
 have DK:loG a.rV=a.rV.lo.val:=by unfold loG;rw[hb.1,cond_true]
 have Ot:hiG a.rV=a.rV.hi.val:=by unfold hiG;rw[hb.1,cond_true]
 refine⟨?_,S,rp S.z p0 (tq S.z (bc _) o9) (by rw[DK,Ot];exact v3) hb.2,by rw[DK];exact eQ h.g.1.1 h.g.1.2 (by omega),by rw[Ot];exact eQ h.g.2.1 h.g.2.2 (by omega)⟩
 unfold bW
 rw[mH hb.1,sk (nd h0)]
theorem Acc.bd{a:az}{f:List Rat}{lo hi:Rat}(h:Acc a f lo hi):ab lo≤twP 32∧ab hi≤twP 32:=by
 have b1:=sv lo
 have b2:=sv hi
 exact⟨Rat.le_trans b1 (aS (by have:=h.h1;omega)),Rat.le_trans b2 (aS (by have:=h.h2;omega))⟩
theorem vQ{f g:List Rat}{lo hi lo' hi':Rat}{a b:az}(A:Acc a f lo hi)(B:Acc b g lo' hi'){N:Nat}(hN:1952809344+18373318+437644+2≤N):∃s,tv f g (N+237+33+1) lo hi lo' hi'=some s:=by
 unfold tv
 cases he:hX.AB f lo hi g lo' hi' with
 |true=>exact⟨0,rfl⟩
 |false =>
  rw[cond_false]
  have dk:¬xw f lo hi g lo' hi':=fun e=>by rw[(hX.nZ A.lj B.lj).2 e] at he;cases he
  obtain⟨r,hr⟩:=rn A.sm B.sm A.lj B.lj dk A.bd.1 A.bd.2 B.bd.1 B.bd.2 hN
  rw[hr]
  exact⟨_,rfl⟩
theorem zj{N:Nat}(hN:N=2000000000):1952809344+18373318+437644+2≤N∧(N+237+33)/32≤70000000:=by omega
theorem hX.Cf{f g:List Rat}{lo hi lo' hi':Rat}{a b:az}(A:Acc a f lo hi)(B:Acc b g lo' hi'):∃s,Cp 96 [a.pv,b.pv] (.aB [vI s,.aq])∧((s=0∧xw f lo hi g lo' hi')∨(s = -1∧xZ f lo hi g lo' hi')∨(s=1∧xZ g lo' hi' f lo hi)):=by
 obtain⟨N,hN⟩:∃N:Nat,N=2000000000:=⟨_,rfl⟩
 obtain⟨n1,n2⟩:=zj hN
 obtain⟨s,hs⟩:=vQ A B n1
 have s1:=oN hi lo
 have s2:=oN hi' lo'
 have a1:=A.h1
 have a2:=A.h2
 have b1:=B.h1
 have b2:=B.h2
 refine⟨s,?_,tx A.lj B.lj hs⟩
 rw[A.e,B.e]
 exact hX.cmp (K:=N+237+33) A.sm B.sm A.lj B.lj (by omega) (by omega) hs
theorem hX.jN{a b:az}(ha:Sh a)(hb:Sh b)(h1:fw a=0)(h2:fw b=0):∃s,Cp 35 [a.pv,b.pv] (.aB [vI s,.aq])∧((s=0∧xw (aT a.p) (loG a.rV) (hiG a.rV) (aT b.p) (loG b.rV) (hiG b.rV))∨(s = -1∧xZ (aT a.p) (loG a.rV) (hiG a.rV) (aT b.p) (loG b.rV) (hiG b.rV))∨(s=1∧xZ (aT b.p) (loG b.rV) (hiG b.rV) (aT a.p) (loG a.rV) (hiG a.rV))):=by
 obtain⟨s,hs,hm⟩:=hX.Cf (ha.acc h1) (hb.acc h2)
 have c1:=hX.Check ha
 have c2:=hX.Check hb
 rw[h1] at c1
 rw[h2] at c2
 exact⟨s,dL.e0 a b (dL.l10 0 a b a (by omega) rfl c1 (by omega) (dL.l10 1 a b b (by omega) rfl c2 (by omega) (dL.ji 2 a b s none (by omega) hs))),hm⟩
theorem hX.H3{a:az}(ha:Sh a)(h1:fw a=0){x:Rat}(hx:ht x≤1073741824):Cp 30 [a.pv,(aE x).pv] (.aB [vI (aK (aT a.p) (loG a.rV) (hiG a.rV) x),.aq]):=by
 have A:=ha.acc h1
 have c1:=hX.Check ha
 rw[h1] at c1
 have c2:=hX.compare (A.sm.ok (lo:=loG a.rV) (hi:=hiG a.rV) (by have:=A.h1;omega) (by have:=A.h2;omega)) A.lj.le hx
 rw[←A.e] at c2
 exact qd.e0 a (aE x) _ none c1 c2
theorem Wd.NN{p:List Rat}(P:Wd p):kN (p.map aE)=0:=cE P.z (by have:=P.l;omega)
end Go.Proofs.YtllmkadmohkbfaaGreatDoor.Sym
namespace Go.Proofs.YtllmkadmohkbfaaGreatDoor.Sym.Path
open Go
set_option maxRecDepth 20000
set_option linter.unusedVariables false
namespace cG
@[reducible] def fn:Func:=Tryz.f59
def bK:List gC:=focus [0,2,0,2,0,0,2,0,0] [.code (aA fn)]
def inv1(iC:List ah)(l:List Int)(uE:Nat):St:=⟨[(3,(.row 16 0 iC.length 3)),(6,(.pv (bq cJ l))),(7,(eI (l.length:Int))),(8,(eI (uE:Int)))],[(16,(.pure ((iC:List ah).map ah.cells).flatten))]⟩
@[reducible] def aj(iC:List ah)(l:List Int)(uE:Nat)(r:PV):Prop:=L bT fn bK (inv1 iC l uE) r
theorem e0 (l : List Int) {r : PV}  (hL : aj [] l 0 r) : Cp 59 [bq cJ l] r :=
 eG Tryz.func59 87 [1] [.q,.h 0 .nil,.ju 3 16 3,.h 1 (iI (l.length:Int)),.aP [3,6,7,8]] (y1 (au cJ l)) hL
theorem l10(b:Rs)(l:List Int)(c:Nat)(v:Int)(of:ah){r:PV}(h1:c<l.length)(h2:l[c]? = some v)(h3:Cp 89 [vI v] of.pv)(h4:((b++[of]):Rs).length*56≤140737488355328)(h5:(c+1)<9223372036854775808)(hL:aj (b++[of]) l (c+1) r):aj b l c r :=
 lG 126 [1,3,1,6,1] [.a,.q,.t,.h 0 (.row c (cJ v)),.ba [.o,.o,(.pv of.pv),.o,(.app ((b++[of]):Rs).length (((b++[of]):Rs).map ah.cells).flatten)],.h 0 (iI (((c+1):Nat):Int)),.aP [3,6,7,8],.drop [15]] (y5 (ak h1) (bU cJ (Eq.refl (((c:Nat):Int):Int)) h2) h3 (gm bM (b:Rs) ([of]:Rs) 56 (Eq.refl (b:Rs).length) (Eq.refl ([of]:Rs).length) h4 rfl) (aR h5)) hL
theorem dw(b:Rs)(l:List Int)(c:Nat)(h1:l.length≤c):aj b l c (ae b) :=
 lD 120 [1,3] [.a,.q,.f,.q,.iZ 2 ((b:Rs).map ah.cells)] (y2 (ax h1) (eR bM (b:Rs) (Eq.refl (b:Rs).length)))
end cG
namespace eV
theorem e2(of:Rs)(a:List az)(b:Rs)(c:List az)(d g i:Rs)(v v1:az)(j:Int)(k:af)(l:ah)(m n:ByteArray)(p:Rs)(s:Bool)(h1:Cp 59 [(bq cJ [(-2),0,1])] (ae of))(h2:Cp 21 [ae of] (.aB [bq az.cells a,.aq]))(h3:Cp 59 [(bq cJ [(-3),0,1])] (ae b))(h4:Cp 21 [ae b] (.aB [bq az.cells c,.aq]))(h5:Cp 59 [(bq cJ [2])] (ae d))(h6:Cp 59 [(bq cJ [1,1])] (ae g))(h7:Cp 38 [(⟨[d]⟩:cD).pv,ae g] (.aB [ae i,.aq]))(h8:a.length=2)(h9:c.length=2)(dM:a[1]? = some v)(gy:c[1]? = some v1)(j8:Cp 35 [v.pv,v1.pv] (.aB [vI j,.aq]))(nK:Cp 13 [v.pv,vI 1] (.aB [k.pv,.aq]))(l9:Cp 14 [v.pv,v1.pv] (.aB [l.pv,.aq]))(om:j=(-1))(sR:Cp 60 [k.pv] (.str m))(o5:m=(ByteArray.mk #[49,46,46,51,47,50]))(pT:Cp 61 [l.pv] (.str n))(oL:n=(ByteArray.mk #[51,47,50]))(xm:Cp 59 [(bq cJ [(-1),(-2),1])] (ae p))(BY:Cp 42 [ae i,ae p] (vB s)):Cp 12 [] (vB s) :=
 eD Tryz.func12 123 [3,1,1,3,1,1,3,1,3,3,1,1,1,1,1,1,1,1,1,1,1,1,1,1,1,1,3,3,1,3,1,3,3,1,1,1,1,1,1,1,1,1,1,1,1,1,1,1,1,1,1,1,3,1,1,1,1,1] [.q,.ba [(.ja 0 0 (([(-2),0,1]:List Int).map cJ)),(.pv (ae of)),(.pv (.aB [bq az.cells a,.aq]))],.ba [(.ja 0 0 (([(-3),0,1]:List Int).map cJ)),(.pv (ae b)),(.pv (.aB [bq az.cells c,.aq]))],.ba [(.ja 0 0 (([2]:List Int).map cJ)),(.pv (ae d)),(.ja 0 0 (([d]:List (Rs)).map (an ah.cells))),.o,(.ja 0 0 (([1,1]:List Int).map cJ)),(.pv (ae g)),(.pv (.aB [ae i,.aq]))],.ba [.o,.o,.o,.o,.o,.o,.o,.o,.o,.o,.o,.o,(iI (a.length:Int)),.o,.o,.o,.o,(iI (c.length:Int)),.o,(.dec false)],.f,dr 11 1 [.none,(.row 1 (az.cells v)),.none,.none,(.row 1 (az.cells v1)),.none,(.pv (.aB [vI j,.aq]))],.ba [.o,(.row 1 (az.cells v)),.o,(.pv (.aB [k.pv,.aq]))],dr 12 1 [.none,(.row 1 (az.cells v)),.none,.none,(.row 1 (az.cells v1)),.none,(.pv (.aB [l.pv,.aq]))],.ba [.o,.o,.o,.o,.o,.o,.o,.o,.o,.o,.o,.o,.o,.o,.o,.o,(.pv (.str m)),.o,(.dec true),.o,.o,(.pv (.str n)),.o,(.dec true),.o,.o,(.ja 0 0 (([(-1),(-2),1]:List Int).map cJ)),(.pv (ae p)),(.pv (vB s)),(.dec true)]] (cj (fP mS ([(-2),0,1]:List Int)) (cj h1 (cj h2 (cj (fP mS ([(-3),0,1]:List Int)) (cj h3 (cj h4 (cj (fP mS ([2]:List Int)) (cj h5 (cj (fP (og ah.cells) ([d]:List (Rs))) (cj (fP mS ([1,1]:List Int)) (cj h6 (cj h7 (cj (Eq.refl false) (cj (Eq.refl false) (cj (Eq.refl false) (cj (Eq.refl false) (cj (Eq.refl false) (cj (Eq.refl false) (Pr (au az.cells a) (Eq.refl false) (gj h8) (gj h8) (au az.cells c) (gj h8) (gj h8) (gj h9) (bU az.cells (Eq.refl (1:Int)) dM) (bU az.cells (Eq.refl (1:Int)) gy) j8 (bU az.cells (Eq.refl (1:Int)) dM) nK (bU az.cells (Eq.refl (1:Int)) dM) (bU az.cells (Eq.refl (1:Int)) gy) l9 (Eq.refl true) (Eq.refl true) (Eq.refl true) (Eq.refl true) (Eq.refl true) (Eq.refl true) (aF om) (aF om) sR (aF om) (aF om) (ia o5) (ia o5) pT (ia o5) (ia o5) (ia oL) (ia oL) (fP mS ([(-1),(-2),1]:List Int)) (ia oL) xm (ia oL) BY (ia oL))))))))))))))))))))
end eV
namespace bg
@[reducible] def fn:Func:=Tryz.f20
def bK:List gC:=focus [0,2,0,0,2,1,2,0,0,2,0,0] [.code (aA fn)]
def inv1(l:List ah)(vr:Nat):St:=⟨[(8,(.pv (ae l))),(9,(eI (l.length:Int))),(10,(eI (vr:Int)))],[]⟩
@[reducible] def aj(l:List ah)(vr:Nat)(r:PV):Prop:=L bT fn bK (inv1 l vr) r
theorem e0(l:Rs)(h1:6<l.length):Cp 20 [ae l] (vB false) :=
 eD Tryz.func20 84 [1,1] [.q,.h 1 (iI (l.length:Int)),.t,.q] (y2 (au ah.cells l) (ak h1))
theorem e1(l:Rs){r:PV}(h1:l.length≤6)(hL:aj l 0 r):Cp 20 [ae l] r :=
 eG Tryz.func20 96 [1,1,1] [.q,.h 1 (iI (l.length:Int)),.f,.h 1 (iI (l.length:Int)),.aP [8,9,10]] (y3 (au ah.cells l) (ax h1) (au ah.cells l)) hL
theorem l10(l:Rs)(b:Nat)(v:ah)(c:Bool)(h1:b<l.length)(h2:l[b]? = some v)(h3:Cp 74 [v.pv,(vW (1000:UInt32)),(vW (1000:UInt32))] (vB c))(h4:c=false):aj l b (vB false) :=
 lD 141 [1,3,1,1] [.a,.q,.t,.h 0 (.row b (ah.cells v)),.h 1 (.pv (vB c)),.t,.q] (y4 (ak h1) (bU ah.cells (Eq.refl (((b:Nat):Int):Int)) h2) h3 (bB h4))
theorem dw(l:Rs)(b:Nat)(v:ah)(c:Bool){r:PV}(h1:b<l.length)(h2:l[b]? = some v)(h3:Cp 74 [v.pv,(vW (1000:UInt32)),(vW (1000:UInt32))] (vB c))(h4:c=true)(h5:(b+1)<9223372036854775808)(hL:aj l (b+1) r):aj l b r :=
 lG 144 [1,3,1,1,1] [.a,.q,.t,.h 0 (.row b (ah.cells v)),.h 1 (.pv (vB c)),.f,.h 0 (iI (((b+1):Nat):Int)),.aP [8,9,10],.drop [4]] (y5 (ak h1) (bU ah.cells (Eq.refl (((b:Nat):Int):Int)) h2) h3 (ay h4) (aR h5)) hL
theorem ji(l:Rs)(b:Nat)(h1:l.length≤b):aj l b (vB true) :=
 lD 129 [1] [.a,.q,.f,.q] (y1 (ax h1))
end bg
namespace bh
@[reducible] def fn:Func:=Tryz.f11
def bK:List gC:=focus [0,2,0,0,2,0,0] [.code (aA fn)]
def inv1(l:List az)(BX:Nat):St:=⟨[(5,(.pv (bq az.cells l))),(6,(eI (l.length:Int))),(7,(eI (BX:Int)))],[]⟩
@[reducible] def aj(l:List az)(BX:Nat)(r:PV):Prop:=L bT fn bK (inv1 l BX) r
theorem e0 (l : List az) {r : PV}  (hL : aj l 0 r) : Cp 11 [bq az.cells l] r :=
 eG Tryz.func11 81 [1] [.q,.h 1 (iI (l.length:Int)),.aP [5,6,7]] (y1 (au az.cells l)) hL
theorem l10(l:List az)(b:Nat)(v:az)(c:Bool)(h1:b<l.length)(h2:l[b]? = some v)(h3:Cp 20 [ae v.p] (vB c))(h4:c=false):aj l b (vB false) :=
 lD 126 [1,3,1,1,1,1,1,1,1,1,1,1,1] [.a,.q,.t,.h 0 (.row b (az.cells v)),.ba [.o,.o,(.pv (vB c)),.o,.o,.skip,.skip,.skip,.skip,.skip,.skip,.skip,.skip,.skip,(.dec true)],.a,.q] (Fz (ak h1) (bU az.cells (Eq.refl (((b:Nat):Int):Int)) h2) h3 (bB h4) (bB h4) (bB h4) (bB h4) (bB h4) (bB h4) (bB h4) (bB h4) (bB h4) (bB h4))
theorem dw(l:List az)(b:Nat)(v:az)(c d:Bool)(h1:b<l.length)(h2:l[b]? = some v)(h3:Cp 20 [ae v.p] (vB c))(h4:c=true)(h5:Cp 20 [(ae [v.rV.lo,v.rV.hi])] (vB d))(h6:d=false):aj l b (vB false) :=
 lD 126 [1,3,1,1,1,1,1,1,1,1,3,1,1,1,1,1] [.a,.q,.t,.h 0 (.row b (az.cells v)),.ba [.o,.o,(.pv (vB c)),.o,.o,.o,.o,.o,.o,.o,.o,(.ja 0 0 (([v.rV.lo,v.rV.hi]:Rs).map ah.cells)),(.pv (vB d)),.o,(.dec false)],.t,.q] (Cz (ak h1) (bU az.cells (Eq.refl (((b:Nat):Int):Int)) h2) h3 (ay h4) (ay h4) (ay h4) (ay h4) (ay h4) (ay h4) (ay h4) (fP bM ([v.rV.lo,v.rV.hi]:Rs)) (ay h4) h5 (ay h4) (ay h4) (bB h6))
theorem ji(l:List az)(b:Nat)(v:az)(c d:Bool){r:PV}(h1:b<l.length)(h2:l[b]? = some v)(h3:Cp 20 [ae v.p] (vB c))(h4:c=true)(h5:Cp 20 [(ae [v.rV.lo,v.rV.hi])] (vB d))(h6:d=true)(h7:(b+1)<9223372036854775808)(hL:aj l (b+1) r):aj l b r :=
 lG 129 [1,3,1,1,1,1,1,1,1,1,3,1,1,1,1,1,1] [.a,.q,.t,.h 0 (.row b (az.cells v)),.ba [.o,.o,(.pv (vB c)),.o,.o,.o,.o,.o,.o,.o,.o,(.ja 0 0 (([v.rV.lo,v.rV.hi]:Rs).map ah.cells)),(.pv (vB d)),.o,(.dec false)],.f,.h 0 (iI (((b+1):Nat):Int)),.aP [5,6,7],.drop [4]] (Pq (ak h1) (bU az.cells (Eq.refl (((b:Nat):Int):Int)) h2) h3 (ay h4) (ay h4) (ay h4) (ay h4) (ay h4) (ay h4) (ay h4) (fP bM ([v.rV.lo,v.rV.hi]:Rs)) (ay h4) h5 (ay h4) (ay h4) (ay h6) (aR h7)) hL
theorem oK(l:List az)(b:Nat)(h1:l.length≤b):aj l b (vB true) :=
 lD 114 [1] [.a,.q,.f,.q] (y1 (ax h1))
end bh
namespace bl
theorem e0(x:ah)(a b:UInt32)(h1:x.num.length<2)(h2:x.den.length<2)(h3:x.num.length=0)(h4:x.den.length=0):Cp 74 [x.pv,vW a,vW b] (vB true) :=
 eD Tryz.func74 72 [1,1,1,1,1,1,1,1,1,1,1,1,1,1,1,1,1,1,1,1,1,1,1,1,1,1,1,1,1,1,1,1,1,1,1,1] [.q,.ba [.o,.o,(iI (x.num.length:Int)),.o,.o,.o,.o,(iI (x.den.length:Int)),.o,(.dec true),.o,.o,.o,(iI (x.num.length:Int)),.o,.o,.skip,.skip,.skip,.skip,.skip,.skip,(.dec true),(.dec true),.o,.o,.o,(iI (x.den.length:Int)),.o,.o,.skip,.skip,.skip,.skip,.skip,.skip,(.dec true)]] (Xo (au ai x.num) (ak h1) (ak h1) (ak h1) (au ai x.den) (ak h1) (ak h1) (ak h2) (ak h2) (ak h2) (au ai x.num) (ak h2) (ak h2) (aL h3) (aL h3) (aL h3) (aL h3) (aL h3) (aL h3) (ak h2) (aL h3) (ak h2) (Eq.refl true) (Eq.refl true) (Eq.refl true) (au ai x.den) (Eq.refl true) (Eq.refl true) (aL h4) (aL h4) (aL h4) (aL h4) (aL h4) (aL h4) (Eq.refl true) (aL h4))
theorem e1(x:ah)(a b v:UInt32)(h1:x.num.length<2)(h2:x.den.length<2)(h3:x.num.length=0)(h4:x.den.length≠0)(h5:x.den[0]? = some v):Cp 74 [x.pv,vW a,vW b] (vB (decide ((v.toNat:Int)≤(b.toNat:Int)))) :=
 eD Tryz.func74 72 [1,1,1,1,1,1,1,1,1,1,1,1,1,1,1,1,1,1,1,1,1,1,1,1,1,1,1,1,1,1,1,3,1,1,1,1,1] [.q,.ba [.o,.o,(iI (x.num.length:Int)),.o,.o,.o,.o,(iI (x.den.length:Int)),.o,(.dec true),.o,.o,.o,(iI (x.num.length:Int)),.o,.o,.skip,.skip,.skip,.skip,.skip,.skip,(.dec true),(.dec true),.o,.o,.o,(iI (x.den.length:Int)),.o,.o,.o,.o,(.row 0 (ai v)),.o,.o,.o,(.dec false)]] (Xp (au ai x.num) (ak h1) (ak h1) (ak h1) (au ai x.den) (ak h1) (ak h1) (ak h2) (ak h2) (ak h2) (au ai x.num) (ak h2) (ak h2) (aL h3) (aL h3) (aL h3) (aL h3) (aL h3) (aL h3) (ak h2) (aL h3) (ak h2) (Eq.refl true) (Eq.refl true) (Eq.refl true) (au ai x.den) (Eq.refl true) (Eq.refl true) (aC h4) (aC h4) (aC h4) (bU ai (Eq.refl (0:Int)) h5) (aC h4) (aC h4) (aC h4) (Eq.refl true) (aC h4))
theorem e2(x:ah)(a b v:UInt32)(h1:x.num.length<2)(h2:x.den.length<2)(h3:x.num.length≠0)(h4:x.num[0]? = some v)(h5:v.toNat≤a.toNat)(h6:x.den.length=0):Cp 74 [x.pv,vW a,vW b] (vB true) :=
 eD Tryz.func74 72 [1,1,1,1,1,1,1,1,1,1,1,1,1,1,1,1,3,1,1,1,1,1,1,1,1,1,1,1,1,1,1,1,1,1,1,1,1,1] [.q,.ba [.o,.o,(iI (x.num.length:Int)),.o,.o,.o,.o,(iI (x.den.length:Int)),.o,(.dec true),.o,.o,.o,(iI (x.num.length:Int)),.o,.o,.o,.o,(.row 0 (ai v)),.o,.o,.o,(.dec false),(.dec true),.o,.o,.o,(iI (x.den.length:Int)),.o,.o,.skip,.skip,.skip,.skip,.skip,.skip,(.dec true),(.dec true)]] (Yk (au ai x.num) (ak h1) (ak h1) (ak h1) (au ai x.den) (ak h1) (ak h1) (ak h2) (ak h2) (ak h2) (au ai x.num) (ak h2) (ak h2) (aC h3) (aC h3) (aC h3) (bU ai (Eq.refl (0:Int)) h4) (aC h3) (aC h3) (aC h3) (ak h2) (aC h3) (ak h2) (cP h5) (cP h5) (cP h5) (au ai x.den) (cP h5) (cP h5) (aL h6) (aL h6) (aL h6) (aL h6) (aL h6) (aL h6) (cP h5) (aL h6) (cP h5))
theorem e3(x:ah)(a b v v1:UInt32)(h1:x.num.length<2)(h2:x.den.length<2)(h3:x.num.length≠0)(h4:x.num[0]? = some v)(h5:v.toNat≤a.toNat)(h6:x.den.length≠0)(h7:x.den[0]? = some v1):Cp 74 [x.pv,vW a,vW b] (vB (decide ((v1.toNat:Int)≤(b.toNat:Int)))) :=
 eD Tryz.func74 72 [1,1,1,1,1,1,1,1,1,1,1,1,1,1,1,1,3,1,1,1,1,1,1,1,1,1,1,1,1,1,1,1,3,1,1,1,1,1,1] [.q,.ba [.o,.o,(iI (x.num.length:Int)),.o,.o,.o,.o,(iI (x.den.length:Int)),.o,(.dec true),.o,.o,.o,(iI (x.num.length:Int)),.o,.o,.o,.o,(.row 0 (ai v)),.o,.o,.o,(.dec false),(.dec true),.o,.o,.o,(iI (x.den.length:Int)),.o,.o,.o,.o,(.row 0 (ai v1)),.o,.o,.o,(.dec false),(.dec true)]] (Yl (au ai x.num) (ak h1) (ak h1) (ak h1) (au ai x.den) (ak h1) (ak h1) (ak h2) (ak h2) (ak h2) (au ai x.num) (ak h2) (ak h2) (aC h3) (aC h3) (aC h3) (bU ai (Eq.refl (0:Int)) h4) (aC h3) (aC h3) (aC h3) (ak h2) (aC h3) (ak h2) (cP h5) (cP h5) (cP h5) (au ai x.den) (cP h5) (cP h5) (aC h6) (aC h6) (aC h6) (bU ai (Eq.refl (0:Int)) h7) (aC h6) (aC h6) (aC h6) (cP h5) (aC h6) (cP h5))
theorem e4(x:ah)(a b v:UInt32)(h1:x.num.length<2)(h2:x.den.length<2)(h3:x.num.length≠0)(h4:x.num[0]? = some v)(h5:a.toNat<v.toNat):Cp 74 [x.pv,vW a,vW b] (vB false) :=
 eD Tryz.func74 72 [1,1,1,1,1,1,1,1,1,1,1,1,1,1,1,1,3,1,1,1,1,1,1,1,1,1,1,1,1,1] [.q,.ba [.o,.o,(iI (x.num.length:Int)),.o,.o,.o,.o,(iI (x.den.length:Int)),.o,(.dec true),.o,.o,.o,(iI (x.num.length:Int)),.o,.o,.o,.o,(.row 0 (ai v)),.o,.o,.o,(.dec false),(.dec true),.o,.skip,.skip,.skip,.skip,.skip,.skip,.skip,.skip,.skip,.skip,.skip,.skip,(.dec false)]] (Xn (au ai x.num) (ak h1) (ak h1) (ak h1) (au ai x.den) (ak h1) (ak h1) (ak h2) (ak h2) (ak h2) (au ai x.num) (ak h2) (ak h2) (aC h3) (aC h3) (aC h3) (bU ai (Eq.refl (0:Int)) h4) (aC h3) (aC h3) (aC h3) (ak h2) (aC h3) (ak h2) (cN h5) (cN h5) (cN h5) (cN h5) (cN h5) (cN h5) (cN h5))
theorem e5(x:ah)(a b:UInt32)(h1:x.num.length<2)(h2:2≤x.den.length):Cp 74 [x.pv,vW a,vW b] (vB false) :=
 eD Tryz.func74 72 [1,1,1,1,1,1,1,1,1,1,1,1,1,1,1,1,1,1,1,1] [.q,.ba [.o,.o,(iI (x.num.length:Int)),.o,.o,.o,.o,(iI (x.den.length:Int)),.o,(.dec true),.o,.skip,.skip,.skip,.skip,.skip,.skip,.skip,.skip,.skip,.skip,.skip,.skip,(.dec false),.o,.skip,.skip,.skip,.skip,.skip,.skip,.skip,.skip,.skip,.skip,.skip,.skip]] (S4 (au ai x.num) (ak h1) (ak h1) (ak h1) (au ai x.den) (ak h1) (ak h1) (ax h2) (ax h2) (ax h2) (ax h2) (ax h2) (ax h2) (ax h2) (Eq.refl false) (Eq.refl false) (Eq.refl false) (Eq.refl false) (Eq.refl false) (Eq.refl false))
theorem e6(x:ah)(a b:UInt32)(h1:2≤x.num.length):Cp 74 [x.pv,vW a,vW b] (vB false) :=
 eD Tryz.func74 72 [1,1,1,1,1,1,1,1,1,1,1,1,1,1,1,1,1,1] [.q,.ba [.o,.o,(iI (x.num.length:Int)),.o,.o,.skip,.skip,.skip,.skip,(.dec false),.o,.skip,.skip,.skip,.skip,.skip,.skip,.skip,.skip,.skip,.skip,.skip,.skip,.o,.o,.skip,.skip,.skip,.skip,.skip,.skip,.skip,.skip,.skip,.skip,.skip,.skip]] (PU (au ai x.num) (ax h1) (ax h1) (ax h1) (ax h1) (ax h1) (Eq.refl false) (Eq.refl false) (Eq.refl false) (Eq.refl false) (Eq.refl false) (Eq.refl false) (Eq.refl false) (Eq.refl false) (Eq.refl false) (Eq.refl false) (Eq.refl false) (Eq.refl false))
end bl
namespace dB
@[reducible] def fn:Func:=Tryz.f29
def bK:List gC:=focus [0,2,0,0,2,0,0] [.code (aA fn)]
def inv1(l:List az)(BX:Nat):St:=⟨[(5,(.pv (bq az.cells l))),(6,(eI (l.length:Int))),(7,(eI (BX:Int)))],[]⟩
@[reducible] def aj(l:List az)(BX:Nat)(r:PV):Prop:=L bT fn bK (inv1 l BX) r
theorem e0 (l : List az) {r : PV}  (hL : aj l 0 r) : Cp 29 [bq az.cells l] r :=
 eG Tryz.func29 81 [1] [.q,.h 1 (iI (l.length:Int)),.aP [5,6,7]] (y1 (au az.cells l)) hL
theorem l10(l:List az)(b:Nat)(v:az)(c:Bool)(h1:b<l.length)(h2:l[b]? = some v)(h3:Cp 11 [(bq az.cells [v])] (vB c))(h4:c=false):aj l b (vB false) :=
 lD 126 [1,3,3,1,1,1,1,1] [.a,.q,.t,.h 0 (.row b (az.cells v)),.ba [.o,(.ja 0 0 (([v]:List az).map az.cells)),(.pv (vB c)),.o,.o,.skip,.skip,.skip,(.dec true)],.a,.q] (y8 (ak h1) (bU az.cells (Eq.refl (((b:Nat):Int):Int)) h2) (fP fY ([v]:List az)) h3 (bB h4) (bB h4) (bB h4) (bB h4))
theorem dw(l:List az)(b:Nat)(v:az)(c:Bool)(d:Int)(h1:b<l.length)(h2:l[b]? = some v)(h3:Cp 11 [(bq az.cells [v])] (vB c))(h4:c=true)(h5:Cp 24 [v.pv] (vI d))(h6:d≠0):aj l b (vB false) :=
 lD 126 [1,3,3,1,1,1,1,1,1,1] [.a,.q,.t,.h 0 (.row b (az.cells v)),.ba [.o,(.ja 0 0 (([v]:List az).map az.cells)),(.pv (vB c)),.o,.o,.o,(.pv (vI d)),.o,(.dec false)],.t,.q] (Iu (ak h1) (bU az.cells (Eq.refl (((b:Nat):Int):Int)) h2) (fP fY ([v]:List az)) h3 (ay h4) (ay h4) h5 (ay h4) (ay h4) (dq h6))
theorem ji(l:List az)(b:Nat)(v:az)(c:Bool)(d:Int){r:PV}(h1:b<l.length)(h2:l[b]? = some v)(h3:Cp 11 [(bq az.cells [v])] (vB c))(h4:c=true)(h5:Cp 24 [v.pv] (vI d))(h6:d=0)(h7:(b+1)<9223372036854775808)(hL:aj l (b+1) r):aj l b r :=
 lG 129 [1,3,3,1,1,1,1,1,1,1,1] [.a,.q,.t,.h 0 (.row b (az.cells v)),.ba [.o,(.ja 0 0 (([v]:List az).map az.cells)),(.pv (vB c)),.o,.o,.o,(.pv (vI d)),.o,(.dec false)],.f,.h 0 (iI (((b+1):Nat):Int)),.aP [5,6,7],.drop [4]] (FO (ak h1) (bU az.cells (Eq.refl (((b:Nat):Int):Int)) h2) (fP fY ([v]:List az)) h3 (ay h4) (ay h4) h5 (ay h4) (ay h4) (bZ h6) (aR h7)) hL
theorem oK(l:List az)(b:Nat)(h1:l.length≤b):aj l b (vB true) :=
 lD 114 [1] [.a,.q,.f,.q] (y1 (ax h1))
end dB
end Go.Proofs.YtllmkadmohkbfaaGreatDoor.Sym.Path
namespace Go.Proofs.YtllmkadmohkbfaaGreatDoor.Sym
open Go Path dE
set_option linter.unusedVariables false
namespace zI
theorem of(l:List Int)(h:∀n∈l,aw n)(hl:l.length≤1000):Cp 59 [bq cJ l] (pq (l.map (fun n=>((n:Int):Rat)))):=by
 have loop:∀d t:Nat,l.length-t=d→t≤l.length→cG.aj (((l.take t).map (fun n=>((n:Int):Rat))).map aE) l t (pq (l.map (fun n=>((n:Int):Rat)))):=by
  intro d
  induction d with
  |zero =>
   intro t hd ht
   have:t=l.length:=by omega
   subst this
   rw[List.take_length]
   exact cG.dw _ _ _ (Nat.le_refl _)
  |succ d ih =>
   intro t hd ht
   obtain⟨v,hv⟩:∃v,l[t]? = some v:=⟨_,List.getElem?_eq_getElem (by omega)⟩
   have:=ih (t+1) (by omega) (by omega)
   rw[List.take_add_one,hv] at this
   refine cG.l10 _ l t v (aE ((v:Int):Rat)) (by omega) hv (tj.Of v (h v (List.mem_of_getElem? hv))) ?_ (by omega) ?_
   ·rw[List.length_append,List.length_map,List.length_map,List.length_take,List.length_singleton];omega
   ·simpa using this
 exact cG.e0 l (loop _ 0 rfl (by omega))
def Lo(a:ah):Prop:=a.num.length≤1∧a.den.length≤1∧nat a.num≤1000∧nat a.den≤1000
theorem sC{l:Words}{v:UInt32}(hl:l.length<2)(h:l[0]? = some v):nat l=v.toNat:=by
 match l,hl,h with
 |[w],_,h=>simp at h;subst h;simp[nat]
theorem lX{l:Words}(h:l.length=0):nat l=0:=by rw[List.eq_nil_of_length_eq_zero h];rfl
theorem low(x:ah):∃b,Cp 74 [x.pv,vW 1000,vW 1000] (vB b)∧(b=true→Lo x):=by
 have e:(1000:UInt32).toNat=1000:=rfl
 by_cases h1:x.num.length<2
 ·by_cases h2:x.den.length<2
  ·have den:nat x.num≤1000→∀v u:UInt32,x.den[0]? = some u→decide (u.toNat≤(1000:UInt32).toNat)=true→Lo x:=fun h v u hu hd=>⟨by omega,by omega,h,by rw[sC h2 hu];have:=of_decide_eq_true hd;omega⟩
   by_cases h3:x.num.length=0
   ·have hn:nat x.num≤1000:=by rw[lX h3];omega
    by_cases h4:x.den.length=0
    ·exact⟨_,bl.e0 x _ _ h1 h2 h3 h4,fun _=>⟨by omega,by omega,hn,by rw[lX h4];omega⟩⟩
    ·obtain⟨v,hv⟩:∃v,x.den[0]? = some v:=⟨_,List.getElem?_eq_getElem (by omega)⟩
     exact⟨_,bl.e1 x _ _ v h1 h2 h3 h4 hv,fun h=>den hn v v hv (by have h':=of_decide_eq_true h;exact decide_eq_true (by omega))⟩
   ·obtain⟨v,hv⟩:∃v,x.num[0]? = some v:=⟨_,List.getElem?_eq_getElem (by omega)⟩
    by_cases h5:v.toNat≤(1000:UInt32).toNat
    ·have hn:nat x.num≤1000:=by rw[sC h1 hv];omega
     by_cases h4:x.den.length=0
     ·exact⟨_,bl.e2 x _ _ v h1 h2 h3 hv h5 h4,fun _=>⟨by omega,by omega,hn,by rw[lX h4];omega⟩⟩
     ·obtain⟨u,hu⟩:∃v,x.den[0]? = some v:=⟨_,List.getElem?_eq_getElem (by omega)⟩
      exact⟨_,bl.e3 x _ _ v u h1 h2 h3 hv h5 h4 hu,fun h=>den hn v u hu (by have h':=of_decide_eq_true h;exact decide_eq_true (by omega))⟩
    ·exact⟨_,bl.e4 x _ _ v h1 h2 h3 hv (by omega),fun h=>by cases h⟩
  ·exact⟨_,bl.e5 x _ _ h1 (by omega),fun h=>by cases h⟩
 ·exact⟨_,bl.e6 x _ _ (by omega),fun h=>by cases h⟩
theorem short(l:List ah):∃b,Cp 20 [ae l] (vB b)∧(b=true→l.length≤6∧∀a∈l,Lo a):=by
 by_cases h6:l.length≤6
 ·have loop:∀d t:Nat,l.length-t=d→∃b,bg.aj l t (vB b)∧(b=true→∀a∈l.drop t,Lo a):=by
   intro d
   induction d with
   |zero=>intro t hd;exact⟨true,bg.ji l t (by omega),fun _=>by rw[List.drop_of_length_le (by omega)];intro a ha;cases ha⟩
   |succ d ih =>
    intro t hd
    obtain⟨v,hv⟩:∃v,l[t]? = some v:=⟨_,List.getElem?_eq_getElem (by omega)⟩
    obtain⟨b1,h1,h2⟩:=low v
    cases b1 with
    |false=>exact⟨false,bg.l10 l t v _ (by omega) hv h1 rfl,fun h=>by cases h⟩
    |true =>
     obtain⟨b,g1,g2⟩:=ih (t+1) (by omega)
     refine⟨b,bg.dw l t v _ (by omega) hv h1 rfl (by omega) g1,fun h a ha => ?_⟩
     rw[drop_cons hv] at ha
     rcases List.mem_cons.1 ha with rfl|ha
     ·exact h2 rfl
     ·exact g2 h a ha
  obtain⟨b,h1,h2⟩:=loop _ 0 rfl
  rw[List.drop_zero] at h2
  exact⟨b,bg.e1 l h6 h1,fun h=>⟨h6,h2 h⟩⟩
 ·exact⟨false,bg.e0 l (by omega),fun h=>by cases h⟩
theorem small(l:List az)(hl:l.length≤1000):∃b,Cp 11 [bq az.cells l] (vB b)∧(b=true→∀a∈l,Sh a∧(∀x∈a.p,Lo x)∧Lo a.rV.lo∧Lo a.rV.hi):=by
 have loop:∀d t:Nat,l.length-t=d→∃b,bh.aj l t (vB b)∧(b=true→∀a∈l.drop t,Sh a∧(∀x∈a.p,Lo x)∧Lo a.rV.lo∧Lo a.rV.hi):=by
  intro d
  induction d with
  |zero=>intro t hd;exact⟨true,bh.oK l t (by omega),fun _=>by rw[List.drop_of_length_le (by omega)];intro a ha;cases ha⟩
  |succ d ih =>
   intro t hd
   obtain⟨v,hv⟩:∃v,l[t]? = some v:=⟨_,List.getElem?_eq_getElem (by omega)⟩
   obtain⟨b1,h1,h2⟩:=short v.p
   cases b1 with
   |false=>exact⟨false,bh.l10 l t v _ (by omega) hv h1 rfl,fun h=>by cases h⟩
   |true =>
    obtain⟨b2,k1,k2⟩:=short [v.rV.lo,v.rV.hi]
    cases b2 with
    |false=>exact⟨false,bh.dw l t v _ _ (by omega) hv h1 rfl k1 rfl,fun h=>by cases h⟩
    |true =>
     obtain⟨b,g1,g2⟩:=ih (t+1) (by omega)
     refine⟨b,bh.ji l t v _ _ (by omega) hv h1 rfl k1 rfl (by omega) g1,fun h a ha => ?_⟩
     rw[drop_cons hv] at ha
     rcases List.mem_cons.1 ha with rfl|ha
     ·obtain⟨p1,p2⟩:=h2 rfl
      obtain⟨q1,q2⟩:=k2 rfl
      have lo:=q2 a.rV.lo (by simp)
      have hi:=q2 a.rV.hi (by simp)
      exact⟨⟨p1,fun x hx=>⟨(p2 x hx).1,(p2 x hx).2.1⟩,⟨lo.1,lo.2.1⟩,⟨hi.1,hi.2.1⟩⟩,p2,lo,hi⟩
     ·exact g2 h a ha
 obtain⟨b,h1,h2⟩:=loop _ 0 rfl
 rw[List.drop_zero] at h2
 exact⟨b,bh.e0 l h1,h2⟩
theorem valid(l:List az)(hl:l.length≤1000):∃b,Cp 29 [bq az.cells l] (vB b)∧(b=true→∀a∈l,Sh a∧fw a=0):=by
 have loop:∀d t:Nat,l.length-t=d→∃b,dB.aj l t (vB b)∧(b=true→∀a∈l.drop t,Sh a∧fw a=0):=by
  intro d
  induction d with
  |zero=>intro t hd;exact⟨true,dB.oK l t (by omega),fun _=>by rw[List.drop_of_length_le (by omega)];intro a ha;cases ha⟩
  |succ d ih =>
   intro t hd
   obtain⟨v,hv⟩:∃v,l[t]? = some v:=⟨_,List.getElem?_eq_getElem (by omega)⟩
   obtain⟨b1,h1,h2⟩:=small [v] (by simp)
   cases b1 with
   |false=>exact⟨false,dB.l10 l t v _ (by omega) hv h1 rfl,fun h=>by cases h⟩
   |true =>
    have hs:=(h2 rfl v (by simp)).1
    have hc:=x9.Check hs
    by_cases h0:fw v=0
    ·obtain⟨b,g1,g2⟩:=ih (t+1) (by omega)
     refine⟨b,dB.ji l t v _ _ (by omega) hv h1 rfl hc h0 (by omega) g1,fun h a ha => ?_⟩
     rw[drop_cons hv] at ha
     rcases List.mem_cons.1 ha with rfl|ha
     ·exact⟨hs,h0⟩
     ·exact g2 h a ha
    ·exact⟨false,dB.dw l t v _ _ (by omega) hv h1 rfl hc h0,fun h=>by cases h⟩
 obtain⟨b,h1,h2⟩:=loop _ 0 rfl
 rw[List.drop_zero] at h2
 exact⟨b,dB.e0 l h1,h2⟩
end zI
def Nv(v:Rat):az:=bW [-v,1] v v
namespace Cb
theorem yc(a b:Rat)(h:a≤b)(h1:ht a≤68719476736)(h2:ht b≤68719476736)(he:dz a 0=dz b 0):Cp 210 [(cY a b).pv] (.aB [vI (dz a 0),vB true]) :=
 lO.e1 (cY a b) (cY a b) _ _ (uN.given a b h1 h2 h) (QR.Sign a (by omega)) (QR.Sign b (by omega)) he
theorem H2(a b:Rat)(h:a≤b)(h1:ht a≤68719476736)(h2:ht b≤68719476736)(he:dz a 0≠dz b 0):Cp 210 [(cY a b).pv] (.aB [vI 0,vB false]) :=
 lO.e0 (cY a b) (cY a b) _ _ (uN.given a b h1 h2 h) (QR.Sign a (by omega)) (QR.Sign b (by omega)) he
end Cb
theorem Cv{f p:List Rat}{lo hi:Rat}(A:dH f lo hi)(h1:¬0<(aQ p lo hi).1)(h2:¬(aQ p lo hi).2<0)(he:dz (aQ p lo hi).1 0=dz (aQ p lo hi).2 0):Zr f lo hi p:=by
 have z1:(aQ p lo hi).1=0∧(aQ p lo hi).2=0:=by
  rcases cX (aQ p lo hi).1 0 with q|q|q<;>rcases cX (aQ p lo hi).2 0 with r|r|r
  ·exact absurd r.1 h2
  ·omega
  ·omega
  ·omega
  ·exact⟨q.1,r.1⟩
  ·omega
  ·exact absurd q.1 h1
  ·exact absurd q.1 h1
  ·exact absurd q.1 h1
 have hz:∀x,lo≤x→x≤hi→evalL p x=0:=fun x a b=>by
  obtain⟨o1,o2⟩:=Ov.val a b p
  rw[z1.1] at o1
  rw[z1.2] at o2
  grind
 by_cases bH:lo=hi
 ·exact(A.ma (qT bH)).2 (hz lo Rat.le_refl A.le)
 ·have hl:lo<hi:=by have:=A.le;grind
  intro u v hu hv ha
  obtain⟨a,b,a1,b1,a2,a3,b2,b3⟩:=A.meet hu hv (A.low hl Rat.le_refl) (A.high hl Rat.le_refl)
  have dK:=A.qo a1 b1
  exact ha.ne a2 (by grind) (hz a a3 (by grind))
namespace x9
theorem Of{v:Rat}(h:ht v≤68719476736):Cp 27 [(aE v).pv] (Nv v).pv :=
 iH.e0 (aE v) (aE v) (aE (-v)) (aE 1) (QR.mG v h) (QR.Neg v h) (tj.Of 1 ⟨by decide,by decide⟩)
theorem half{f:List Rat}{lo hi:Rat}(F:Sm f)(A:dH f lo hi)(h1:ht lo≤1073741824)(h2:ht hi≤1073741824)(h3:ht (midQ lo hi)≤1073741824):Cp 142 [(bW f lo hi).pv] (bW f (c9 f lo hi).1 (c9 f lo hi).2).pv:=by
 have hle:=A.le
 have cm:=uN.FE lo hi h1 h2 hle
 change Cp 226 [(cY lo hi).pv] (aE (midQ lo hi)).pv at cm
 obtain⟨a1,a2⟩:=uN.Mf f (midQ lo hi) (cL F.f (by omega)) (by have:=F.l;omega) h3
 obtain⟨b1,b2⟩:=uN.Mf f lo (cL F.f (by omega)) (by have:=F.l;omega) h1
 have hm:=qj lo hi
 unfold c9
 by_cases he:lo=hi
 ·rw[if_pos he]
  have em:midQ lo hi=lo:=by rw[←he] at hm ⊢;grind
  have ez:evalL f (midQ lo hi)=0:=by
   rw[em]
   rcases A.DN with ⟨_,k⟩|⟨k,_⟩
   ·exact k
   ·grind
  have:=fI.e0 (bW f lo hi) _ _ _ cm a1 a2 (eO.2 ez)
  have e2:(⟨(bW f lo hi).p,⟨aE (midQ lo hi),aE (midQ lo hi)⟩⟩:az)=bW f lo hi:=by rw[em];unfold bW cY;rw[←he]
  rwa[e2] at this
 ·rw[if_neg he]
  have bH:lo<hi:=by grind
  have ec:aK f lo hi (midQ lo hi)=sg (evalL f (midQ lo hi))*sg (evalL f lo):=by
   unfold aK
   rw[if_neg he,if_neg (by grind),if_neg (by grind)]
  have nl:=rC (A.ends bH).1
  rw[ec]
  by_cases k0:sg (evalL f (midQ lo hi))=0
  ·rw[if_pos (by rw[k0];exact Int.zero_mul _)]
   exact fI.e0 (bW f lo hi) _ _ _ cm a1 a2 k0
  ·have n0:sg (evalL f (midQ lo hi))=1∨sg (evalL f (midQ lo hi)) = -1:=by rcases hJ (evalL f (midQ lo hi)) with q|q|q<;>simp[q] at k0 ⊢
   by_cases k1:sg (evalL f (midQ lo hi))=sg (evalL f lo)
   ·rw[if_neg (by rcases n0 with q|q<;>rcases nl with r|r<;>rw[q,r]<;>decide),if_pos (by rcases n0 with q|q<;>rcases nl with r|r<;>rw[q,r]<;>first|decide|(exfalso;omega))]
    exact fI.e1 (bW f lo hi) _ _ _ _ _ cm a1 a2 k0 b1 b2 k1
   ·rw[if_neg (by rcases n0 with q|q<;>rcases nl with r|r<;>rw[q,r]<;>decide),if_neg (by rcases n0 with q|q<;>rcases nl with r|r<;>rw[q,r]<;>first|decide|(exfalso;omega))]
    exact fI.e2 (bW f lo hi) _ _ _ _ _ cm a1 a2 k0 b1 b2 k1
theorem L0{f:List Rat}{lo hi a w:Rat}{k:Nat}(F:Sm f)(A:dH f lo hi)(D:Dy a w k lo hi)(hh:ht a+ht w+(k+1)/32+4≤1073741824):Cp 142 [(bW f lo hi).pv] (bW f (c9 f lo hi).1 (c9 f lo hi).2).pv:=by
 obtain⟨h1,h2⟩:=D.ht
 by_cases he:lo=hi
 ·have hm:=qj lo hi
  have em:midQ lo hi=lo:=by rw[←he] at hm ⊢;grind
  exact half F A (by omega) (by omega) (by rw[em];omega)
 ·exact half F A (by omega) (by omega) (by have:=D.gJ he;omega)
theorem Kq{p f:List Rat}{lo hi:Rat}(P:Wd p)(F:Sm f)(f0:f≠[])(hle:lo≤hi)(h1:ht lo≤1073741824)(h2:ht hi≤1073741824):Cp 205 [pq p,(bW f lo hi).pv] (vB (Dx p f lo hi)):=by
 unfold Dx
 by_cases h0:p.length=0
 ·rw[if_pos h0]
  exact fj.e0 _ (bW f lo hi) (by rw[bf];exact h0)
 ·rw[if_neg h0]
  have c1:=QR.jN lo hi (by omega) (by omega)
  by_cases he:lo=hi
  ·rw[if_pos he]
   obtain⟨a1,a2⟩:=uN.Mf p lo (cL P.fl (by omega)) (by have:=P.l;omega) h1
   have:=fj.e1 _ (bW f lo hi) _ _ _ (by rw[bf];exact h0) c1 (dm.2 he) a1 a2
   rw[iG (q:=evalL p lo=0) eO] at this
   exact this
  ·rw[if_neg he]
   have fi:=uZ P F f0
   have hg:=RQ.Gcd (h:=2000) (b:=7) (c:=2080) (L:=9) (by omega) (by omega) (by omega) (by omega) (by omega) V2 p f P.z F.z P.l (by have:=F.l;omega) P.ch F.ch
   have cn:=uN.Count fi lo hi hle h1 h2
   exact fj.e2 _ (bW f lo hi) _ _ _ _ _ (by rw[bf];exact h0) c1 (cR he) hg cn
theorem pR{p f:List Rat}{a w:Rat}{K:Nat}(P:Wd p)(F:Sm f)(hh:ht a+ht w+K/32+4≤67108864):∀(n k:Nat) (lo hi:Rat) (s:Int),n+k≤K+1→dH f lo hi→¬Zr f lo hi p→Dy a w k lo hi→yb p f n lo hi=some s→dc.aj (p.map aE) (bW f lo hi) (vI s)
 |0,_,_,_,_,_,_,_,_,h=>by cases h
 |n+1,k,lo,hi,s,hn,A,hz,D,h=>by
  obtain⟨d1,d2⟩:=D.ht
  have hle:=A.le
  have IE:=zJ.VY p (cY lo hi) P.NN (cL P.fl (by omega)) (fO (by omega) (by omega))
  rw[fe hle,fg hle] at IE
  have ho:=ow p lo hi
  obtain⟨t1,t2⟩:=nu (k:=2000) (m:=536870912) p lo hi P.fl (by omega) (by omega)
  have hm:p.length*(2000+536870912+1)≤9*(2000+536870912+1):=Nat.mul_le_mul_right _ P.l
  rw[yb] at h
  by_cases k1:0<(aQ p lo hi).1
  ·rw[if_pos k1] at h
   injection h with h
   subst h
   have e1:dz (aQ p lo hi).1 0=1:=fG k1
   have e2:dz (aQ p lo hi).2 0=1:=fG (by grind)
   have hs:=Cb.yc _ _ ho (by omega) (by omega) (by rw[e1,e2])
   rw[e1] at hs
   exact dc.l10 _ (bW f lo hi) _ _ _ _ IE hs rfl
  ·rw[if_neg k1] at h
   by_cases k2:(aQ p lo hi).2<0
   ·rw[if_pos k2] at h
    injection h with h
    subst h
    have e1:dz (aQ p lo hi).1 0 = -1:=gN (by grind)
    have e2:dz (aQ p lo hi).2 0 = -1:=gN k2
    have hs:=Cb.yc _ _ ho (by omega) (by omega) (by rw[e1,e2])
    rw[e1] at hs
    exact dc.l10 _ (bW f lo hi) _ _ _ _ IE hs rfl
   ·rw[if_neg k2] at h
    match n,h with
    |0,h=>cases h
    |n+1,h =>
     have P9:¬Zr f (c9 f lo hi).1 (c9 f lo hi).2 p:=by
      unfold Zr at hz ⊢
      rw[nv A]
      exact hz
     have ih:=pR P F hh (n+1) (k+1) _ _ s (by omega) (dD A).1 P9 (D.half f) h
     have hv:=L0 F A D (by omega)
     by_cases he:dz (aQ p lo hi).1 0=dz (aQ p lo hi).2 0
     ·exact absurd (Cv A k1 k2 he) hz
     ·have hs:=Cb.H2 _ _ ho (by omega) (by omega) he
      exact dc.dw _ (bW f lo hi) _ _ _ _ _ IE hs rfl hv ih
theorem F9{p f:List Rat}{lo hi a w:Rat}{K n k:Nat}(P:Wd p)(F:Sm f)(A:dH f lo hi)(D:Dy a w k lo hi)(hn:n+k≤K+1)(hk:k≤K)(hh:ht a+ht w+K/32+4≤67108864)(hs:¬Zr f lo hi p→∃s,yb p f n lo hi=some s) :
  ∃s,xv f lo hi p s∧(s=0∨s=1∨s = -1)∧Cp 123 [pq p,(bW f lo hi).pv] (vI s):=by
 obtain⟨d1,d2⟩:=D.ht
 have hv:=Kq P F A.f0 A.le (lo:=lo) (hi:=hi) (by omega) (by omega)
 by_cases hz:Zr f lo hi p
 ·refine⟨0,Or.inl ⟨rfl,hz⟩,Or.inl rfl,?_⟩
  exact dc.e0 _ (bW f lo hi) _ hv ((uc A P.z).2 hz)
 ·obtain⟨s,h⟩:=hs hz
  obtain⟨k1,k2⟩:=sJ _ _ _ s A h
  refine⟨s,k1,Or.inr k2,?_⟩
  have hb:Dx p f lo hi=false:=by
   cases hb:Dx p f lo hi with
   |false=>rfl
   |true=>exact absurd ((uc A P.z).1 hb) hz
  exact dc.e1 _ (bW f lo hi) _ hv hb (pR P F hh n k lo hi s hn A hz D h)
theorem A8{f:List Rat}{lo hi a w:Rat}{K k:Nat}(F:Sm f)(A:dH f lo hi)(D:Dy a w k lo hi){x:ah}{x0:Rat}{h:Nat}(hof:Cp 27 [x.pv] (Nv x0).pv)(h1:1≤h)(hx:ht x0≤h)(h9:h≤900)(hn:32*(6*(2*h+1)+1)+237+33+1+k≤K+1)(hh:ht a+ht w+K/32+4≤67108864)(b1:ab lo≤twP 32)(b2:ab hi≤twP 32) :
  Cp 72 [(bW f lo hi).pv,x.pv] (vI (aK f lo hi x0)):=by
 have P:Wd [-x0,1]:=Wd.VZ (by omega)
 obtain⟨s,k1,k2,k3⟩:=F9 P F A D (n:=32*(6*(2*h+1)+1)+237+33+1) (K:=K) hn (by omega) hh (fun hz=>by
  refine Ko F A (fun e=>hz ?_) h1 hx b1 b2 (Nat.le_refl _)
  exact(A.ma e).2 (by show(0*x0+1)*x0 + -x0=0;grind))
 have:=Kp A k1
 subst this
 exact kH.e0 (bW f lo hi) x (Nv x0) _ hof k3
end x9
def grQ(n:Int)(b:Nat):Rat:=Rat.divInt n ((2^b:Nat):Int)
theorem two_pos(b:Nat):(0:Int)<((2^b:Nat):Int):=by
 have:=Nat.pow_pos (n:=b) (show 0<2 by omega)
 omega
theorem gL(n:Int)(b:Nat):grQ n b*twP b=(n:Rat):=by
 unfold grQ twP
 rw[Rat.divInt_eq_div]
 exact Rat.div_mul_cancel (vK b)
theorem ly{n:Int}{b:Nat}{x:Rat} : grQ n b≤x↔(n:Rat)≤x*twP b:=by
 rw[←gL n b]
 have p:=bw b
 constructor
 ·intro h;exact Rat.mul_le_mul_of_nonneg_right h (Rat.le_of_lt p)
 ·intro h
  refine Rat.not_lt.1 fun bH => ?_
  have:=Rat.mul_lt_mul_of_pos_right bH p
  grind
theorem zk{n:Int}{b:Nat}{x:Rat} : x<grQ n b↔x*twP b<(n:Rat):=by
 rw[←Rat.not_le,ly,Rat.not_le]
theorem iJ{n:Int}(h:n.natAbs<4294967296^4):wl n≤4:=oZ h
namespace hX
theorem scaled(n:Int)(hn:wl n≤1000){b:Nat}(hb:b≤64):Cp 63 [(Sym.whole n).pv,vI (b:Int)] (.aB [(aE (grQ n b)).pv,.aq]):=by
 have w2:∀t:Nat,t≤64→wl (((2^t:Nat):Int))≤4:=fun t ht=>iJ (by
  rw[Int.natAbs_natCast]
  have:2^t≤2^64:=Nat.pow_le_pow_right (by omega) ht
  omega)
 have loop:∀d t:Nat,t+d=b→dO.aj (b:Int) t (Sym.whole n) (Sym.whole ((2^t:Nat):Int)) (.aB [(aE (grQ n b)).pv,.aq]):=by
  intro d
  induction d with
  |zero =>
   intro t ht
   have:t=b:=by omega
   subst this
   have hf:=qC.Iy (Sym.whole n) (Sym.whole ((2^t:Nat):Int)) (by rw[b7];omega) (by rw[b7];have:=w2 t hb;omega) (by rw[aD];have:=two_pos t;omega)
   rw[aD,aD] at hf
   exact dO.dw _ t _ _ _ none (by omega) hf
  |succ d ih =>
   intro t ht
   have hw:=w2 t (by omega)
   have ha:=dE.Add (Sym.whole ((2^t:Nat):Int)) (Sym.whole ((2^t:Nat):Int)) (by show _≤_;rw[b7];omega) (by show _≤_;rw[b7];omega)
   rw[aD,show((2^t:Nat):Int)+((2^t:Nat):Int)=((2^(t+1):Nat):Int) by rw[Nat.pow_succ];omega] at ha
   exact dO.l10 _ t _ _ _ (by omega) ha (by omega) (ih (t+1) (by omega))
 exact dO.e0 (Sym.whole n) _ (Sym.whole 1) (dE.Of 1 (by unfold aw;omega)) (loop b 0 (by omega))
theorem HG{x:Rat}(hx:ht x≤1000){b:Nat}(hb:b≤64):Cp 130 [(aE x).pv,vI (b:Int)] (Sym.whole (x*twP b).floor).pv:=by
 have Ll:∀t,t≤64→ht (x*twP t)≤2000:=fun t h=>by
  have h1:=dP x (twP t)
  have h2:=jH (j:=t) (by omega)
  omega
 have loop:∀d t:Nat,t+d=b→eF.aj (b:Int) t (aE (x*twP t)) (Sym.whole (x*twP b).floor).pv:=by
  intro d
  induction d with
  |zero =>
   intro t h
   have:t=b:=by omega
   subst this
   have hh:=Ll t hb
   have hf:=aW hh
   have:=qC.OA (aE (x*twP t)) ⟨by omega,by omega⟩
   rw[bS] at this
   exact eF.dw _ t _ _ (by omega) this
  |succ d ih =>
   intro t h
   have hh:=Ll t (by omega)
   have ha:=QF.Add (x*twP t) (x*twP t) (by omega) (by omega)
   rw[show x*twP t+x*twP t=x*twP (t+1) by rw[bP];grind] at ha
   exact eF.l10 _ t _ _ (by omega) ha (by omega) (ih (t+1) (by omega))
 have:=loop b 0 (by omega)
 rw[hO,Rat.mul_one] at this
 exact eF.e0 _ _ this
theorem np(q:Rat):((q.floor:Int):Rat)≤q:=Rat.floor_le q
theorem nq(q:Rat):q<((q.floor+1:Int):Rat):=by
 exact Rat.lt_floor_add_one q
theorem floor{f:List Rat}{lo hi:Rat}(F:Sm f)(A:dH f lo hi)(h1:ht lo≤1)(h2:ht hi≤1){b:Nat}(hb:b≤64):∃n:Int,Cp 62 [(bW f lo hi).pv,vI (b:Int)] (.aB [(Sym.whole n).pv,.aq])∧n.natAbs<2^100∧0≤aK f lo hi (grQ n b)∧aK f lo hi (grQ (n+1) b) = -1:=by
 have O:=F.ok (lo:=lo) (hi:=hi) (by omega) (by omega)
 have g1:=HG (x:=lo) (by omega) hb
 have g2:=HG (x:=hi) (by omega) hb
 have bd:∀x:Rat,ht x≤1→(x*twP b).floor.natAbs<2^98:=by
  intro x hx
  have a1:=sv x
  have a2:=Rat.le_trans a1 (aS (show 32*ht x≤32 by omega))
  have p:=bw b
  have a3:ab (x*twP b)≤twP 96:=by
   rw[fQ]
   have e:ab (twP b)=twP b:=by rcases cf (twP b) with k|k<;>grind
   rw[e]
   have:=cM a2 (aS hb) (bJ x) (Rat.le_of_lt (bw 64))
   rw[←dS] at this
   exact this
  have f1:=np (x*twP b)
  have f2:=nq (x*twP b)
  have l1:=ke (x*twP b)
  have l2:=dY (x*twP b)
  have u1:(((x*twP b).floor:Int):Rat)≤(((2^96:Nat):Int):Rat):=by
   have:twP 96=(((2^96:Nat):Int):Rat):=rfl
   rw[←this];grind
  have u2:((-((2^96:Nat):Int):Int):Rat)<(((x*twP b).floor+1:Int):Rat):=by
   have:twP 96=(((2^96:Nat):Int):Rat):=rfl
   rw[Rat.intCast_neg,←this];grind
  have v1:=Rat.intCast_le_intCast.1 u1
  have v2:=Rat.intCast_lt_intCast.1 u2
  omega
 have b1:=bd lo h1
 have b2:=bd hi h2
 have w:∀n:Int,n.natAbs<2^101→wl n≤4:=fun n hn=>iJ (Nat.lt_of_lt_of_le hn (by decide))
 have s1:0≤aK f lo hi (grQ (lo*twP b).floor b):=jD A (ly.2 (np _))
 have s2:aK f lo hi (grQ ((hi*twP b).floor+1) b) = -1:=A.mono (zk.2 (nq _)) A.nF
 have loop:∀(k:Nat) (u v:Int),(v-u).toNat≤k→u.natAbs<2^99→v.natAbs<2^99→0≤aK f lo hi (grQ u b)→aK f lo hi (grQ v b) = -1 →
   ∃n:Int,dj.aj (b:Int) (bW f lo hi) (Sym.whole u) (Sym.whole v) (.aB [(Sym.whole n).pv,.aq])∧n.natAbs<2^100∧0≤aK f lo hi (grQ n b)∧aK f lo hi (grQ (n+1) b) = -1:=by
  intro k
  induction k with
  |zero =>
   intro u v hk hu hv c1 c2
   exfalso
   have hle:grQ v b≤grQ u b:=by
    rw[ly,gL]
    exact Rat.intCast_le_intCast.2 (by omega)
   by_cases e:grQ v b=grQ u b
   ·rw[e] at c2;omega
   ·have:=A.mono (x:=grQ v b) (y:=grQ u b) (by grind) (by omega);omega
  |succ k ih =>
   intro u v hk hu hv c1 c2
   have rk:u<v:=by
    refine Int.not_le.1 fun hle => ?_
    have TF:grQ v b≤grQ u b:=by
     rw[ly,gL]
     exact Rat.intCast_le_intCast.2 hle
    by_cases e:grQ v b=grQ u b
    ·rw[e] at c2;omega
    ·have:=A.mono (x:=grQ v b) (y:=grQ u b) (by grind) (by omega);omega
   have fu:Fit (Sym.whole u).fS:=by show _≤_;rw[b7];have:=w u (by omega);omega
   have fv:Fit (Sym.whole v).fS:=by show _≤_;rw[b7];have:=w v (by omega);omega
   have q1:=dE.Sub (Sym.whole v) (Sym.whole u) fv fu
   rw[aD,aD] at q1
   have o1:=dE.Of 1 (by unfold aw;omega)
   have o2:=dE.Of 2 (by unfold aw;omega)
   have q2:=dE.jN (Sym.whole (v-u)) (Sym.whole 1) (by show _≤_;rw[b7];have:=w (v-u) (by omega);omega) (by show _≤_;rw[b7];have:=w 1 (by decide);omega)
   rw[aD,aD] at q2
   by_cases hd:1<v-u
   ·have q3:=dE.Add (Sym.whole u) (Sym.whole v) fu fv
    rw[aD,aD] at q3
    have q4:=dE.Div (Sym.whole (u+v)) (Sym.whole 2) (by show _≤_;rw[b7];have:=w (u+v) (by omega);omega) (by show _≤_;rw[b7];have:=w 2 (by decide);omega) (by rw[aD];omega)
    rw[aD,aD] at q4
    have UO:u<(u+v)/2:=by omega
    have SL:(u+v)/2<v:=by omega
    have wm:=w ((u+v)/2) (by omega)
    have q5:=scaled ((u+v)/2) (by omega) hb
    have hg:ht (grQ ((u+v)/2) b)≤1073741824:=by
     unfold grQ
     rw[Rat.divInt_eq_div]
     have x1:=kS (((u+v)/2:Int):Rat) ((((2^b:Nat):Int)):Rat)
     have x2:ht (((u+v)/2:Int):Rat)≤4:=by rw[pz];omega
     have x3:ht ((((2^b:Nat):Int)):Rat)≤3:=jH (j:=b) (by omega)
     omega
    have q6:=compare O A.le hg
    by_cases hc:0≤aK f lo hi (grQ ((u+v)/2) b)
    ·obtain⟨n,n1,n2⟩:=ih ((u+v)/2) v (by omega) (by omega) hv hc c2
     exact⟨n,dj.l10 _ (bW f lo hi) _ _ _ _ _ _ _ _ _ none _ _ q1 o1 q2 (by rw[nQ hd];omega) q3 o2 q4 q5 q6 hc n1,n2⟩
    ·obtain⟨n,n1,n2⟩:=ih u ((u+v)/2) (by omega) hu (by omega) c1 (by rcases A.three (grQ ((u+v)/2) b) with m|m|m<;>omega)
     exact⟨n,dj.dw _ (bW f lo hi) _ _ _ _ _ _ _ _ _ none _ _ q1 o1 q2 (by rw[nQ hd];omega) q3 o2 q4 q5 q6 (by omega) n1,n2⟩
   ·have B0:v=u+1:=by omega
    refine⟨u,dj.AS _ (bW f lo hi) _ _ _ _ _ q1 o1 q2 (by unfold iM;rw[if_neg (by omega),if_pos (by omega)];omega),by omega,c1,by rw[←B0];exact c2⟩
 obtain⟨n,n1,n2⟩:=loop _ _ _ (Nat.le_refl _) (by omega) (by omega) s1 s2
 have o1:=dE.Of 1 (by unfold aw;omega)
 have ad:=dE.Add (Sym.whole (hi*twP b).floor) (Sym.whole 1) (by show _≤_;rw[b7];have:=w (hi*twP b).floor (by omega);omega) (by show _≤_;rw[b7];have:=w 1 (by decide);omega)
 rw[aD,aD] at ad
 exact⟨n,dj.e0 (bW f lo hi) _ _ _ _ _ g1 g2 o1 ad n1,n2⟩
end hX
theorem uf{m n:Int}{b:Nat}(h:m≤n):grQ m b≤grQ n b:=by
 rw[ly,gL]
 exact Rat.intCast_le_intCast.2 h
theorem kT{f:List Rat}{lo hi:Rat}(A:dH f lo hi){m n:Int}{b:Nat}(h1:0≤aK f lo hi (grQ m b))(h2:aK f lo hi (grQ (m+1) b) = -1)(k1:0≤aK f lo hi (grQ n b))(k2:aK f lo hi (grQ (n+1) b) = -1):m=n:=by
 have key:∀{m n:Int},0≤aK f lo hi (grQ n b)→aK f lo hi (grQ (m+1) b) = -1→n≤m:=fun {m n} u v=>by
  refine Int.not_lt.1 fun bH => ?_
  have hle:=uf (b:=b) (show m+1≤n by omega)
  by_cases e:grQ (m+1) b=grQ n b
  ·rw[e] at v;omega
  ·have:=A.mono (x:=grQ (m+1) b) (y:=grQ n b) (by grind) (by omega)
   omega
 have:=key k1 h2
 have:=key h1 k2
 omega
theorem lY{n:Int}(h:n.natAbs<2^101){b:Nat}(hb:b≤64):ht (grQ n b)≤1000:=by
 unfold grQ
 rw[Rat.divInt_eq_div]
 have w:wl n≤4:=iJ (Nat.lt_of_lt_of_le h (by decide))
 have x1:=kS ((n:Int):Rat) ((((2^b:Nat):Int)):Rat)
 have x2:ht ((n:Int):Rat)≤4:=by rw[pz];omega
 have x3:ht ((((2^b:Nat):Int)):Rat)≤3:=jH (j:=b) (by omega)
 omega
namespace hX
theorem AE{f:List Rat}{lo hi:Rat}{n:Int}{b:Nat}(hn:n.natAbs<2^100)(hb:b≤64):Cp 67 [vI 1] (Sym.whole 1).pv∧Cp 66 [(Sym.whole n).pv,(Sym.whole 1).pv] (Sym.whole (n+1)).pv∧Cp 63 [(Sym.whole (n+1)).pv,vI (b:Int)] (.aB [(aE (grQ (n+1) b)).pv,.aq]):=by
 have w1:wl n≤4:=iJ (Nat.lt_of_lt_of_le hn (by decide))
 have w2:wl (n+1)≤4:=iJ (Nat.lt_of_lt_of_le (show (n+1).natAbs<2^101 by omega) (by decide))
 have w3:wl 1≤4:=iJ (by decide)
 have ad:=dE.Add (Sym.whole n) (Sym.whole 1) (by show _≤_;rw[b7];omega) (by show _≤_;rw[b7];omega)
 rw[aD,aD] at ad
 exact⟨dE.Of 1 (by unfold aw;omega),ad,scaled (n+1) (by omega) hb⟩
theorem LV{a:az}(ha:Sh a)(hc:fw a=0){b:Nat}(hb:b≤64):∃n:Int,n.natAbs<2^100∧0≤aK (aT a.p) (loG a.rV) (hiG a.rV) (grQ n b)∧aK (aT a.p) (loG a.rV) (hiG a.rV) (grQ (n+1) b) = -1 ∧
  Cp 13 [a.pv,vI (b:Int)] (.aB [(if aK (aT a.p) (loG a.rV) (hiG a.rV) (grQ n b)=0 then cY (grQ n b) (grQ n b) else cY (grQ n b) (grQ (n+1) b)).pv,.aq]):=by
 have A:=ha.acc hc
 have c1:=hX.Check ha
 rw[hc] at c1
 obtain⟨n,n1,n2,n3,n4⟩:=floor A.sm A.lj A.h1 A.h2 hb
 rw[←A.e] at n1
 refine⟨n,n2,n3,n4,?_⟩
 have w1:wl n≤4:=iJ (Nat.lt_of_lt_of_le n2 (by decide))
 have s1:=scaled n (by omega) hb
 have hh:=lY (b:=b) (show n.natAbs<2^101 by omega) hb
 have k1:=compare (A.sm.ok (lo:=loG a.rV) (hi:=hiG a.rV) (by have:=A.h1;omega) (by have:=A.h2;omega)) A.lj.le (x:=grQ n b) (by omega)
 rw[←A.e] at k1
 obtain⟨o1,o2,o3⟩:=AE (f:=aT a.p) (lo:=loG a.rV) (hi:=hiG a.rV) n2 hb
 by_cases h0:aK (aT a.p) (loG a.rV) (hiG a.rV) (grQ n b)=0
 ·rw[if_pos h0]
  exact jL.e2 a _ _ _ _ (cY (grQ n b) (grQ n b)) c1 (by omega) (by omega) n1 s1 k1 h0 (uA.pH _ (by omega))
 ·rw[if_neg h0]
  exact jL.e3 a _ _ _ _ _ _ _ none c1 (by omega) (by omega) n1 s1 k1 h0 o1 o2 o3
theorem mg{a b:az}{f g:List Rat}{lo hi lo' hi':Rat}(A:Acc a f lo hi)(B:Acc b g lo' hi'){t:Nat}(ht:t≤64){n:Int}(n1:0≤aK f lo hi (grQ n t))(n2:aK f lo hi (grQ (n+1) t) = -1) :
  (aK g lo' hi' (grQ (n+1) t)=1→bR.aj t a b (.aB [(aE (grQ (n+1) t)).pv,.aq]))∧(aK g lo' hi' (grQ (n+1) t)≠1→∀r,bR.aj (t+1) a b r→bR.aj t a b r):=by
 obtain⟨m,m1,m2,m3,m4⟩:=floor A.sm A.lj A.h1 A.h2 ht
 have Nx:m=n:=kT A.lj m3 m4 n1 n2
 subst Nx
 rw[←A.e] at m1
 obtain⟨o1,o2,o3⟩:=AE (f:=f) (lo:=lo) (hi:=hi) m2 ht
 have hh:=lY (b:=t) (show (m+1).natAbs<2^101 by omega) ht
 have k1:=compare (B.sm.ok (lo:=lo') (hi:=hi') (by have:=B.h1;omega) (by have:=B.h2;omega)) B.lj.le (x:=grQ (m+1) t) (by omega)
 rw[←B.e] at k1
 refine⟨fun h => ?_,fun h r hL => ?_⟩
 ·exact bR.l10 t a b _ _ _ _ _ (by omega) m1 o1 o2 o3 k1 (by omega)
 ·exact bR.dw t a b _ _ _ _ _ (by omega) m1 o1 o2 o3 k1 (by rcases B.lj.three (grQ (m+1) t) with q|q|q<;>omega) (by omega) hL
theorem xd{p:List Rat}(f:cH 7 6 p)(h1:Bd p)(ok:jl 7 6):Cp 21 [pq p] (.aB [bq az.cells ((fM 7 6 p).map (fun r=>bW (aM p) r.1 r.2)),.aq]):=by
 have hi:=o7.uP f h1 ok
 have hF:=qG.ud f
 have hlen:=o7.my f h1 ok
 have loop:∀d t:Nat,t+d=(fM 7 6 p).length→dR.aj (p.map aE) (((fM 7 6 p).take t).map (fun r=>bW (aM p) r.1 r.2)) (mkGs (fM 7 6 p)) t (.aB [bq az.cells ((fM 7 6 p).map (fun r=>bW (aM p) r.1 r.2)),.aq]):=by
  intro d
  induction d with
  |zero =>
   intro t h
   rw[show (fM 7 6 p).take t=fM 7 6 p from List.take_of_length_le (by omega)]
   exact dR.ji _ _ _ t (by rw[jV];omega)
  |succ d ih =>
   intro t h
   obtain⟨v,hv⟩:∃v,(fM 7 6 p)[t]? = some v:=⟨_,List.getElem?_eq_getElem (by omega)⟩
   have uy:(mkGs (fM 7 6 p))[t]? = some (cY v.1 v.2):=by unfold mkGs;rw[List.getElem?_map,hv];rfl
   have ih:=ih (t+1) (by omega)
   rw[List.take_add_one,hv,List.map_append] at ih
   exact dR.l10 _ _ _ t (cY v.1 v.2) _ (by rw[jV];omega) uy hF (by rw[List.length_append,List.length_map,List.length_take,List.length_singleton];omega) (by omega) ih
 exact dR.e0 _ _ hi (loop (fM 7 6 p).length 0 (Nat.zero_add _))
end hX
theorem L8{q:Rat}{m:Int}(h1:(m:Rat)≤q)(h2:q<((m+1:Int):Rat)):q.floor=m:=by
 have a:=Rat.floor_le q
 have b:=Rat.lt_floor_add_one q
 have c:((m:Int):Rat)<((q.floor+1:Int):Rat):=by grind
 have d:((q.floor:Int):Rat)<((m+1:Int):Rat):=by grind
 have c:=Rat.intCast_lt_intCast.1 c
 have d:=Rat.intCast_lt_intCast.1 d
 omega
theorem R4{t:Nat}(ht:t≤64):wl (((2^t:Nat):Int))≤4:=iJ (by
 rw[Int.natAbs_natCast]
 have:2^t≤2^64:=Nat.pow_le_pow_right (by omega) ht
 omega)
theorem H4(m n:Int)(b:Nat):grQ m b+grQ n b=grQ (m+n) b:=by
 refine vH (c:=twP b) (by have:=bw b;grind) ?_
 rw[Rat.add_mul,gL,gL,gL,Rat.intCast_add]
namespace x9
theorem aar{x:Rat}{h:Nat}(hx:ht x≤h)(hh:h≤67108864){b:Nat}(hb:b≤64):Cp 140 [(aE x).pv,vI (b:Int)] (.aB [(aE (grQ (x*twP b).floor b)).pv,vI 0]):=by
 have XZ:=js x
 have Tr:=jO x
 have N0:(x.den:Int)≠0:=by have:=x.den_nz;omega
 have fin:kj.aj (b:Int) b (aE x) (Sym.whole ((2^b:Nat):Int)) (.aB [(aE (grQ (x*twP b).floor b)).pv,vI 0]):=by
  have hp:=tj.nc (aE x) (B6 (by omega))
  rw[bS] at hp
  have w2:=R4 hb
  have m:=Am.Mul (Sym.whole x.num) (Sym.whole ((2^b:Nat):Int)) (show wl _≤_ by omega) (show wl _≤_ by omega)
  rw[aD,aD] at m
  have wm:=ic x.num ((2^b:Nat):Int)
  have d:=Am.Div (Sym.whole (x.num*((2^b:Nat):Int))) (Sym.whole (x.den:Int)) (show wl _≤_ by omega) (show wl _≤_ by omega) (by rw[aD];exact N0)
  rw[aD,aD] at d
  have wf:wl (x.num*((2^b:Nat):Int)/(x.den:Int))≤1099511627776:=by
   have h1:=Hl (x.num*((2^b:Nat):Int))
   have h2:(x.num*((2^b:Nat):Int)/(x.den:Int)).natAbs≤(x.num*((2^b:Nat):Int)).natAbs:=Int.natAbs_ediv_le_natAbs _ _
   have h3:wl (x.num*((2^b:Nat):Int)/(x.den:Int))≤wl (x.num*((2^b:Nat):Int)):=oZ (by omega)
   omega
  have f:=tj.Iy (Sym.whole (x.num*((2^b:Nat):Int)/(x.den:Int))) (Sym.whole ((2^b:Nat):Int)) (show wl _≤_ by omega) (show wl _≤_ by omega) (by rw[aD];have:=two_pos b;omega)
  rw[aD,aD] at f
  have e:(x*twP b).floor=x.num*((2^b:Nat):Int)/(x.den:Int):=by
   have hx:=LN x
   have dp:(0:Rat)<((x.den:Int):Rat):=by have:=LO x;grind
   have e1:x*twP b*((x.den:Int):Rat)=((x.num*((2^b:Nat):Int):Int):Rat):=by
    rw[Rat.intCast_mul,←hx]
    show x*twP b*_=x*_*twP b
    grind
   have hd:(0:Int)<(x.den:Int):=by have:=x.den_pos;omega
   have key:∀m:Int,(m:Rat)*((x.den:Int):Rat)=((m*(x.den:Int):Int):Rat):=fun m=>(Rat.intCast_mul _ _).symm
   generalize x.num*((2^b:Nat):Int)=n at *
   generalize (x.den:Int)=D at *
   have q1:=Int.mul_ediv_self_le (x:=n) (k:=D) (by omega)
   have q2:=Int.lt_mul_ediv_self_add (x:=n) (k:=D) hd
   refine L8 ?_ ?_
   ·refine Rat.not_lt.1 fun bH => ?_
    have:=Rat.mul_lt_mul_of_pos_right bH dp
    rw[e1,key] at this
    have:=Rat.intCast_lt_intCast.1 this
    rw[Int.mul_comm] at this
    omega
   ·refine Rat.not_le.1 fun hle => ?_
    have:=Rat.mul_le_mul_of_nonneg_right hle (Rat.le_of_lt dp)
    rw[e1,key] at this
    have:=Rat.intCast_le_intCast.1 this
    rw[Int.add_mul,Int.mul_comm] at this
    omega
  rw[←e] at d f
  exact kj.dw _ b (aE x) _ _ _ _ _ _ 0 _ 0 (by omega) hp m d f
 have loop:∀d t:Nat,t+d=b→kj.aj (b:Int) t (aE x) (Sym.whole ((2^t:Nat):Int)) (.aB [(aE (grQ (x*twP b).floor b)).pv,vI 0]):=by
  intro d
  induction d with
  |zero =>
   intro t h
   have:t=b:=by omega
   subst this
   exact fin
  |succ d ih =>
   intro t h
   have hw:=R4 (t:=t) (by omega)
   have ha:=Am.Add (Sym.whole ((2^t:Nat):Int)) (Sym.whole ((2^t:Nat):Int)) (show wl _≤_ by omega) (show wl _≤_ by omega)
   rw[aD,show((2^t:Nat):Int)+((2^t:Nat):Int)=((2^(t+1):Nat):Int) by rw[Nat.pow_succ];omega] at ha
   exact kj.l10 _ t (aE x) _ _ (by omega) ha (by omega) (ih (t+1) (by omega))
 exact kj.e2 (aE x) _ _ (by omega) (by omega) tj.one (loop b 0 (by omega))
theorem LI {b : Nat} (hb : b ≤ 64) : Cp 71 [vI (b : Int)] (aE (grQ 1 b)).pv := by
  have X1 : ∀ t : Nat, grQ 1 t / 2 = grQ 1 (t + 1) := fun t => by
    refine vH (c := twP (t + 1)) (by have := bw (t + 1); grind) ?_
    rw [gL, bP]
    have := gL 1 t
    rw [Rat.div_def]
    have : (2 : Rat) * 2⁻¹ = 1 := Rat.mul_inv_cancel 2 (by decide)
    grind
  have loop : ∀ d t : Nat, t + d = b → ll.aj (b : Int) t (aE (grQ 1 t)) (aE 2) (aE (grQ 1 b)).pv := by
    intro d
    induction d with
    | zero =>
      intro t h
      have : t = b := by omega
      subst this
      exact ll.dw _ t _ _ (by omega)
    | succ d ih =>
      intro t h
      have h1 := lY (n := 1) (b := t) (by decide) (by omega)
      have hd := QR.Div (grQ 1 t) 2 (by omega) (by have : ht 2 = 1 := by decide
                                                   omega) (by decide)
      rw [X1] at hd
      exact ll.l10 _ t _ _ _ 0 (by omega) hd (by omega) (ih (t + 1) (by omega))
  have e1 : grQ 1 0 = 1 := by decide +kernel
  have := loop b 0 (by omega)
  rw [e1] at this
  exact ll.e0 _ _ _ (tj.Of 1 ⟨by decide, by decide⟩) (tj.Of 2 ⟨by decide, by decide⟩) this
def wc(f:List Rat)(lo hi:Rat)(n:Int)(b:Nat):af:=if aK f lo hi (grQ n b)=0 then cY (grQ n b) (grQ n b) else cY (grQ n b) (grQ (n+1) b)
section
variable {f:List Rat} {DH DO:Rat} {n:Int} {b:Nat}
theorem ED(F:Sm f)(hb:b≤64)(TJ:n.natAbs<2^100){lo hi:Rat}(A:dH f lo hi)(e:aK f lo hi=aK f DH DO)(n1:0≤aK f DH DO (grQ n b))(n2:aK f DH DO (grQ (n+1) b) = -1)(A0:dH f DH DO)(h1:ht lo≤2000)(h2:ht hi≤2000)(b1:ab lo≤twP 32)(b2:ab hi≤twP 32) :
  (dA.aj (b:Int) (bW f lo hi) (wc f DH DO n b).pv∧(hi-lo≤grQ 1 b→grQ (lo*twP b).floor b=lo→True)) ∨
  ((lo*twP b).floor+1≤n∧lo<grQ ((lo*twP b).floor+1) b∧aK f lo hi (grQ ((lo*twP b).floor+1) b)=1∧((hi-lo≤grQ 1 b→dA.aj (b:Int) (bW f (grQ ((lo*twP b).floor+1) b) hi) (wc f DH DO n b).pv→dA.aj (b:Int) (bW f lo hi) (wc f DH DO n b).pv) ∧
   (grQ 1 b<hi-lo→ht (midQ lo hi)≤2000→dA.aj (b:Int) (bW f (c9 f lo hi).1 (c9 f lo hi).2) (wc f DH DO n b).pv→dA.aj (b:Int) (bW f lo hi) (wc f DH DO n b).pv))):=by
 have hle:=A.le
 have g:=aar (x:=lo) h1 (by omega) hb
 have pw:=LI hb
 have ID:grQ (lo*twP b).floor b≤lo:=ly.2 (Rat.floor_le _)
 have fl2:lo<grQ ((lo*twP b).floor+1) b:=zk.2 (Rat.lt_floor_add_one _)
 generalize hm:(lo*twP b).floor=m at *
 have c0:0≤aK f lo hi (grQ m b):=jD A ID
 have Nx:m≤n:=by
  refine Int.not_lt.1 fun bH => ?_
  have TF:=uf (b:=b) (show n+1≤m by omega)
  rw[e] at c0
  by_cases q:grQ (n+1) b=grQ m b
  ·rw[←q] at c0;omega
  ·have:=A0.mono (x:=grQ (n+1) b) (y:=grQ m b) (by grind) (by omega)
   omega
 have hmb:m.natAbs<2^100:=by
  have a1:=ke lo
  have a2:=dY lo
  have p:=bw b
  have pb:twP b≤twP 64:=aS hb
  have u2:((-((2^97:Nat):Int):Int):Rat)<((m+1:Int):Rat):=by
   have k1:=(zk.1 fl2)
   have k2 : -(twP 96)≤lo*twP b:=by
    have:=cM b1 pb (bJ lo) (Rat.le_of_lt (bw 64))
    rw[←dS] at this
    have e2:ab (lo*twP b)≤twP 96:=by
     rw[fQ]
     have e:ab (twP b)=twP b:=by rcases cf (twP b) with k|k<;>grind
     rw[e]
     exact this
    have:=dY (lo*twP b)
    grind
   have e3:twP 96+twP 96=(((2^97:Nat):Int):Rat):=(bP 96).symm
   have p96:=bw 96
   rw[Rat.intCast_neg,←e3]
   grind
  have v2:=Rat.intCast_lt_intCast.1 u2
  omega
 have hgm:=lY (n:=m) (b:=b) (by omega) hb
 have hgu:=lY (n:=m+1) (b:=b) (by omega) hb
 have ZT:=lY (n:=1) (b:=b) (by decide) hb
 have ad:=QR.Add (grQ m b) (grQ 1 b) (by omega) (by omega)
 rw[H4] at ad
 have w0:=oN hi lo
 have H8:∀x0:Rat,ht x0≤900→Cp 72 [(bW f lo hi).pv,(aE x0).pv] (vI (aK f lo hi x0)):=fun x0 hx =>
  A8 (K:=1000000) F A (Dy.start lo hi) (Of (v:=x0) (by omega)) (show 1≤900 by omega) hx (by omega) (by omega) (by omega) b1 b2
 have Yy:∀k:Int,k.natAbs<2^101→ht (grQ k b)≤900:=fun k hk=>by
  unfold grQ
  rw[Rat.divInt_eq_div]
  have w:wl k≤4:=iJ (Nat.lt_of_lt_of_le hk (by decide))
  have x1:=kS ((k:Int):Rat) ((((2^b:Nat):Int)):Rat)
  have x2:ht ((k:Int):Rat)≤4:=by rw[pz];omega
  have x3:ht ((((2^b:Nat):Int)):Rat)≤3:=jH (j:=b) (by omega)
  omega
 have r1:=H8 (grQ m b) (Yy m (by omega))
 have r2:=H8 (grQ (m+1) b) (Yy (m+1) (by omega))
 have uniq:∀k:Int,0≤aK f lo hi (grQ k b)→aK f lo hi (grQ (k+1) b) = -1→k=n:=fun k k1 k2=>kT A0 (by rw[←e];exact k1) (by rw[←e];exact k2) n1 n2
 by_cases q1:aK f lo hi (grQ m b)=0
 ·left
  refine⟨?_,fun _ _=>trivial⟩
  have:=uniq m (by omega) (A.mono (x:=grQ m b) (by grind) (by omega))
  subst this
  have:=dA.l10 _ (bW f lo hi) _ _ _ _ _ g pw ad r1 q1
  unfold wc
  rw[if_pos (by rw[←e];exact q1)]
  exact this
 ·have q1':aK f lo hi (grQ m b)=1:=by rcases A.three (grQ m b) with k|k|k<;>omega
  rcases A.three (grQ (m+1) b) with q2|q2|q2
  ·right
   have aas:m+1≤n:=by
    refine Int.not_lt.1 fun bH => ?_
    have:m=n:=by omega
    rw[e,this,n2] at q2
    omega
   refine⟨aas,fl2,q2,fun hw hL => ?_,fun hw rH hL => ?_⟩
   ·have wd:=uN.Um lo hi (by omega) (by omega) hle
    have cw:=QR.jN (hi-lo) (grQ 1 b) (by omega) (by omega)
    exact dA.oK _ (bW f lo hi) _ _ _ _ _ _ _ _ g pw ad r1 q1 r2 (by omega) (by omega) wd cw (lZ.2 hw) hL
   ·have wd:=uN.Um lo hi (by omega) (by omega) hle
    have cw:=QR.jN (hi-lo) (grQ 1 b) (by omega) (by omega)
    have hh:=half F A (by omega) (by omega) (by omega)
    exact dA.AS _ (bW f lo hi) _ _ _ _ _ _ _ _ _ g pw ad r1 q1 r2 (by omega) (by omega) wd cw (by rw[fG hw];omega) hh hL
  ·left
   refine⟨?_,fun _ _=>trivial⟩
   have X2:grQ (m+1) b<grQ (m+1+1) b:=by
    rw[←H4 (m+1) 1]
    have:0<grQ 1 b:=by
     refine Rat.not_le.1 fun hh => ?_
     have:=Rat.mul_le_mul_of_nonneg_right hh (Rat.le_of_lt (bw b))
     rw[gL,Rat.zero_mul] at this
     exact absurd this (by decide)
    grind
   have:=uniq (m+1) (by omega) (A.mono X2 (by omega))
   have hn:dA.aj (b:Int) (bW f lo hi) (cY (grQ (m+1) b) (grQ (m+1) b)).pv:=dA.dw _ (bW f lo hi) _ _ _ _ _ _ g pw ad r1 q1 r2 q2
   rw[this] at hn
   unfold wc
   rw[if_pos (by rw[←e,←this];exact q2)]
   exact hn
  ·left
   refine⟨?_,fun _ _=>trivial⟩
   have:=uniq m (by omega) q2
   subst this
   have hn:dA.aj (b:Int) (bW f lo hi) (cY (grQ m b) (grQ (m+1) b)).pv:=dA.ji _ (bW f lo hi) _ _ _ _ _ _ g pw ad r1 q1 r2 (by omega) q2
   unfold wc
   rw[if_neg (by rw[←e];exact q1)]
   exact hn
theorem L9(F:Sm f)(hb:b≤64)(TJ:n.natAbs<2^100){lo hi:Rat}(A:dH f lo hi)(e:aK f lo hi=aK f DH DO)(n1:0≤aK f DH DO (grQ n b))(n2:aK f DH DO (grQ (n+1) b) = -1)(A0:dH f DH DO)(h1:ht lo≤2000)(h2:ht hi≤2000)(b1:ab lo≤twP 32)(b2:ab hi≤twP 32)(hw:hi-lo≤grQ 1 b) :
  dA.aj (b:Int) (bW f lo hi) (wc f DH DO n b).pv:=by
 rcases ED F hb TJ A e n1 n2 A0 h1 h2 b1 b2 with h|⟨s1,s2,s3,s4, -⟩
 ·exact h.1
 ·refine s4 hw ?_
  generalize (lo*twP b).floor=m at *
  have hle:=A.le
  have X2:grQ (m+1) b<hi:=by
   refine Rat.not_le.1 fun hh => ?_
   by_cases q:hi=grQ (m+1) b
   ·have:=A.nF;rw[←q] at s3;omega
   ·have:=A.mono (x:=hi) (y:=grQ (m+1) b) (by grind) A.nF
    omega
  have bH:lo<hi:=by grind
  obtain⟨B,eB⟩:=A.sub (u:=grQ (m+1) b) (v:=hi) (Rat.le_of_lt s2) Rat.le_refl (Or.inr ⟨X2,s3,A.high bH Rat.le_refl⟩)
  have hmb:(m+1).natAbs<2^101:=by
   have k1:(m:Rat)+1≤twP 96:=by
    have:grQ (m+1) b*twP b≤twP 32*twP 64:=by
     have x1:grQ (m+1) b≤twP 32:=by have:=ke hi;grind
     have x2:=Rat.mul_le_mul_of_nonneg_right x1 (Rat.le_of_lt (bw b))
     have x3:=Rat.mul_le_mul_of_nonneg_left (aS hb) (Rat.le_of_lt (bw 32))
     grind
    rw[gL,←dS,Rat.intCast_add] at this
    exact this
   have k2 : -(twP 96)≤(m:Rat)+1:=by
    have : -(twP 32*twP 64)≤grQ (m+1) b*twP b:=by
     have x1 : -(twP 32)≤grQ (m+1) b:=by have:=dY lo;grind
     have x2:=Rat.mul_le_mul_of_nonneg_right x1 (Rat.le_of_lt (bw b))
     have x3:=Rat.mul_le_mul_of_nonneg_left (aS hb) (Rat.le_of_lt (bw 32))
     grind
    rw[gL,←dS,Rat.intCast_add] at this
    exact this
   have e96:twP 96=(((2^96:Nat):Int):Rat):=rfl
   rw[e96] at k1 k2
   have k1:((m+1:Int):Rat)≤(((2^96:Nat):Int):Rat):=by rw[Rat.intCast_add];exact k1
   have k2:((-((2^96:Nat):Int):Int):Rat)≤((m+1:Int):Rat):=by rw[Rat.intCast_add,Rat.intCast_neg];exact k2
   have:=Rat.intCast_le_intCast.1 k1
   have:=Rat.intCast_le_intCast.1 k2
   omega
  have hg:=lY (n:=m+1) (b:=b) hmb hb
  have bm:=a8 (Rat.le_of_lt s2) (Rat.le_of_lt X2) b1 b2
  rcases ED F hb TJ B (by rw[funext eB,e]) n1 n2 A0 (by omega) h2 bm b2 with h|⟨t1,t2,t3, -⟩
  ·exact h.1
  ·exfalso
   have fl:(grQ (m+1) b*twP b).floor=m+1:=by
    rw[gL]
    exact L8 Rat.le_refl (Rat.intCast_lt_intCast.2 (by omega))
   rw[fl] at t3
   have e2:grQ (m+1+1) b=grQ (m+1) b+grQ 1 b:=(H4 (m+1) 1 b).symm
   have:=B.high X2 (x:=grQ (m+1+1) b) (by grind)
   omega
theorem Pv{a:az}(A:Acc a f DH DO)(hb:b≤64)(TJ:n.natAbs<2^100)(n1:0≤aK f DH DO (grQ n b))(n2:aK f DH DO (grQ (n+1) b) = -1):Cp 68 [a.pv,vI (b:Int)] (wc f DH DO n b).pv:=by
 have XT:=A.h1
 have hh2:=A.h2
 have ad2:=oN DO DH
 have key:∀(d k:Nat) (lo hi:Rat),d+k=97→Dy DH (DO-DH) k lo hi→dH f lo hi→aK f lo hi=aK f DH DO→DH≤lo→hi≤DO→(hi-lo)*twP b≤twP d→dA.aj (b:Int) (bW f lo hi) (wc f DH DO n b).pv:=by
  intro d
  induction d with
  |zero =>
   intro k lo hi hk D B e l1 l2 hw
   obtain⟨d1,d2⟩:=D.ht
   have hle:=B.le
   refine L9 A.sm hb TJ B e n1 n2 A.lj (by omega) (by omega) (a8 l1 (by grind) A.bd.1 A.bd.2) (a8 (by grind) l2 A.bd.1 A.bd.2) ?_
   refine Rat.not_lt.1 fun bH => ?_
   have:=Rat.mul_lt_mul_of_pos_right bH (bw b)
   rw[gL] at this
   rw[hO] at hw
   have e1:((1:Int):Rat)=1:=rfl
   rw[e1] at this
   grind
  |succ d ih =>
   intro k lo hi hk D B e l1 l2 hw
   obtain⟨d1,d2⟩:=D.ht
   have hle:=B.le
   have c1:=a8 l1 (show lo≤DO by grind) A.bd.1 A.bd.2
   have c2:=a8 (show DH≤hi by grind) l2 A.bd.1 A.bd.2
   by_cases hs:hi-lo≤grQ 1 b
   ·exact L9 A.sm hb TJ B e n1 n2 A.lj (by omega) (by omega) c1 c2 hs
   ·rcases ED A.sm hb TJ B e n1 n2 A.lj (by omega) (by omega) c1 c2 with h|⟨-, -, -, -,s5⟩
    ·exact h.1
    ·obtain⟨g1,g2,g3,g4,g5⟩:=dD B
     have p1:0<grQ 1 b:=by
      refine Rat.not_le.1 fun hh => ?_
      have:=Rat.mul_le_mul_of_nonneg_right hh (Rat.le_of_lt (bw b))
      rw[gL,Rat.zero_mul] at this
      exact absurd this (by decide)
     refine s5 (by grind) (by have:=D.gJ (show lo≠hi by grind);omega) (ih (k+1) _ _ (by omega) (D.half f) g1 (by rw[nv B,e]) (by grind) (by grind) ?_)
     rw[bP] at hw
     have:=Rat.mul_le_mul_of_nonneg_right g5 (Rat.le_of_lt (bw b))
     grind
 have w1:(DO-DH)*twP b≤twP 97:=by
  have CA:twP 32+twP 32=twP 33:=(bP 32).symm
  have x1:=ke DO
  have x2:=dY DH
  have x3:=A.bd.1
  have x4:=A.bd.2
  have hw:DO-DH≤twP 33:=by grind
  have hle:=A.lj.le
  have:=cM hw (aS hb) (by grind) (Rat.le_of_lt (bw 64))
  rwa[←dS] at this
 have:=key 97 0 DH DO (by omega) (Dy.start _ _) A.lj rfl Rat.le_refl Rat.le_refl w1
 rw[←A.e] at this
 exact dA.e0 a _ this
end
end x9
end Go.Proofs.YtllmkadmohkbfaaGreatDoor.Sym
namespace Go.Proofs.YtllmkadmohkbfaaGreatDoor.Sym
open Go Path dE
set_option linter.unusedVariables false
def n6(v:ah):Bool := !v.neg&&v.num.isEmpty&&v.den.isEmpty
def xq(a:List ah):Nat→List ah
 |0=>if (a.take 1).all n6 then [] else a.take 1
 |k+1=>if ((a.take (2^(k+1))).drop (2^k)).all n6 then xq a k else a.take (2^(k+1))
theorem pP{α:Type}{p:α→Bool}{l:List α}{t:Nat}{v:α}(h:l[t]? = some v):(l.drop t).all p=(p v&&(l.drop (t+1)).all p):=by
 rw[drop_cons h,List.all_cons]
namespace vR
theorem nr{k:Nat}(h:k≤10):1*2^k<9223372036854775808:=by
 have:2^k≤2^10:=Nat.pow_le_pow_right (by omega) h
 omega
theorem level{a:List ah}{k:Nat}(hk:k≤10)(h:a.length=2^k):Cp 195 [ae a] (vI (k:Int)):=by
 have loop:∀d t:Nat,t+d=k→dZ.aj a t (vI (k:Int)):=by
  intro d
  induction d with
  |zero =>
   intro t ht
   have:t=k:=by omega
   subst this
   exact dZ.ji a t (by omega) (nr hk) (by omega) (by omega)
  |succ d ih =>
   intro t ht
   have:2^t<2^k:=Nat.pow_lt_pow_right (by omega) (by omega)
   exact dZ.l10 a t (by omega) (nr (by omega)) (by omega) (by omega) (ih (t+1) (by omega))
 exact dZ.e0 a (loop k 0 (by omega))
theorem tB:Cp 195 [ae []] (vI (-1)) :=
 dZ.e0 [] (dZ.dw [] 0 (by omega) (by decide) (by decide) (by decide))
theorem empty(a:List ah)(hl:a.length≤1000):Cp 196 [ae a] (vB (a.all n6)):=by
 have loop:∀d t:Nat,a.length-t=d→dC.aj a t (vB ((a.drop t).all n6)):=by
  intro d
  induction d with
  |zero =>
   intro t hd
   rw[List.drop_of_length_le (by omega)]
   exact dC.AS a t (by omega)
  |succ d ih =>
   intro t hd
   obtain⟨v,hv⟩:∃v,a[t]? = some v:=⟨_,List.getElem?_eq_getElem (by omega)⟩
   rw[pP hv]
   unfold n6
   by_cases h1:v.neg=true
   ·rw[h1]
    exact dC.l10 a t v (by omega) hv h1
   ·rw[Bool.not_eq_true] at h1
    rw[h1]
    by_cases h2:v.num=[]
    ·rw[h2]
     by_cases h3:v.den=[]
     ·rw[h3]
      exact dC.oK a t v (by omega) hv h1 (by rw[h2];simp) (by rw[h3];simp) (by omega) (ih (t+1) (by omega))
     ·rw[show v.den.isEmpty=false from by cases hh:v.den<;>simp_all]
      exact dC.ji a t v (by omega) hv h1 (by rw[h2];simp) (List.length_pos_iff.2 h3)
    ·rw[show v.num.isEmpty=false from by cases hh:v.num<;>simp_all]
     exact dC.dw a t v (by omega) hv h1 (List.length_pos_iff.2 h2)
 have:=loop _ 0 rfl
 rw[List.drop_zero] at this
 exact dC.e0 a this
theorem copied(a:List ah)(hl:a.length≤1000)(hf:iN 1073741824 a):Cp 178 [ae a] (ae a):=by
 have loop:∀d t:Nat,a.length-t=d→t≤a.length→fU.aj (a.take t) a t (ae a):=by
  intro d
  induction d with
  |zero =>
   intro t hd ht
   rw[show a.take t=a from List.take_of_length_le (by omega)]
   exact fU.dw a a t (by omega)
  |succ d ih =>
   intro t hd ht
   obtain⟨v,hv⟩:∃v,a[t]? = some v:=⟨_,List.getElem?_eq_getElem (by omega)⟩
   have:=ih (t+1) (by omega) (by omega)
   rw[List.take_add_one,hv] at this
   have f:=hf v (List.mem_of_getElem? hv)
   exact fU.l10 _ a t v (by omega) hv (by rw[List.nil_append];have:=f.1;omega) (by rw[List.nil_append];have:=f.2;omega) (by rw[List.length_append,List.length_take,List.length_singleton];omega) (by omega) this
 exact fU.e0 a (loop _ 0 rfl (by omega))
theorem tC:Cp 116 [ae []] (ae []) :=
 cW.e3 [] (-1) tB (by decide) (cW.Wr [] 0 [] (by omega) (by omega) (by decide) (copied [] (by decide) (by intro x h;cases h)))
theorem vS{a:List ah}{k:Nat}(hk:k≤5)(h:a.length=2^k)(hf:iN 1073741824 a):Cp 116 [ae a] (ae (xq a k)):=by
 have tk:∀n,iN 1073741824 (a.take n):=fun n x hx=>hf x (List.mem_of_mem_take hx)
 have b5:2^k≤2^5:=Nat.pow_le_pow_right (by omega) hk
 have loop:∀t:Nat,t≤k→cW.aj a (2^t) (ae (xq a t)):=by
  intro t
  induction t with
  |zero =>
   intro _
   have p0:0<2^k:=Nat.two_pow_pos _
   have e:=empty (a.take 1) (by rw[List.length_take];omega)
   unfold xq
   by_cases hb:(a.take 1).all n6=true
   ·rw[if_pos hb]
    exact cW.AS a 1 _ (by omega) rfl (by omega) e hb
   ·rw[if_neg hb]
    exact cW.T2 a 1 _ _ (by omega) rfl (by omega) e (by rwa[Bool.not_eq_true] at hb) (by omega) (copied _ (by rw[List.length_take];omega) (tk 1))
  |succ t ih =>
   intro ht
   have le:2^(t+1)≤2^k:=Nat.pow_le_pow_right (by omega) ht
   have p0:0<2^t:=Nat.two_pow_pos _
   have hh:2^(t+1)/2=2^t:=by rw[Nat.pow_succ];omega
   have h2:1<2^(t+1):=by rw[Nat.pow_succ];omega
   have e:=empty ((a.take (2^(t+1))).drop (2^t)) (by rw[List.length_drop,List.length_take];omega)
   unfold xq
   by_cases hb:((a.take (2^(t+1))).drop (2^t)).all n6=true
   ·rw[if_pos hb]
    exact cW.l10 a _ _ h2 (by omega) (by omega) (by omega) (by rw[hh];exact e) hb (by rw[hh];exact ih (by omega))
   ·rw[if_neg hb]
    exact cW.oK a _ _ _ h2 (by omega) (by omega) (by omega) (by rw[hh];exact e) (by rwa[Bool.not_eq_true] at hb) (by omega) (copied _ (by rw[List.length_take];omega) (tk _))
 have:=loop k (Nat.le_refl _)
 rw[←h] at this
 have p0:0<2^k:=Nat.two_pow_pos _
 exact cW.e2 a (k:Int) (level (by omega) h) (by omega) (by omega) (by omega) this
end vR
def kU(q:List Rat):Bool:=q.all (fun x=>decide (x=0))
def gQ(q:List Rat)(n:Nat):List Rat:=q.take n++List.replicate (n-q.length) 0
def sD(p q:List Rat):List Rat:=List.zipWith (·+·) (gQ p (max p.length q.length)) (gQ q (max p.length q.length))
theorem iK(q:List Rat)(n:Nat):(gQ q n).length=n:=by unfold gQ;rw[List.length_append,List.length_take,List.length_replicate];omega
theorem oY{α:Type}{l1 l2:List α}{v w:α}{t:Nat}(h:l1.length=t):(l1++v::l2).set t w=(l1++[w])++l2:=by
 subst h
 simp
namespace vR
theorem zero(q:List Rat)(hl:q.length≤1000)(hf:Fl 68719476736 q):Cp 197 [pq q] (vB (kU q)):=by
 have loop:∀d t:Nat,q.length-t=d→fW.aj (q.map aE) t (vB (kU (q.drop t))):=by
  intro d
  induction d with
  |zero =>
   intro t hd
   rw[List.drop_of_length_le (by omega)]
   exact fW.ji _ t (by rw[List.length_map];omega)
  |succ d ih =>
   intro t hd
   obtain⟨v,hv⟩:∃v,q[t]? = some v:=⟨_,List.getElem?_eq_getElem (by omega)⟩
   have uy:(q.map aE)[t]? = some (aE v):=by rw[List.getElem?_map,hv];rfl
   have s:=QF.Sign v (hf v (List.mem_of_getElem? hv))
   unfold kU
   rw[pP hv]
   by_cases h0:v=0
   ·rw[decide_eq_true h0]
    exact fW.dw _ t _ _ (by rw[List.length_map];omega) uy s (dm.2 h0) (by omega) (ih (t+1) (by omega))
   ·rw[decide_eq_false h0]
    exact fW.l10 _ t _ _ (by rw[List.length_map];omega) uy s (fun e=>h0 (dm.1 e))
 have:=loop _ 0 rfl
 rw[List.drop_zero] at this
 exact fW.e0 _ this
theorem minus(q:List Rat)(hl:q.length≤1000)(hf:Fl 68719476736 q):Cp 120 [pq q] (pq (q.map (- ·))):=by
 have loop:∀d t:Nat,q.length-t=d→t≤q.length→gA.aj (q.map aE) t (((q.take t).map (- ·)).map aE++List.replicate d (⟨false,[],[]⟩:ah)) (pq (q.map (- ·))):=by
  intro d
  induction d with
  |zero =>
   intro t hd ht
   rw[show q.take t=q from List.take_of_length_le (by omega),List.replicate_zero,List.append_nil]
   exact gA.dw _ t _ (by rw[List.length_map];omega) (by simp)
  |succ d ih =>
   intro t hd ht
   obtain⟨v,hv⟩:∃v,q[t]? = some v:=⟨_,List.getElem?_eq_getElem (by omega)⟩
   have uy:(q.map aE)[t]? = some (aE v):=by rw[List.getElem?_map,hv];rfl
   have s:=QF.Neg v (hf v (List.mem_of_getElem? hv))
   have:=ih (t+1) (by omega) (by omega)
   rw[List.take_add_one,hv] at this
   refine gA.l10 _ t _ _ _ (by rw[List.length_map];omega) uy s (by simp;omega) (by omega) ?_
   rw[List.replicate_succ,oY (by simp;omega)]
   simpa using this
 have:=loop _ 0 rfl (by omega)
 refine gA.e0 _ (by rw[List.length_map];omega) ?_
 rw[List.length_map]
 simpa using this
theorem n7(q:List Rat)(n:Nat):(q.map aE).take (min (q.map aE).length n)++(List.replicate n (⟨false,[],[]⟩:ah)).drop (min (q.map aE).length n)=(gQ q n).map aE:=by
 unfold gQ
 rw[List.map_append,List.map_take,List.map_replicate,ot,List.length_map,List.drop_replicate]
 by_cases h:q.length≤n
 ·rw[Nat.min_eq_left h,List.take_of_length_le (by simp),List.take_of_length_le (by simp;omega)]
 ·rw[Nat.min_eq_right (by omega),Nat.sub_self,show n-q.length=0 from by omega]
theorem wide(q:List Rat)(n:Nat)(hn:n≤1000):Cp 177 [pq q,vI (n:Int)] (pq (gQ q n)):=by
 have:=vy.e0 (q.map aE) (n:Int) n rfl (by omega) (by rw[List.length_replicate];omega) (by rw[n7,List.length_map,iK])
 rwa[n7] at this
theorem HH(q:List Rat)(n:Nat)(hn:n≤1000):av bT 177 [.pv (pq q),.pv (vI (n:Int))] [] (.row 0 0 n 3) [(0,(.pure ((((gQ q n).map aE):List ah).map ah.cells).flatten))]:=by
 have:=tS.e0 (q.map aE) (n:Int) n rfl (by omega) (by rw[List.length_replicate];omega)
 rwa[n7,List.take_of_length_le (by rw[List.length_map,iK];omega)] at this
end vR
theorem sE{H:Nat}{q:List Rat}(n:Nat)(h:Fl H q)(h1:1≤H):Fl H (gQ q n):=fun x hx=>by
 unfold gQ at hx
 rcases List.mem_append.1 hx with hx|hx
 ·exact h x (List.mem_of_mem_take hx)
 ·rw[(List.mem_replicate.1 hx).2]
  exact Nat.le_trans (show ht 0≤1 by decide) h1
theorem sF(x:Rat):n6 (aE x)=decide (x=0):=by
 by_cases h:x=0
 ·subst h;rfl
 ·rw[decide_eq_false h]
  refine Bool.eq_false_iff.2 fun e=>h ?_
  apply Dk
  rw[ot]
  unfold n6 at e
  rcases hm:aE x with ⟨a,b,c⟩
  rw[hm] at e
  simp at e
  obtain⟨⟨rfl,rfl⟩,rfl⟩:=e
  rfl
namespace vR
theorem plus(p q:List Rat)(hp:p.length≤1000)(hq:q.length≤1000)(fp:Fl 68719476736 p)(fq:Fl 68719476736 q):Cp 118 [pq p,pq q] (pq (sD p q)):=by
 unfold sD
 have ln:max (p.map aE).length (q.map aE).length=max p.length q.length:=by rw[List.length_map,List.length_map]
 generalize hn:max p.length q.length=n at *
 have wx:=HH p n (by omega)
 have w:=wide q n (by omega)
 have hA:=iK p n
 have hB:=iK q n
 have fA:=sE n fp (by omega)
 have fB:=sE n fq (by omega)
 generalize gQ p n=A at *
 generalize gQ q n=B at *
 have loop:∀d t:Nat,n-t=d→t≤n→iv.aj n (B.map aE) t ((List.zipWith (·+·) (A.take t) (B.take t)++A.drop t).map aE) (pq (List.zipWith (·+·) A B)):=by
  intro d
  induction d with
  |zero =>
   intro t hd ht
   rw[show A.take t=A from List.take_of_length_le (by omega),show B.take t=B from List.take_of_length_le (by omega),List.drop_of_length_le (by omega),List.append_nil]
   exact iv.dw n _ t _ (by omega) (by simp;omega)
  |succ d ih =>
   intro t hd ht
   obtain⟨v,hv⟩:∃v,A[t]? = some v:=⟨_,List.getElem?_eq_getElem (by omega)⟩
   obtain⟨u,hu⟩:∃v,B[t]? = some v:=⟨_,List.getElem?_eq_getElem (by omega)⟩
   have hl:(List.zipWith (·+·) (A.take t) (B.take t)).length=t:=by simp;omega
   have:=ih (t+1) (by omega) (by omega)
   rw[List.take_add_one,List.take_add_one,hv,hu] at this
   refine iv.l10 n _ t _ (aE v) (aE u) (aE (v+u)) (by omega) ?_ (by rw[List.getElem?_map,hu];rfl) (QF.Add v u (fA v (List.mem_of_getElem? hv)) (fB u (List.mem_of_getElem? hu))) (by simp;omega) (by omega) ?_
   ·rw[List.getElem?_map,List.getElem?_append_right (by omega),hl,Nat.sub_self,List.getElem?_drop,Nat.add_zero,hv];rfl
   ·rw[drop_cons hv,List.map_append,List.map_cons,oY (by rw[List.length_map];exact hl)]
    rw[List.zipWith_append (by simp;omega)] at this
    simpa using this
 have:=loop _ 0 rfl (by omega)
 refine iv.e0 _ _ (A.map aE) n (B.map aE) (by rw[ln];exact wx) (by rw[ln];exact w) ?_
 simpa using this
theorem HI{H:Nat}{q:List Rat}(h:Fl H q)(h1:H≤68719476736):Fl 68719476736 q:=fun x hx=>Nat.le_trans (h x hx) h1
theorem number(t:cD)(q:List Rat)(hf:Fl 68719476736 q)(ht:t.roots.length≤10)(hl:q=[]∨∃k,k≤t.roots.length∧q.length=2^k):Cp 194 [t.pv,pq q] .aq:=by
 have hlen:q.length≤1024:=by
  rcases hl with rfl|⟨k,h1,h2⟩
  ·simp
  ·have:2^k≤2^10:=Nat.pow_le_pow_right (by omega) (by omega)
   omega
 have loop:∀d t:Nat,q.length-t=d→eA.aj (q.map aE) t .aq:=by
  intro d
  induction d with
  |zero =>
   intro t hd
   exact eA.ji _ t (by rw[List.length_map];omega)
  |succ d ih =>
   intro t hd
   obtain⟨v,hv⟩:∃v,q[t]? = some v:=⟨_,List.getElem?_eq_getElem (by omega)⟩
   have uy:(q.map aE)[t]? = some (aE v):=by rw[List.getElem?_map,hv];rfl
   exact eA.dw _ t _ _ (by rw[List.length_map];omega) uy (QF.Valid v (hf v (List.mem_of_getElem? hv))) rfl (by omega) (ih (t+1) (by omega))
 rcases hl with rfl|⟨k,h1,h2⟩
 ·exact eA.e3 t _ (by simp) (loop _ 0 rfl)
 ·have p0:0<2^k:=Nat.two_pow_pos _
  exact eA.e2 t _ (k:Int) (by rw[List.length_map];omega) (level (by omega) (by rw[List.length_map];exact h2)) (by omega) (by omega) (loop _ 0 rfl)
def zl(q:List Rat):List Rat:=if kU q then [] else q
theorem ku(q:List Rat)(hl:q.length≤1)(hf:Fl 1073741824 q):Cp 116 [pq q] (pq (zl q)):=by
 match q,hl with
 |[],_=>exact tC
 |[x],_ =>
  have:=vS (a:=[aE x]) (k:=0) (by omega) rfl (fun y hy=>by
   have:=List.mem_singleton.1 hy
   subst this
   have:=aW (hf x (by simp))
   exact⟨Nat.le_trans this.1 (by omega),Nat.le_trans this.2 (by omega)⟩)
  unfold xq at this
  unfold zl kU
  rw[show ([aE x]:List ah).take 1=[aE x] from rfl] at this
  by_cases h:x=0
  ·rw[if_pos (by simp[h])]
   rwa[if_pos (by simp[sF,h])] at this
  ·rw[if_neg (by simp[h])]
   rwa[if_neg (by simp[sF,h])] at this
def vw(p q:List Rat):List Rat:=if kU p||kU q then [] else [p.headD 0*q.headD 0]
theorem Cg(t:cD)(p q:List Rat)(hp:p.length≤1)(hq:q.length≤1)(fp:Fl 68719476736 p)(fq:Fl 68719476736 q):Cp 117 [t.pv,pq p,pq q] (pq (vw p q)):=by
 have zp:=zero p (by omega) fp
 have zq:=zero q (by omega) fq
 unfold vw
 by_cases h:p.length<q.length
 ·have mc:p=[]:=List.eq_nil_of_length_eq_zero (by omega)
  subst mc
  rw[show kU []=true from rfl,Bool.true_or,if_pos rfl]
  by_cases hz:kU q=true
  ·exact fo.e0 t _ _ _ (by simpa using h) zq hz
  ·exact fo.e1 t _ _ _ _ (by simpa using h) zq (by rwa[Bool.not_eq_true] at hz) zp rfl
 ·by_cases hz:kU p=true
  ·rw[hz,Bool.true_or,if_pos rfl]
   exact fo.e5 t _ _ _ (by simpa using h) zp hz
  ·rw[Bool.not_eq_true] at hz
   rw[hz,Bool.false_or]
   by_cases hy:kU q=true
   ·rw[if_pos hy]
    exact fo.e6 t _ _ _ _ (by simpa using h) zp hz zq hy
   ·rw[if_neg hy]
    rw[Bool.not_eq_true] at hy
    rcases p with _|⟨x,p⟩
    ·cases hz
    rcases q with _|⟨y,q⟩
    ·cases hy
    have e1:p=[]:=List.eq_nil_of_length_eq_zero (by rw[List.length_cons] at hp;omega)
    have e2:q=[]:=List.eq_nil_of_length_eq_zero (by rw[List.length_cons] at hq;omega)
    subst e1 e2
    have m:=QF.Mul x y (fp x (by simp)) (fq y (by simp))
    exact fo.e7 t [aE x] [aE y] _ _ (aE x) (aE y) (aE (x*y)) (by simp) zp hz zq hy (by simp) (by simp) (by simp) m
end vR
namespace zI
theorem Ny:jl 7 6:=by decide +kernel
theorem AF{q:List Rat}(z:aJ q=false)(h0:q≠[])(hl:q.length≤6)(hf:Fl 1 q):cH 7 6 q:=⟨z,h0,hl,(Ch.uH hf).mono (by omega),by omega,by omega,by decide +kernel⟩
theorem HJ(a b:Rat)(dK:a≤b)(ha:a.num.natAbs<100)(hb:b.num.natAbs<100)(VU:a.den<100)(ye:b.den<100)(s1:(ratT a).size<1000)(s2:(ratT b).size<1000):Cp 60 [(cY a b).pv] (.str (ratT a++ByteArray.mk #[46,46]++ratT b)):=by
 have h1:ht a≤1:=Nat.max_le.2 ⟨eY (by omega),eY (by rw[Int.natAbs_natCast];omega)⟩
 have h2:ht b≤1:=Nat.max_le.2 ⟨eY (by omega),eY (by rw[Int.natAbs_natCast];omega)⟩
 have hc:=uA.clean (cY a b) (fO (Nat.le_trans h1 (by omega)) (Nat.le_trans h2 (by omega)))
 rw[fe dK,fg dK] at hc
 have e2:(ByteArray.mk #[46,46]).size=2:=rfl
 exact qM.e0 _ (cY a b) _ _ hc (PG.j6 a ha VU) (by omega) (PG.j6 b hb ye) (by rw[ByteArray.size_append];omega)
abbrev pI:List Rat:=[-2,0,1]
abbrev rq:List Rat:=[-3,0,1]
theorem Nz:fM 7 6 pI=[(-4,0),(0,4)]:=by decide +kernel
theorem NA:fM 7 6 rq=[(-4,0),(0,4)]:=by decide +kernel
def a2:az:=bW (aM pI) 0 4
def a3:az:=bW (aM rq) 0 4
theorem HK:aM pI=pI:=by decide +kernel
theorem HL:aM rq=rq:=by decide +kernel
theorem zm:a2=bW pI 0 4:=by unfold a2;rw[HK]
theorem zn:a3=bW rq 0 4:=by unfold a3;rw[HL]
theorem nt:aT a2.p=pI:=by rw[zm];exact cO _
theorem vT:aT a3.p=rq:=by rw[zn];exact cO _
theorem vO:loG a2.rV=0:=fe (by decide +kernel)
theorem ql:hiG a2.rV=4:=fg (by decide +kernel)
theorem RZ:loG a3.rV=0:=fe (by decide +kernel)
theorem Kt:hiG a3.rV=4:=fg (by decide +kernel)
theorem HM:Sh a2:=by
 have hf:Fl 1 pI:=by decide +kernel
 rw[zm]
 exact⟨by unfold bW;simp,db hf,⟨aW (by decide +kernel),aW (by decide +kernel)⟩⟩
theorem NB:Sh a3:=by
 have hf:Fl 1 rq:=by decide +kernel
 rw[zn]
 exact⟨by unfold bW;simp,db hf,⟨aW (by decide +kernel),aW (by decide +kernel)⟩⟩
theorem rG:fw a2=0:=by
 have z:aJ pI=false:=by decide +kernel
 have he:iO a2.p=0:=by
  unfold iO
  rw[show kN a2.p=0 from by rw[zm];exact cE z (by simp),if_pos rfl,if_neg (by rw[zm];unfold bW;simp)]
 have hg:(bF pI (ar pI)).length=1:=by decide +kernel
 have hi:fX pI a2.rV=true:=by
  unfold fX
  rw[show a2.rV=cY 0 4 from rfl,mb (by decide +kernel),fe (by decide +kernel),fg (by decide +kernel),Bool.true_and]
  decide +kernel
 unfold fw
 rw[nt,if_neg (by omega),if_neg (by omega),if_pos hi]
theorem Ci:fw a3=0:=by
 have z:aJ rq=false:=by decide +kernel
 have he:iO a3.p=0:=by
  unfold iO
  rw[show kN a3.p=0 from by rw[zn];exact cE z (by simp),if_pos rfl,if_neg (by rw[zn];unfold bW;simp)]
 have hg:(bF rq (ar rq)).length=1:=by decide +kernel
 have hi:fX rq a3.rV=true:=by
  unfold fX
  rw[show a3.rV=cY 0 4 from rfl,mb (by decide +kernel),fe (by decide +kernel),fg (by decide +kernel),Bool.true_and]
  decide +kernel
 unfold fw
 rw[vT,if_neg (by omega),if_neg (by omega),if_pos hi]
theorem NC:aK pI 0 4 (grQ 1 0)=1:=by decide +kernel
theorem ND:aK pI 0 4 (grQ 2 0) = -1:=by decide +kernel
theorem Cj:aK pI 0 4 (grQ 2 1)=1:=by decide +kernel
theorem Ck:aK pI 0 4 (grQ 3 1) = -1:=by decide +kernel
theorem NG:aK rq 0 4 (grQ 2 0) = -1:=by decide +kernel
theorem HN:aK rq 0 4 (grQ 3 1)=1:=by decide +kernel
theorem AG:Cp 35 [a2.pv,a3.pv] (.aB [vI (-1),.aq]):=by
 have A:=(HM.acc rG).lj
 have B:=(NB.acc Ci).lj
 obtain⟨s,s1,s2⟩:=hX.jN HM NB rG Ci
 have lt:xZ (aT a2.p) (loG a2.rV) (hiG a2.rV) (aT a3.p) (loG a3.rV) (hiG a3.rV):=by
  rw[nt,vT,vO,ql,RZ,Kt]
  exact⟨grQ 3 1,Ck,HN⟩
 rcases s2 with ⟨_,q⟩|⟨q,_⟩|⟨_,q⟩
 ·exact absurd q (w8 A B lt)
 ·rw[q] at s1;exact s1
 ·exact absurd q (x5 A B lt)
theorem HO:Cp 13 [a2.pv,vI 1] (.aB [(cY 1 (Rat.divInt 3 2)).pv,.aq]):=by
 have A:=(HM.acc rG).lj
 obtain⟨n,_,n2,n3,n4⟩:=hX.LV HM rG (b:=1) (by omega)
 have e:n=2:=by
  refine kT A n2 n3 ?_ ?_
  ·rw[nt,vO,ql,Cj];omega
  ·rw[nt,vO,ql];exact Ck
 subst e
 rw[nt,vO,ql,if_neg (by rw[Cj];omega)] at n4
 rw[show grQ 2 1=1 from by decide +kernel,show grQ (2+1) 1=Rat.divInt 3 2 from by decide +kernel] at n4
 exact n4
theorem Cl:Cp 14 [a2.pv,a3.pv] (.aB [(aE (Rat.divInt 3 2)).pv,.aq]):=by
 have A:=HM.acc rG
 have B:=NB.acc Ci
 rw[nt,vO,ql] at A
 rw[vT,RZ,Kt] at B
 have s0:=hX.mg A B (t:=0) (by omega) (n:=1) (by rw[NC];omega) ND
 have s1:=hX.mg A B (t:=1) (by omega) (n:=2) (by rw[Cj];omega) Ck
 have r:=s0.2 (by show aK rq 0 4 (grQ 2 0)≠1;rw[NG];omega) _ (s1.1 HN)
 rw[show grQ (2+1) 1=Rat.divInt 3 2 from by decide +kernel] at r
 exact bR.e1 a2 a3 _ AG (by omega) r
theorem n1:numT 1=ByteArray.mk #[49]:=by unfold numT;rw[if_neg (by decide),show(1:Int).natAbs=1 from rfl,lE (by omega)];rfl
theorem n2:numT 2=ByteArray.mk #[50]:=by unfold numT;rw[if_neg (by decide),show(2:Int).natAbs=2 from rfl,lE (by omega)];rfl
theorem n3:numT 3=ByteArray.mk #[51]:=by unfold numT;rw[if_neg (by decide),show(3:Int).natAbs=3 from rfl,lE (by omega)];rfl
theorem t1:ratT 1=ByteArray.mk #[49]:=by unfold ratT;rw[if_pos (by decide),show(1:Rat).num=1 from rfl,n1]
theorem t32:ratT (Rat.divInt 3 2)=ByteArray.mk #[51,47,50]:=by
 have en:(Rat.divInt 3 2).num=3:=by decide +kernel
 have ed:((Rat.divInt 3 2).den:Int)=2:=by decide +kernel
 unfold ratT
 rw[if_neg (by rw[ed];decide),en,ed,n3,n2]
 decide +kernel
theorem Fc(q:List Rat)(hl:q.length≤1000)(hf:Fl 68719476736 q):Cp 42 [pq q,pq q] (vB true):=by
 have:=PA.To (q.map aE) (q.map aE) (by rw[bf];omega) (fun a ha=>by
  obtain⟨x,hx,rfl⟩:=List.mem_map.1 ha
  have:=aW (hf x hx)
  omega)
 rw[A4] at this
 exact lM.e0 _ _ _ this
theorem Cn(mi:Cp 38 [(⟨[[aE 2]]⟩:cD).pv,pq [1,1]] (.aB [pq [-1, -2,1],.aq])):Cp 12 [] (vB true):=by
 have h2:=of [-2,0,1] (by unfold aw;decide) (by decide)
 have h3:=of [-3,0,1] (by unfold aw;decide) (by decide)
 have g1:=of [2] (by unfold aw;decide) (by decide)
 have g2:=of [1,1] (by unfold aw;decide) (by decide)
 have g3:=of [-1, -2,1] (by unfold aw;decide) (by decide)
 have F2:Fl 1 pI:=by decide +kernel
 have F3:Fl 1 rq:=by decide +kernel
 have r2:=hX.xd (AF (by decide +kernel) (by simp) (by decide) F2) F2.bd Ny
 have r3:=hX.xd (AF (by decide +kernel) (by simp) (by decide) F3) F3.bd Ny
 rw[Nz] at r2
 rw[NA] at r3
 have x1:=HJ 1 (Rat.divInt 3 2) (by decide +kernel) (by decide +kernel) (by decide +kernel) (by decide +kernel) (by decide +kernel) (by rw[t1];decide) (by rw[t32];decide)
 rw[t1,t32] at x1
 have x2:=PG.j6 (Rat.divInt 3 2) (by decide +kernel) (by decide +kernel)
 rw[t32] at x2
 have sm:=Fc [-1, -2,1] (by decide) (by decide +kernel)
 exact eV.e2 _ _ _ _ _ _ _ a2 a3 (-1) (cY 1 (Rat.divInt 3 2)) (aE (Rat.divInt 3 2)) _ _ _ _ h2 r2 h3 r3 g1 g2 mi rfl rfl rfl rfl AG HO Cl rfl x1 (by decide +kernel) x2 rfl g3 sm
end zI
def bL:cD:=⟨[[aE 2]]⟩
abbrev iX(q:List Rat):Prop:=Fl 1073741824 q
theorem iX.fl{q:List Rat}(h:iX q):Fl 68719476736 q:=vR.HI h (by omega)
namespace vR
theorem HP:Cp 119 [(⟨[]⟩:cD).pv,pq [2]] (vI 1):=by
 have f:Fl 1073741824 [(2:Rat)]:=by decide +kernel
 have s:=ku [2] (by decide) f
 rw[show zl [2]=[2] from by decide +kernel] at s
 have g:=QF.Sign 2 (by decide +kernel)
 rw[show dz 2 0=1 from by decide +kernel] at g
 exact vx.e1 ⟨[]⟩ [aE 2] [aE 2] (aE 2) 1 s (by simp) (by simp) (by simp) g
theorem vV:Cp 193 [bL.pv] .aq:=by
 have n:=number ⟨[]⟩ [2] (by decide +kernel) (by decide) (Or.inr ⟨0,by decide,rfl⟩)
 exact jx.e1 bL (by decide) (jx.ji bL 0 [aE 2] 1 (by decide) rfl (by omega) (by decide) rfl (by omega) n HP (by omega) (by omega) (jx.AS bL 1 (by decide)))
def Lv(q:List Rat):Prop:=q=[]∨∃k,k≤1∧q.length=2^k
theorem Co{q:List Rat}(f:iX q)(h:Lv q):Cp 194 [bL.pv,pq q] .aq:=number bL q (iX.fl f) (by decide) h
theorem n8{p:List Rat}(fp:iX p)(hp:Lv p):Cp 115 [bL.pv,bq (an ah.cells) [p.map aE]] .aq :=
 cZ.e0 bL _ vV (cZ.l10 _ 0 bL (p.map aE) (by simp) rfl (Co fp hp) (by omega) (cZ.ji _ 1 bL (by simp)))
theorem jR{p q:List Rat}(fp:iX p)(hp:Lv p)(fq:iX q)(hq:Lv q):Cp 115 [bL.pv,bq (an ah.cells) [p.map aE,q.map aE]] .aq :=
 cZ.e0 bL _ vV (cZ.l10 _ 0 bL (p.map aE) (by simp) rfl (Co fp hp) (by omega) (cZ.l10 _ 1 bL (q.map aE) (by simp) rfl (Co fq hq) (by omega) (cZ.ji _ 2 bL (by simp))))
theorem Cq{q:List Rat}(h:q.length≤1):Lv q:=by
 match q,h with
 |[],_=>exact Or.inl rfl
 |[x],_=>exact Or.inr ⟨0,by omega,rfl⟩
theorem mulC(p q r m:List Rat)(hp:p.length≤1)(hq:q.length≤1)(fp:iX p)(fq:iX q)(hm:vw p q=m)(lm:m.length≤1)(fm:iX m)(hr:zl m=r):Cp 47 [bL.pv,pq p,pq q] (.aB [pq r,.aq]):=by
 subst hr hm
 exact xP.e0 bL _ _ _ _ (jR fp (Cq hp) fq (Cq hq)) (Cg bL p q hp hq (iX.fl fp) (iX.fl fq)) (ku _ lm fm)
theorem zt(p q r m:List Rat)(hp:p.length≤1)(hq:q.length≤1)(fp:iX p)(fq:iX q)(hm:sD p q=m)(lm:m.length≤1)(fm:iX m)(hr:zl m=r):Cp 48 [bL.pv,pq p,pq q] (.aB [pq r,.aq]):=by
 subst hr hm
 exact xR.e0 bL _ _ _ _ (jR fp (Cq hp) fq (Cq hq)) (plus p q (by omega) (by omega) (iX.fl fp) (iX.fl fq)) (ku _ lm fm)
theorem zu(p q r m n:List Rat)(hp:p.length≤1)(hq:q.length≤1)(fp:iX p)(fq:iX q)(hn:q.map (- ·)=n)(fn:iX n)(hm:sD p n=m)(lm:m.length≤1)(fm:iX m)(hr:zl m=r):Cp 251 [bL.pv,pq p,pq q] (.aB [pq r,.aq]):=by
 subst hr hm hn
 exact xQ.e0 bL _ _ _ _ _ (jR fp (Cq hp) fq (Cq hq)) (minus q (by omega) (iX.fl fq)) (plus p _ (by omega) (by rw[List.length_map];omega) (iX.fl fp) (iX.fl fn)) (ku _ lm fm)
theorem Cr(x:Rat)(h:x≠0)(f:iX [x]):Cp 181 [bL.pv,pq [x]] (.aB [(aE x).pv,vB true]):=by
 have s:=ku [x] (by simp) f
 rw[show zl [x]=[x] from by unfold zl kU;rw[if_neg (by simp[h])]] at s
 exact xS.e2 bL [aE x] true [aE x] (aE x) (tT.e0 bL _ (n8 f (Cq (by simp)))) rfl s (by simp) (by simp) (by simp)
end vR
end Go.Proofs.YtllmkadmohkbfaaGreatDoor.Sym
end
