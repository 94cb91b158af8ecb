/- Lemmas. -/
import Derived.Test.YtllmkadmohkbfaaGreatDoorG6
set_option maxRecDepth 20000
set_option linter.unusedVariables false
noncomputable section
namespace Go.Proofs.YtllmkadmohkbfaaGreatDoor.Sym.Path
open Go Tryz
namespace iz
theorem e0(p:Rs)(b:ah)(c:List (Rs))(d:ah)(z:List af)(h1:Cp 150 [ae p] (.aB [b.pv,.aq]))(h2:Cp 151 [ae p] (.aB [(bq (an ah.cells) c),.aq]))(h3:Cp 87 [b.pv] d.pv)(h4:av bT 152 [.pv .gb,.pv (ae p),.pv (bq (an ah.cells) c),.pv d.pv,.pv b.pv] [] (.row 0 0 z.length 6) [(0,(.pure ((z:List af).map af.cells).flatten))]):Cp 75 [ae p] (.aB [bq af.cells z,.aq]):=
 eD func75 114 [1,1,1,1,3] [.q,.h 1 (.pv (.aB [b.pv,.aq])),.q,.a,.h 1 (.pv (.aB [(bq (an ah.cells) c),.aq])),.q,.a,dr 5 3 [.none,.none,.none,(.pv d.pv),.none,(.bI [] (some (0,28)) (.row 0 0 z.length 6) [(0,(.pure ((z:List af).map af.cells).flatten))])],.iZ 2 ((z:List af).map af.cells)] (y5 h1 h2 h3 h4 (eR eX (z:List af) (Eq.refl (z:List af).length)))
end iz
namespace gO
theorem e0(p:Rs)(rV:af)(b:Bool)(c:Option Int)(h1:Cp 165 [ae p] .aq)(h2:Cp 166 [ae p,rV.pv] (.aB [vB b,bC c])):Cp 82 [ae p,rV.pv] (.aB [vB b,bC c]):=
 eD func82 93 [1,1] [.q,.h 1 (.pv .aq),.q,.a,.h 2 (.pv (.aB [vB b,bC c]))] (y2 h1 h2)
end gO
namespace cF
theorem e0(p:Rs)(a:Int)(h1:Cp 56 [ae p] (vI a))(h2:a≠0):Cp 83 [ae p] (vI a):=
 eD func83 90 [1,1] [.q,.h 1 (.pv (vI a)),.q,.t,.q] (y2 h1 (dq h2))
theorem e1(p:Rs)(a:Int)(h1:Cp 56 [ae p] (vI a))(h2:a=0)(h3:p.length=0):Cp 83 [ae p] (vI 8):=
 eD func83 105 [1,1,1,1] [.q,.h 1 (.pv (vI a)),.q,.f,.h 1 (iI (p.length:Int)),.t,.q] (y4 h1 (bZ h2) (au ah.cells p) (aL h3))
theorem e2(p:Rs)(a:Int)(h1:Cp 56 [ae p] (vI a))(h2:a=0)(h3:p.length≠0):Cp 83 [ae p] (vI 0):=
 eD func83 108 [1,1,1,1] [.q,.h 1 (.pv (vI a)),.q,.f,.h 1 (iI (p.length:Int)),.f,.q] (y4 h1 (bZ h2) (au ah.cells p) (aC h3))
end cF
namespace dQ
theorem e1(p:Rs)(rV:af)(a:Int)(b:Bool)(h1:Cp 83 [ae p] (vI a))(h2:a=0)(h3:Cp 168 [ae p,rV.pv] (vB b)):Cp 86 [ae p,rV.pv] (.aB [vB b,vI 0]):=
 eD func86 93 [1,1,1] [.q,.h 1 (.pv (vI a)),.q,.f,.h 2 (.pv (vB b))] (y3 h1 (bZ h2) h3)
end dQ
namespace cI
@[reducible] def fn:Func:=Tryz.f150
def bK:List gC:=focus [0,2,0,0,2,0,2,1,2,0,2,0,0,2,0,0] [.code (aA fn)]
def inv1(p:List ah)(kQ:Nat)(dG:ah):St:=⟨[(0,(.pv (ae p))),(2,(.ptr 2 0)),(5,(.ptr 5 0)),(17,(.pv (ae p))),(18,(eI (p.length:Int))),(19,(eI (kQ:Int)))],[(2,(.lit [(eB false),(.pv (.list [])),(.pv (.list []))])),(5,(.lit [(eB dG.neg),(.pv (ag dG.num)),(.pv (ag dG.den))]))]⟩
@[reducible] def aj(p:List ah)(kQ:Nat)(dG:ah)(r:PV):Prop:=L bT fn bK (inv1 p kQ dG) r
def qv:List gC:=focus [0,2,0,0,2,0,2,1,2,0,2,0,0,2,0,0,0,0,2,0,0,2,0,0,0,2,0,2,0,0,2,1,2,0,0] [.code (aA fn)]
def inv2(p:List ah)(kQ:Nat)(dG div:ah):St:=⟨[(0,(.pv (ae p))),(2,(.ptr 2 0)),(5,(.ptr 5 0)),(8,(.ptr 8 0)),(17,(.pv (ae p))),(18,(eI (p.length:Int))),(19,(eI (kQ:Int)))],[(2,(.lit [(eB false),(.pv (.list [])),(.pv (.list []))])),(5,(.lit [(eB dG.neg),(.pv (ag dG.num)),(.pv (ag dG.den))])),(8,(.lit [(eB div.neg),(.pv (ag div.num)),(.pv (ag div.den))]))]⟩
@[reducible] def cz(p:List ah)(kQ:Nat)(dG div:ah)(r:PV):Prop:=L bT fn qv (inv2 p kQ dG div) r
theorem e0(p:Rs)(of:ah){r:PV}(h1:Cp 165 [ae p] .aq)(h2:Cp 46 [vI 1] of.pv)(hL:aj p 0 of r):Cp 150 [ae p] r:=
 eG func150 108 [1,1,1] [.q,.h 1 (.pv .aq),.q,.a,.h 0 (.pv of.pv),.h 1 (iI (p.length:Int)),.aP [0,2,5,17,18,19],.ord [2,5]] (y3 h1 h2 (au ah.cells p)) hL
theorem l10(p:Rs)(b:Nat)(c v:ah)(k:Nat)(v1 d:ah){r:PV}(h1:b<p.length)(h2:p[b]? = some v)(h3:aw ((p.length:Int)-1))(h4:((p.length:Int)-1)=(k:Int))(h5:p[k]? = some v1)(h6:Cp 234 [v.pv,v1.pv] (.aB [d.pv,.aq]))(hL:cz p b c d r):aj p b c r:=
 lG 165 [1,3,1,1,3,1] [.a,.q,.t,.h 0 (.row b (ah.cells v)),dr 13 1 [.none,.none,.none,(iI (p.length:Int)),(iI ((p.length:Int)-1)),(.row k (ah.cells v1)),.none,(.pv (.aB [d.pv,.aq]))],.q,.a,.aP [0,2,5,8,17,18,19],.drop [7],.ord [2,5,8]] (y6 (ak h1) (bU ah.cells (Eq.refl (((b:Nat):Int):Int)) h2) (au ah.cells p) (aX h3) (bU ah.cells h4 h5) h6) hL
theorem ji(p:Rs)(b:Nat)(c:ah)(h1:p.length≤b):aj p b c (.aB [c.pv,.aq]):=
 lD 141 [1] [.a,.q,.f,.q] (y1 (ax h1))
theorem xl(p:Rs)(b:Nat)(c d of g i:ah)(j:Int)(k:ah){r:PV}(h1:Cp 46 [vI 1] of.pv)(h2:Cp 235 [d.pv] g.pv)(h3:Cp 91 [of.pv,g.pv] i.pv)(h4:Cp 34 [c.pv,i.pv] (vI j))(h5:j<0)(h6:Cp 91 [c.pv,c.pv] k.pv)(hL:cz p b k d r):cz p b c d r:=
 lG 192 [1,1,1,1,1,1] [.a,dr 7 0 [.none,(.pv of.pv),.none,(.pv g.pv),(.pv i.pv),(.pv (vI j))],.t,.h 2 (.pv k.pv),.aP [0,2,5,8,17,18,19]] (y6 h1 h2 h3 h4 (dJ h5) h6) hL
theorem AR(p:Rs)(b:Nat)(c d of g i:ah)(j:Int){r:PV}(h1:Cp 46 [vI 1] of.pv)(h2:Cp 235 [d.pv] g.pv)(h3:Cp 91 [of.pv,g.pv] i.pv)(h4:Cp 34 [c.pv,i.pv] (vI j))(h5:0≤j)(h6:(b+1)<9223372036854775808)(hL:aj p (b+1) c r):cz p b c d r:=
 lG 198 [1,1,1,1,1,1] [.a,dr 7 0 [.none,(.pv of.pv),.none,(.pv g.pv),(.pv i.pv),(.pv (vI j))],.f,.h 0 (iI (((b+1):Nat):Int)),.aP [0,2,5,17,18,19],.drop [8]] (y6 h1 h2 h3 h4 (bQ h5) (aR h6)) hL
end cI
namespace eJ
@[reducible] def fn:Func:=Tryz.f151
def bK:List gC:=focus [0,2,0,2,0,0,2,1,2,0,2,0,0,2,1,2,0,2,0,0,0] [.code (aA fn)]
def inv1(Nk:List ah)(jE:List (List ah)):St:=⟨[(6,(.pv (ae Nk))),(7,(.row 28 0 jE.length 1))],[(28,(.pure ((jE:List (List ah)).map (an ah.cells)).flatten))]⟩
@[reducible] def aj(Nk:List ah)(jE:List (List ah))(r:PV):Prop:=L bT fn bK (inv1 Nk jE) r
theorem e0(p b c:Rs){r:PV}(h1:Cp 76 [ae p] (.aB [ae b,.aq]))(h2:Cp 80 [ae b] (.aB [ae c,.aq]))(hL:aj c [b] r):Cp 151 [ae p] r:=
 eG func151 123 [1,1] [.q,.h 1 (.pv (.aB [ae b,.aq])),.q,.a,.h 1 (.pv (.aB [ae c,.aq])),.q,.a,.q,.aP [6,7]] (y2 h1 h2) hL
theorem l10(b:Rs)(c:List (Rs))(k:Nat)(v d g:Rs)(of:ah)(i:Rs){r:PV}(h1:0<b.length)(h2:((c++[b]):List (Rs)).length*24≤140737488355328)(h3:aw ((((c++[b]).length:Nat):Int)-2))(h4:((((c++[b]).length:Nat):Int)-2)=(k:Int))(h5:k<(c++[b]).length)(h6:(c++[b])[k]? = some v)(h7:Cp 236 [ae v,ae b] (.aB [ae d,ae g,.aq]))(h8:Cp 46 [(vI (-1))] of.pv)(h9:Cp 237 [ae g,of.pv] (.aB [ae i,.aq]))(hL:aj i (c++[b]) r):aj b c r:=
 lG 192 [1,1,6,1,2,1,1,1,1] [.a,.h 1 (iI (b.length:Int)),.t,.h 3 (.app ((c++[b]):List (Rs)).length (((c++[b]):List (Rs)).map (an ah.cells)).flatten),.ba [.o,.o,.o,(iI ((((c++[b]).length:Nat):Int)-2)),(.nat k),(.ev (.pv (ae v))),.o,(.pv (.aB [ae d,ae g,.aq]))],.q,.a,.ba [.o,(.pv of.pv),(.pv (.aB [ae i,.aq]))],.q,.a,.aP [6,7],.drop [34],.l7 35 28] (y9 (au ah.cells b) (ak h1) (gm (og ah.cells) (c:List (Rs)) ([b]:List (Rs)) 24 (Eq.refl (c:List (Rs)).length) (Eq.refl ([b]:List (Rs)).length) h2 rfl) (aX h3) (cj h4 h5) (j5 (enc:=(an ah.cells)) (f:=fun a=>(ae a)) (fun _=>rfl) h6) h7 h8 h9) hL
theorem oK(b:Rs)(c:List (Rs))(h1:b.length≤0):aj b c (.aB [(bq (an ah.cells) c),.aq]):=
 lD 156 [1,1,3] [.a,.h 1 (iI (b.length:Int)),.f,.q,.iZ 2 ((c:List (Rs)).map (an ah.cells))] (y3 (au ah.cells b) (ax h1) (eR (og ah.cells) (c:List (Rs)) (Eq.refl (c:List (Rs)).length)))
end eJ
namespace cU
@[reducible] def fn:Func:=Tryz.f152
theorem e0(p:Rs)(l:List (Rs))(lo hi:ah)(a b:Int)(h1:Cp 238 [(bq (an ah.cells) l),lo.pv] (vI a))(h2:Cp 238 [(bq (an ah.cells) l),hi.pv] (vI b))(h3:aw (a-b))(h4:(a-b)=0):av bT 152 [(.pv .gb),(.pv (ae p)),(.pv (bq (an ah.cells) l)),(.pv lo.pv),(.pv hi.pv)] [] (.row 0 0 0 6) [(0,(.pure (([]:List af).map af.cells).flatten))]:=
 uT func152 90 [1,1,1,1] [.ju 0 1 6,.q,dr 7 1 [.none,.none,(.pv (vI a)),.none,.none,(.pv (vI b)),(iI (a-b))],.q,.t,.q,.l7 1 0,.drop [9,8],.ord [0]] (y4 h1 h2 (aX h3) (aF h4))
theorem e1(p:Rs)(l:List (Rs))(lo hi:ah)(a b c d:Int)(g:af)(h1:Cp 238 [(bq (an ah.cells) l),lo.pv] (vI a))(h2:Cp 238 [(bq (an ah.cells) l),hi.pv] (vI b))(h3:aw (a-b))(h4:(a-b)≠0)(h5:(a-b)=1)(h6:Cp 239 [ae p,lo.pv] (vI c))(h7:c≠0)(h8:Cp 239 [ae p,hi.pv] (vI d))(h9:d=0)(dM:Cp 65 [hi.pv] g.pv)(gy:(([]:List af)++[g]:List af).length*112≤140737488355328):av bT 152 [(.pv .gb),(.pv (ae p)),(.pv (bq (an ah.cells) l)),(.pv lo.pv),(.pv hi.pv)] [] (.row 0 0 ([g].length) 6) [(0,(.pure (([g]:List af).map af.cells).flatten))]:=
 uT func152 117 [1,1,1,1,1,1,1,1,1,1,1,1,1,1,6] [.ju 0 1 6,.q,dr 7 1 [.none,.none,(.pv (vI a)),.none,.none,(.pv (vI b)),(iI (a-b))],.q,.f,.ba [.o,.o,.o,.o,.o,(.pv (vI c)),.o,(.dec true)],.t,.h 2 (.pv (vI d)),.t,.ba [.o,.o,(.pv g.pv),.o,(.app ([g]:List af).length (([g]:List af).map af.cells).flatten)],.l7 39 0,.drop [38,9,8],.ord [0]] (Cy h1 h2 (aX h3) (aN h4) (aF h5) (aF h5) (aF h5) h6 (aF h5) (aF h5) (dq h7) h8 (aF h9) dM (gm eX ([]:List af) ([g]:List af) 112 (Eq.refl ([]:List af).length) (Eq.refl ([g]:List af).length) gy rfl))
theorem e2(p:Rs)(l:List (Rs))(lo hi:ah)(a b c d:Int)(g i:ah)(h1:Cp 238 [(bq (an ah.cells) l),lo.pv] (vI a))(h2:Cp 238 [(bq (an ah.cells) l),hi.pv] (vI b))(h3:aw (a-b))(h4:(a-b)≠0)(h5:(a-b)=1)(h6:Cp 239 [ae p,lo.pv] (vI c))(h7:c≠0)(h8:Cp 239 [ae p,hi.pv] (vI d))(h9:d≠0)(dM:Cp 91 [lo.pv,(⟨false,[],[]⟩:ah).pv] g.pv)(gy:Cp 91 [hi.pv,(⟨false,[],[]⟩:ah).pv] i.pv)(j8:(([]:List af)++[(⟨g,i⟩:af)]:List af).length*112≤140737488355328):av bT 152 [(.pv .gb),(.pv (ae p)),(.pv (bq (an ah.cells) l)),(.pv lo.pv),(.pv hi.pv)] [] (.row 0 0 ([(⟨g,i⟩:af)].length) 6) [(0,(.pure (([(⟨g,i⟩:af)]:List af).map af.cells).flatten))]:=
 uT func152 120 [1,1,1,1,1,1,1,1,1,1,1,1,1,1,1,6] [.ju 0 1 6,.q,dr 7 1 [.none,.none,(.pv (vI a)),.none,.none,(.pv (vI b)),(iI (a-b))],.q,.f,.ba [.o,.o,.o,.o,.o,(.pv (vI c)),.o,(.dec true)],.t,.h 2 (.pv (vI d)),.f,dr 9 2 [.none,.none,.none,(.pv g.pv),.none,.none,(.pv i.pv),.none,.none,(.app ([(⟨g,i⟩:af)]:List af).length (([(⟨g,i⟩:af)]:List af).map af.cells).flatten)],.l7 49 0,.drop [48,9,8],.ord [0]] (Cz h1 h2 (aX h3) (aN h4) (aF h5) (aF h5) (aF h5) h6 (aF h5) (aF h5) (dq h7) h8 (aN h9) dM gy (gm eX ([]:List af) ([(⟨g,i⟩:af)]:List af) 112 (Eq.refl ([]:List af).length) (Eq.refl ([(⟨g,i⟩:af)]:List af).length) j8 rfl))
theorem nV(p:List ah)(l:List (List ah))(lo hi gJ:ah)(z z1:List af):uu bT lz fn.ntmps (br (focus [0,2,0,2,0,0,2,1,2,0,0,2,1,2,0,2,0] [.code (aA fn)])) (kW (br (focus [0,2,0,2,0,0,2,1,2,0,0,2,1,2,0,2,0] [.code (aA fn)])) [0,1,2,6,7]) (iL (br (focus [0,2,0,2,0,0,2,1,2,0,0,2,1,2,0,2,0] [.code (aA fn)])) [0,1,2,6,7]) [.none,.none,.none,.none,.none,(.bI [(1,200000)] (some (0,59)) (.row 0 0 z.length 6) [(0,(.pure ((z:List af).map af.cells).flatten))]),.none,.none,.none,.none,(.bI [(59,200000)] (some (0,64)) (.row 0 0 z1.length 6) [(0,(.pure ((z1:List af).map af.cells).flatten))]),.none] (wB lz fn.ntmps (br (focus [0,2,0,2,0,0,2,1,2,0,0,2,1,2,0,2,0] [.code (aA fn)])) [0,1,2,6,7] ⟨[(0,(.row 1 0 0 6)),(1,(.pv (ae p))),(2,(.pv (bq (an ah.cells) l))),(8,(.ptr 8 0)),(9,(.ptr 9 0)),(12,(.ptr 12 0))],[(12,(.lit [(eB gJ.neg),(.pv (ag gJ.num)),(.pv (ag gJ.den))])),(9,(.lit [(eB hi.neg),(.pv (ag hi.num)),(.pv (ag hi.den))])),(8,(.lit [(eB lo.neg),(.pv (ag lo.num)),(.pv (ag lo.den))])),(1,(.pure (([]:List af).map af.cells).flatten))]⟩)=uv bT lz fn.ntmps (br (focus [0,2,0,2,0,0,2,1,2,0,0,2,1,2,0,2,0] [.code (aA fn)])) (kW (br (focus [0,2,0,2,0,0,2,1,2,0,0,2,1,2,0,2,0] [.code (aA fn)])) [0,1,2,6,7]) (iL (br (focus [0,2,0,2,0,0,2,1,2,0,0,2,1,2,0,2,0] [.code (aA fn)])) [0,1,2,6,7]) [.none,.none,.none,.none,.none,(.bI [(1,200000)] (some (0,59)) (.row 0 0 z.length 6) [(0,(.pure ((z:List af).map af.cells).flatten))]),.none,.none,.none,.none,(.bI [(59,200000)] (some (0,64)) (.row 0 0 z1.length 6) [(0,(.pure ((z1:List af).map af.cells).flatten))]),.none] (wB lz fn.ntmps (br (focus [0,2,0,2,0,0,2,1,2,0,0,2,1,2,0,2,0] [.code (aA fn)])) [0,1,2,6,7] ⟨[(0,(.row 1 0 0 6)),(1,(.pv (ae p))),(2,(.pv (bq (an ah.cells) l))),(8,(.ptr 8 0)),(9,(.ptr 9 0)),(12,(.ptr 12 0))],[(12,(.lit [(eB gJ.neg),(.pv (ag gJ.num)),(.pv (ag gJ.den))])),(9,(.lit [(eB hi.neg),(.pv (ag hi.num)),(.pv (ag hi.den))])),(8,(.lit [(eB lo.neg),(.pv (ag lo.num)),(.pv (ag lo.den))])),(1,(.pure (([]:List af).map af.cells).flatten))]⟩):=by kernel_rfl
theorem e3(p:Rs)(l:List (Rs))(lo hi:ah)(a b c:Int)(d:ah)(z z1:List af)(h1:Cp 238 [(bq (an ah.cells) l),lo.pv] (vI a))(h2:Cp 238 [(bq (an ah.cells) l),hi.pv] (vI b))(h3:aw (a-b))(h4:(a-b)≠0)(h5:(a-b)=1)(h6:Cp 239 [ae p,lo.pv] (vI c))(h7:c=0)(h8:Cp 176 [(⟨lo,hi⟩:af).pv] d.pv)(h9:av bT 152 [.row 200000 0 0 6,.pv (ae p),.pv (bq (an ah.cells) l),.pv lo.pv,.pv d.pv] [(200000,(.pure (([]:List af).map af.cells).flatten))] (.row 0 0 z.length 6) [(0,(.pure ((z:List af).map af.cells).flatten))])(dM:av bT 152 [.row 200000 0 z.length 6,.pv (ae p),.pv (bq (an ah.cells) l),.pv d.pv,.pv hi.pv] [(200000,(.pure ((z:List af).map af.cells).flatten))] (.row 0 0 z1.length 6) [(0,(.pure ((z1:List af).map af.cells).flatten))]):av bT 152 [(.pv .gb),(.pv (ae p)),(.pv (bq (an ah.cells) l)),(.pv lo.pv),(.pv hi.pv)] [] (.row 0 0 z1.length 6) [(0,(.pure ((z1:List af).map af.cells).flatten))]:=
 uT func152 114 [1,1,1,1,1,1,1,1,1,1,1,1,1,1,1] [.ju 0 1 6,.q,dr 7 1 [.none,.none,(.pv (vI a)),.none,.none,(.pv (vI b)),(iI (a-b))],.q,.f,.ba [.o,.o,.o,.o,.o,(.pv (vI c)),.o,(.dec true)],.f,.h 3 (.pv d.pv),.aP [0,1,2,8,9,12],.any [0,1,2,6,7] [.none,.none,.none,.none,.none,(.bI [(1,200000)] (some (0,59)) (.row 0 0 z.length 6) [(0,(.pure ((z:List af).map af.cells).flatten))]),.none,.none,.none,.none,(.bI [(59,200000)] (some (0,64)) (.row 0 0 z1.length 6) [(0,(.pure ((z1:List af).map af.cells).flatten))]),.none],.l7 64 0,.drop [12,9,8],.ord [0]] (Cy h1 h2 (aX h3) (aN h4) (aF h5) (aF h5) (aF h5) h6 (aF h5) (aF h5) (bZ h7) h8 h9 dM (nV p l lo hi d z z1))
theorem nW(p:List ah)(l:List (List ah))(lo hi gJ:ah)(z z1:List af):uu bT lz fn.ntmps (br (focus [0,2,0,2,0,0,2,1,2,0,0,2,1,2,0,2,0] [.code (aA fn)])) (kW (br (focus [0,2,0,2,0,0,2,1,2,0,0,2,1,2,0,2,0] [.code (aA fn)])) [0,1,2,6,7]) (iL (br (focus [0,2,0,2,0,0,2,1,2,0,0,2,1,2,0,2,0] [.code (aA fn)])) [0,1,2,6,7]) [.none,.none,.none,.none,.none,(.bI [(1,200000)] (some (0,59)) (.row 0 0 z.length 6) [(0,(.pure ((z:List af).map af.cells).flatten))]),.none,.none,.none,.none,(.bI [(59,200000)] (some (0,64)) (.row 0 0 z1.length 6) [(0,(.pure ((z1:List af).map af.cells).flatten))]),.none] (wB lz fn.ntmps (br (focus [0,2,0,2,0,0,2,1,2,0,0,2,1,2,0,2,0] [.code (aA fn)])) [0,1,2,6,7] ⟨[(0,(.row 1 0 0 6)),(1,(.pv (ae p))),(2,(.pv (bq (an ah.cells) l))),(8,(.ptr 8 0)),(9,(.ptr 9 0)),(12,(.ptr 12 0))],[(12,(.lit [(eB gJ.neg),(.pv (ag gJ.num)),(.pv (ag gJ.den))])),(9,(.lit [(eB hi.neg),(.pv (ag hi.num)),(.pv (ag hi.den))])),(8,(.lit [(eB lo.neg),(.pv (ag lo.num)),(.pv (ag lo.den))])),(1,(.pure (([]:List af).map af.cells).flatten))]⟩)=uv bT lz fn.ntmps (br (focus [0,2,0,2,0,0,2,1,2,0,0,2,1,2,0,2,0] [.code (aA fn)])) (kW (br (focus [0,2,0,2,0,0,2,1,2,0,0,2,1,2,0,2,0] [.code (aA fn)])) [0,1,2,6,7]) (iL (br (focus [0,2,0,2,0,0,2,1,2,0,0,2,1,2,0,2,0] [.code (aA fn)])) [0,1,2,6,7]) [.none,.none,.none,.none,.none,(.bI [(1,200000)] (some (0,59)) (.row 0 0 z.length 6) [(0,(.pure ((z:List af).map af.cells).flatten))]),.none,.none,.none,.none,(.bI [(59,200000)] (some (0,64)) (.row 0 0 z1.length 6) [(0,(.pure ((z1:List af).map af.cells).flatten))]),.none] (wB lz fn.ntmps (br (focus [0,2,0,2,0,0,2,1,2,0,0,2,1,2,0,2,0] [.code (aA fn)])) [0,1,2,6,7] ⟨[(0,(.row 1 0 0 6)),(1,(.pv (ae p))),(2,(.pv (bq (an ah.cells) l))),(8,(.ptr 8 0)),(9,(.ptr 9 0)),(12,(.ptr 12 0))],[(12,(.lit [(eB gJ.neg),(.pv (ag gJ.num)),(.pv (ag gJ.den))])),(9,(.lit [(eB hi.neg),(.pv (ag hi.num)),(.pv (ag hi.den))])),(8,(.lit [(eB lo.neg),(.pv (ag lo.num)),(.pv (ag lo.den))])),(1,(.pure (([]:List af).map af.cells).flatten))]⟩):=by kernel_rfl
theorem e4(p:Rs)(l:List (Rs))(lo hi:ah)(b c:Int)(d:ah)(z z1:List af)(h1:Cp 238 [(bq (an ah.cells) l),lo.pv] (vI b))(h2:Cp 238 [(bq (an ah.cells) l),hi.pv] (vI c))(h3:aw (b-c))(h4:(b-c)≠0)(h5:(b-c)≠1)(h6:Cp 176 [(⟨lo,hi⟩:af).pv] d.pv)(h7:av bT 152 [.row 200000 0 0 6,.pv (ae p),.pv (bq (an ah.cells) l),.pv lo.pv,.pv d.pv] [(200000,(.pure (([]:List af).map af.cells).flatten))] (.row 0 0 z.length 6) [(0,(.pure ((z:List af).map af.cells).flatten))])(h8:av bT 152 [.row 200000 0 z.length 6,.pv (ae p),.pv (bq (an ah.cells) l),.pv d.pv,.pv hi.pv] [(200000,(.pure ((z:List af).map af.cells).flatten))] (.row 0 0 z1.length 6) [(0,(.pure ((z1:List af).map af.cells).flatten))]):av bT 152 [(.pv .gb),(.pv (ae p)),(.pv (bq (an ah.cells) l)),(.pv lo.pv),(.pv hi.pv)] [] (.row 0 0 z1.length 6) [(0,(.pure ((z1:List af).map af.cells).flatten))]:=
 uT func152 114 [1,1,1,1,1,1,1,1,1,1,1,1,1] [.ju 0 1 6,.q,dr 7 1 [.none,.none,(.pv (vI b)),.none,.none,(.pv (vI c)),(iI (b-c))],.q,.f,.ba [.o,.o,.o,.skip,.skip,.skip,.skip,(.dec false)],.a,.h 3 (.pv d.pv),.aP [0,1,2,8,9,12],.any [0,1,2,6,7] [.none,.none,.none,.none,.none,(.bI [(1,200000)] (some (0,59)) (.row 0 0 z.length 6) [(0,(.pure ((z:List af).map af.cells).flatten))]),.none,.none,.none,.none,(.bI [(59,200000)] (some (0,64)) (.row 0 0 z1.length 6) [(0,(.pure ((z1:List af).map af.cells).flatten))]),.none],.l7 64 0,.drop [12,9,8],.ord [0]] (Fz h1 h2 (aX h3) (aN h4) (aN h5) (aN h5) (aN h5) (aN h5) (aN h5) h6 h7 h8 (nW p l lo hi d z z1))
end cU
namespace cV
@[reducible] def fn:Func:=Tryz.f152
theorem e0(a:List af)(p:Rs)(l:List (Rs))(lo hi:ah)(b c:Int)(h1:Cp 238 [(bq (an ah.cells) l),lo.pv] (vI b))(h2:Cp 238 [(bq (an ah.cells) l),hi.pv] (vI c))(h3:aw (b-c))(h4:(b-c)=0):av bT 152 [(.row 200000 0 a.length 6),(.pv (ae p)),(.pv (bq (an ah.cells) l)),(.pv lo.pv),(.pv hi.pv)] [(200000,(.pure ((a:List af).map af.cells).flatten))] (.row 0 0 a.length 6) [(0,(.pure ((a:List af).map af.cells).flatten))]:=
 uT func152 90 [1,1,1,1] [.l7 200000 1,.q,dr 7 1 [.none,.none,(.pv (vI b)),.none,.none,(.pv (vI c)),(iI (b-c))],.q,.t,.q,.l7 1 0,.drop [9,8],.ord [0]] (y4 h1 h2 (aX h3) (aF h4))
theorem e1(a:List af)(p:Rs)(l:List (Rs))(lo hi:ah)(b c d g:Int)(i:af)(h1:Cp 238 [(bq (an ah.cells) l),lo.pv] (vI b))(h2:Cp 238 [(bq (an ah.cells) l),hi.pv] (vI c))(h3:aw (b-c))(h4:(b-c)≠0)(h5:(b-c)=1)(h6:Cp 239 [ae p,lo.pv] (vI d))(h7:d≠0)(h8:Cp 239 [ae p,hi.pv] (vI g))(h9:g=0)(dM:Cp 65 [hi.pv] i.pv)(gy:((a++[i]):List af).length*112≤140737488355328):av bT 152 [(.row 200000 0 a.length 6),(.pv (ae p)),(.pv (bq (an ah.cells) l)),(.pv lo.pv),(.pv hi.pv)] [(200000,(.pure ((a:List af).map af.cells).flatten))] (.row 0 0 ((a++[i]).length) 6) [(0,(.pure (((a++[i]):List af).map af.cells).flatten))]:=
 uT func152 117 [1,1,1,1,1,1,1,1,1,1,1,1,1,1,6] [.l7 200000 1,.q,dr 7 1 [.none,.none,(.pv (vI b)),.none,.none,(.pv (vI c)),(iI (b-c))],.q,.f,.ba [.o,.o,.o,.o,.o,(.pv (vI d)),.o,(.dec true)],.t,.h 2 (.pv (vI g)),.t,.ba [.o,.o,(.pv i.pv),.o,(.app ((a++[i]):List af).length (((a++[i]):List af).map af.cells).flatten)],.l7 39 0,.drop [38,9,8],.ord [0]] (Cy h1 h2 (aX h3) (aN h4) (aF h5) (aF h5) (aF h5) h6 (aF h5) (aF h5) (dq h7) h8 (aF h9) dM (gm eX (a:List af) ([i]:List af) 112 (Eq.refl (a:List af).length) (Eq.refl ([i]:List af).length) gy rfl))
theorem e2(a:List af)(p:Rs)(l:List (Rs))(lo hi:ah)(b c d g:Int)(i j:ah)(h1:Cp 238 [(bq (an ah.cells) l),lo.pv] (vI b))(h2:Cp 238 [(bq (an ah.cells) l),hi.pv] (vI c))(h3:aw (b-c))(h4:(b-c)≠0)(h5:(b-c)=1)(h6:Cp 239 [ae p,lo.pv] (vI d))(h7:d≠0)(h8:Cp 239 [ae p,hi.pv] (vI g))(h9:g≠0)(dM:Cp 91 [lo.pv,(⟨false,[],[]⟩:ah).pv] i.pv)(gy:Cp 91 [hi.pv,(⟨false,[],[]⟩:ah).pv] j.pv)(j8:((a++[(⟨i,j⟩:af)]):List af).length*112≤140737488355328):av bT 152 [(.row 200000 0 a.length 6),(.pv (ae p)),(.pv (bq (an ah.cells) l)),(.pv lo.pv),(.pv hi.pv)] [(200000,(.pure ((a:List af).map af.cells).flatten))] (.row 0 0 ((a++[(⟨i,j⟩:af)]).length) 6) [(0,(.pure (((a++[(⟨i,j⟩:af)]):List af).map af.cells).flatten))]:=
 uT func152 120 [1,1,1,1,1,1,1,1,1,1,1,1,1,1,1,6] [.l7 200000 1,.q,dr 7 1 [.none,.none,(.pv (vI b)),.none,.none,(.pv (vI c)),(iI (b-c))],.q,.f,.ba [.o,.o,.o,.o,.o,(.pv (vI d)),.o,(.dec true)],.t,.h 2 (.pv (vI g)),.f,dr 9 2 [.none,.none,.none,(.pv i.pv),.none,.none,(.pv j.pv),.none,.none,(.app ((a++[(⟨i,j⟩:af)]):List af).length (((a++[(⟨i,j⟩:af)]):List af).map af.cells).flatten)],.l7 49 0,.drop [48,9,8],.ord [0]] (Cz h1 h2 (aX h3) (aN h4) (aF h5) (aF h5) (aF h5) h6 (aF h5) (aF h5) (dq h7) h8 (aN h9) dM gy (gm eX (a:List af) ([(⟨i,j⟩:af)]:List af) 112 (Eq.refl (a:List af).length) (Eq.refl ([(⟨i,j⟩:af)]:List af).length) j8 rfl))
theorem nV(out:List af)(p:List ah)(l:List (List ah))(lo hi gJ:ah)(z z1:List af):uu bT lz fn.ntmps (br (focus [0,2,0,2,0,0,2,1,2,0,0,2,1,2,0,2,0] [.code (aA fn)])) (kW (br (focus [0,2,0,2,0,0,2,1,2,0,0,2,1,2,0,2,0] [.code (aA fn)])) [0,1,2,6,7]) (iL (br (focus [0,2,0,2,0,0,2,1,2,0,0,2,1,2,0,2,0] [.code (aA fn)])) [0,1,2,6,7]) [.none,.none,.none,.none,.none,(.bI [(1,200000)] (some (0,59)) (.row 0 0 z.length 6) [(0,(.pure ((z:List af).map af.cells).flatten))]),.none,.none,.none,.none,(.bI [(59,200000)] (some (0,64)) (.row 0 0 z1.length 6) [(0,(.pure ((z1:List af).map af.cells).flatten))]),.none] (wB lz fn.ntmps (br (focus [0,2,0,2,0,0,2,1,2,0,0,2,1,2,0,2,0] [.code (aA fn)])) [0,1,2,6,7] ⟨[(0,(.row 1 0 out.length 6)),(1,(.pv (ae p))),(2,(.pv (bq (an ah.cells) l))),(8,(.ptr 8 0)),(9,(.ptr 9 0)),(12,(.ptr 12 0))],[(12,(.lit [(eB gJ.neg),(.pv (ag gJ.num)),(.pv (ag gJ.den))])),(9,(.lit [(eB hi.neg),(.pv (ag hi.num)),(.pv (ag hi.den))])),(8,(.lit [(eB lo.neg),(.pv (ag lo.num)),(.pv (ag lo.den))])),(1,(.pure ((out:List af).map af.cells).flatten))]⟩)=uv bT lz fn.ntmps (br (focus [0,2,0,2,0,0,2,1,2,0,0,2,1,2,0,2,0] [.code (aA fn)])) (kW (br (focus [0,2,0,2,0,0,2,1,2,0,0,2,1,2,0,2,0] [.code (aA fn)])) [0,1,2,6,7]) (iL (br (focus [0,2,0,2,0,0,2,1,2,0,0,2,1,2,0,2,0] [.code (aA fn)])) [0,1,2,6,7]) [.none,.none,.none,.none,.none,(.bI [(1,200000)] (some (0,59)) (.row 0 0 z.length 6) [(0,(.pure ((z:List af).map af.cells).flatten))]),.none,.none,.none,.none,(.bI [(59,200000)] (some (0,64)) (.row 0 0 z1.length 6) [(0,(.pure ((z1:List af).map af.cells).flatten))]),.none] (wB lz fn.ntmps (br (focus [0,2,0,2,0,0,2,1,2,0,0,2,1,2,0,2,0] [.code (aA fn)])) [0,1,2,6,7] ⟨[(0,(.row 1 0 out.length 6)),(1,(.pv (ae p))),(2,(.pv (bq (an ah.cells) l))),(8,(.ptr 8 0)),(9,(.ptr 9 0)),(12,(.ptr 12 0))],[(12,(.lit [(eB gJ.neg),(.pv (ag gJ.num)),(.pv (ag gJ.den))])),(9,(.lit [(eB hi.neg),(.pv (ag hi.num)),(.pv (ag hi.den))])),(8,(.lit [(eB lo.neg),(.pv (ag lo.num)),(.pv (ag lo.den))])),(1,(.pure ((out:List af).map af.cells).flatten))]⟩):=by kernel_rfl
theorem e3(a:List af)(p:Rs)(l:List (Rs))(lo hi:ah)(b c d:Int)(g:ah)(z z1:List af)(h1:Cp 238 [(bq (an ah.cells) l),lo.pv] (vI b))(h2:Cp 238 [(bq (an ah.cells) l),hi.pv] (vI c))(h3:aw (b-c))(h4:(b-c)≠0)(h5:(b-c)=1)(h6:Cp 239 [ae p,lo.pv] (vI d))(h7:d=0)(h8:Cp 176 [(⟨lo,hi⟩:af).pv] g.pv)(h9:av bT 152 [.row 200000 0 a.length 6,.pv (ae p),.pv (bq (an ah.cells) l),.pv lo.pv,.pv g.pv] [(200000,(.pure ((a:List af).map af.cells).flatten))] (.row 0 0 z.length 6) [(0,(.pure ((z:List af).map af.cells).flatten))])(dM:av bT 152 [.row 200000 0 z.length 6,.pv (ae p),.pv (bq (an ah.cells) l),.pv g.pv,.pv hi.pv] [(200000,(.pure ((z:List af).map af.cells).flatten))] (.row 0 0 z1.length 6) [(0,(.pure ((z1:List af).map af.cells).flatten))]):av bT 152 [(.row 200000 0 a.length 6),(.pv (ae p)),(.pv (bq (an ah.cells) l)),(.pv lo.pv),(.pv hi.pv)] [(200000,(.pure ((a:List af).map af.cells).flatten))] (.row 0 0 z1.length 6) [(0,(.pure ((z1:List af).map af.cells).flatten))]:=
 uT func152 114 [1,1,1,1,1,1,1,1,1,1,1,1,1,1,1] [.l7 200000 1,.q,dr 7 1 [.none,.none,(.pv (vI b)),.none,.none,(.pv (vI c)),(iI (b-c))],.q,.f,.ba [.o,.o,.o,.o,.o,(.pv (vI d)),.o,(.dec true)],.f,.h 3 (.pv g.pv),.aP [0,1,2,8,9,12],.any [0,1,2,6,7] [.none,.none,.none,.none,.none,(.bI [(1,200000)] (some (0,59)) (.row 0 0 z.length 6) [(0,(.pure ((z:List af).map af.cells).flatten))]),.none,.none,.none,.none,(.bI [(59,200000)] (some (0,64)) (.row 0 0 z1.length 6) [(0,(.pure ((z1:List af).map af.cells).flatten))]),.none],.l7 64 0,.drop [12,9,8],.ord [0]] (Cy h1 h2 (aX h3) (aN h4) (aF h5) (aF h5) (aF h5) h6 (aF h5) (aF h5) (bZ h7) h8 h9 dM (nV a p l lo hi g z z1))
theorem nW(out:List af)(p:List ah)(l:List (List ah))(lo hi gJ:ah)(z z1:List af):uu bT lz fn.ntmps (br (focus [0,2,0,2,0,0,2,1,2,0,0,2,1,2,0,2,0] [.code (aA fn)])) (kW (br (focus [0,2,0,2,0,0,2,1,2,0,0,2,1,2,0,2,0] [.code (aA fn)])) [0,1,2,6,7]) (iL (br (focus [0,2,0,2,0,0,2,1,2,0,0,2,1,2,0,2,0] [.code (aA fn)])) [0,1,2,6,7]) [.none,.none,.none,.none,.none,(.bI [(1,200000)] (some (0,59)) (.row 0 0 z.length 6) [(0,(.pure ((z:List af).map af.cells).flatten))]),.none,.none,.none,.none,(.bI [(59,200000)] (some (0,64)) (.row 0 0 z1.length 6) [(0,(.pure ((z1:List af).map af.cells).flatten))]),.none] (wB lz fn.ntmps (br (focus [0,2,0,2,0,0,2,1,2,0,0,2,1,2,0,2,0] [.code (aA fn)])) [0,1,2,6,7] ⟨[(0,(.row 1 0 out.length 6)),(1,(.pv (ae p))),(2,(.pv (bq (an ah.cells) l))),(8,(.ptr 8 0)),(9,(.ptr 9 0)),(12,(.ptr 12 0))],[(12,(.lit [(eB gJ.neg),(.pv (ag gJ.num)),(.pv (ag gJ.den))])),(9,(.lit [(eB hi.neg),(.pv (ag hi.num)),(.pv (ag hi.den))])),(8,(.lit [(eB lo.neg),(.pv (ag lo.num)),(.pv (ag lo.den))])),(1,(.pure ((out:List af).map af.cells).flatten))]⟩)=uv bT lz fn.ntmps (br (focus [0,2,0,2,0,0,2,1,2,0,0,2,1,2,0,2,0] [.code (aA fn)])) (kW (br (focus [0,2,0,2,0,0,2,1,2,0,0,2,1,2,0,2,0] [.code (aA fn)])) [0,1,2,6,7]) (iL (br (focus [0,2,0,2,0,0,2,1,2,0,0,2,1,2,0,2,0] [.code (aA fn)])) [0,1,2,6,7]) [.none,.none,.none,.none,.none,(.bI [(1,200000)] (some (0,59)) (.row 0 0 z.length 6) [(0,(.pure ((z:List af).map af.cells).flatten))]),.none,.none,.none,.none,(.bI [(59,200000)] (some (0,64)) (.row 0 0 z1.length 6) [(0,(.pure ((z1:List af).map af.cells).flatten))]),.none] (wB lz fn.ntmps (br (focus [0,2,0,2,0,0,2,1,2,0,0,2,1,2,0,2,0] [.code (aA fn)])) [0,1,2,6,7] ⟨[(0,(.row 1 0 out.length 6)),(1,(.pv (ae p))),(2,(.pv (bq (an ah.cells) l))),(8,(.ptr 8 0)),(9,(.ptr 9 0)),(12,(.ptr 12 0))],[(12,(.lit [(eB gJ.neg),(.pv (ag gJ.num)),(.pv (ag gJ.den))])),(9,(.lit [(eB hi.neg),(.pv (ag hi.num)),(.pv (ag hi.den))])),(8,(.lit [(eB lo.neg),(.pv (ag lo.num)),(.pv (ag lo.den))])),(1,(.pure ((out:List af).map af.cells).flatten))]⟩):=by kernel_rfl
theorem e4(b:List af)(p:Rs)(l:List (Rs))(lo hi:ah)(c d:Int)(g:ah)(z z1:List af)(h1:Cp 238 [(bq (an ah.cells) l),lo.pv] (vI c))(h2:Cp 238 [(bq (an ah.cells) l),hi.pv] (vI d))(h3:aw (c-d))(h4:(c-d)≠0)(h5:(c-d)≠1)(h6:Cp 176 [(⟨lo,hi⟩:af).pv] g.pv)(h7:av bT 152 [.row 200000 0 b.length 6,.pv (ae p),.pv (bq (an ah.cells) l),.pv lo.pv,.pv g.pv] [(200000,(.pure ((b:List af).map af.cells).flatten))] (.row 0 0 z.length 6) [(0,(.pure ((z:List af).map af.cells).flatten))])(h8:av bT 152 [.row 200000 0 z.length 6,.pv (ae p),.pv (bq (an ah.cells) l),.pv g.pv,.pv hi.pv] [(200000,(.pure ((z:List af).map af.cells).flatten))] (.row 0 0 z1.length 6) [(0,(.pure ((z1:List af).map af.cells).flatten))]):av bT 152 [(.row 200000 0 b.length 6),(.pv (ae p)),(.pv (bq (an ah.cells) l)),(.pv lo.pv),(.pv hi.pv)] [(200000,(.pure ((b:List af).map af.cells).flatten))] (.row 0 0 z1.length 6) [(0,(.pure ((z1:List af).map af.cells).flatten))]:=
 uT func152 114 [1,1,1,1,1,1,1,1,1,1,1,1,1] [.l7 200000 1,.q,dr 7 1 [.none,.none,(.pv (vI c)),.none,.none,(.pv (vI d)),(iI (c-d))],.q,.f,.ba [.o,.o,.o,.skip,.skip,.skip,.skip,(.dec false)],.a,.h 3 (.pv g.pv),.aP [0,1,2,8,9,12],.any [0,1,2,6,7] [.none,.none,.none,.none,.none,(.bI [(1,200000)] (some (0,59)) (.row 0 0 z.length 6) [(0,(.pure ((z:List af).map af.cells).flatten))]),.none,.none,.none,.none,(.bI [(59,200000)] (some (0,64)) (.row 0 0 z1.length 6) [(0,(.pure ((z1:List af).map af.cells).flatten))]),.none],.l7 64 0,.drop [12,9,8],.ord [0]] (Fz h1 h2 (aX h3) (aN h4) (aN h5) (aN h5) (aN h5) (aN h5) (aN h5) h6 h7 h8 (nW b p l lo hi g z z1))
end cV
namespace bX
@[reducible] def fn:Func:=Tryz.f159
def bK:List gC:=focus [0,2,0,2,0,2,0,2,0,0,0] [.code (aA fn)]
def inv1(Nl:List ah)(lx:List (List ah)):St:=⟨[(5,(.pv (ae Nl))),(7,(.row 22 0 lx.length 1))],[(22,(.pure ((lx:List (List ah)).map (an ah.cells)).flatten))]⟩
@[reducible] def aj(Nl:List ah)(lx:List (List ah))(r:PV):Prop:=L bT fn bK (inv1 Nl lx) r
theorem e0(p a:Rs)(b:Int)(c:Rs)(d:Int){r:PV}(h1:Cp 78 [ae p] (.aB [ae a,vI b]))(h2:Cp 84 [ae a] (.aB [ae c,vI d]))(hL:aj c [a] r):Cp 159 [ae p] r:=
 eG func159 93 [1,1] [.q,.h 1 (.pv (.aB [ae a,vI b])),.h 1 (.pv (.aB [ae c,vI d])),.q,.aP [5,7]] (y2 h1 h2) hL
theorem l10(b:Rs)(c:List (Rs))(k:Nat)(v d g:Rs)(i:Int)(of:ah)(j:Rs)(l:Int){r:PV}(h1:0<b.length)(h2:((c++[b]):List (Rs)).length*24≤140737488355328)(h3:aw ((((c++[b]).length:Nat):Int)-2))(h4:((((c++[b]).length:Nat):Int)-2)=(k:Int))(h5:k<(c++[b]).length)(h6:(c++[b])[k]? = some v)(h7:Cp 242 [ae v,ae b] (.aB [ae d,ae g,vI i]))(h8:Cp 89 [(vI (-1))] of.pv)(h9:Cp 243 [ae g,of.pv] (.aB [ae j,vI l]))(hL:aj j (c++[b]) r):aj b c r:=
 lG 132 [1,1,6,1,2,1,1,1,1] [.a,.h 1 (iI (b.length:Int)),.t,.h 3 (.app ((c++[b]):List (Rs)).length (((c++[b]):List (Rs)).map (an ah.cells)).flatten),.ba [.o,.o,.o,(iI ((((c++[b]).length:Nat):Int)-2)),(.nat k),(.ev (.pv (ae v))),.o,(.pv (.aB [ae d,ae g,vI i]))],.ba [.o,(.pv of.pv),(.pv (.aB [ae j,vI l]))],.aP [5,7],.drop [28],.l7 29 22] (y9 (au ah.cells b) (ak h1) (gm (og ah.cells) (c:List (Rs)) ([b]:List (Rs)) 24 (Eq.refl (c:List (Rs)).length) (Eq.refl ([b]:List (Rs)).length) h2 rfl) (aX h3) (cj h4 h5) (j5 (enc:=(an ah.cells)) (f:=fun a=>(ae a)) (fun _=>rfl) h6) h7 h8 h9) hL
theorem dw(b:Rs)(c:List (Rs))(h1:b.length≤0):aj b c (bq (an ah.cells) c):=
 lD 126 [1,1,3] [.a,.h 1 (iI (b.length:Int)),.f,.q,.iZ 2 ((c:List (Rs)).map (an ah.cells))] (y3 (au ah.cells b) (ax h1) (eR (og ah.cells) (c:List (Rs)) (Eq.refl (c:List (Rs)).length)))
end bX
namespace fV
theorem e0(p:Rs)(h1:Cp 79 [ae p] .aq)(h2:p.length=0):Cp 165 [ae p] (.iface 67 (vI 8)):=
 eD func165 105 [1,1,1] [.q,.h 1 (.pv .aq),.q,.a,.h 1 (iI (p.length:Int)),.t,.q] (y3 h1 (au ah.cells p) (aL h2))
theorem e1(p:Rs)(h1:Cp 79 [ae p] .aq)(h2:p.length≠0):Cp 165 [ae p] .aq:=
 eD func165 108 [1,1,1] [.q,.h 1 (.pv .aq),.q,.a,.h 1 (iI (p.length:Int)),.f,.q] (y3 h1 (au ah.cells p) (aC h2))
theorem e2(p:Rs)(b:Int)(h1:Cp 79 [ae p] (.iface 67 (vI b))):Cp 165 [ae p] (.iface 67 (vI b)):=
 eD func165 90 [1] [.q,.h 1 (.pv (.iface 67 (vI b))),.q,.a,.q] (y1 h1)
end fV
namespace cQ
theorem e0(p:Rs)(rV:af)(a:Bool)(h1:Cp 213 [rV.pv] (vB a))(h2:a=false):Cp 166 [ae p,rV.pv] (.aB [vB false,.aq]):=
 eD func166 84 [1,1] [.q,.h 1 (.pv (vB a)),.t,.q] (y2 h1 (bB h2))
theorem e1(p:Rs)(rV:af)(a:Bool)(b c:Int)(h1:Cp 213 [rV.pv] (vB a))(h2:a=true)(h3:Cp 34 [rV.lo.pv,rV.hi.pv] (vI b))(h4:b=0)(h5:Cp 239 [ae p,rV.lo.pv] (vI c)):Cp 166 [ae p,rV.pv] (.aB [(vB (c==0)),.aq]):=
 eD func166 99 [1,1,1,1,1] [.q,.h 1 (.pv (vB a)),.f,.h 4 (.pv (vI b)),.t,.h 3 (.pv (vI c))] (y5 h1 (ay h2) h3 (aF h4) h5)
theorem e2(p:Rs)(rV:af)(b:Bool)(c:Int)(d:Rs)(g i:Int)(h1:Cp 213 [rV.pv] (vB b))(h2:b=true)(h3:Cp 34 [rV.lo.pv,rV.hi.pv] (vI c))(h4:c≠0)(h5:Cp 76 [ae p] (.aB [ae d,.aq]))(h6:Cp 239 [ae d,rV.lo.pv] (vI g))(h7:Cp 239 [ae d,rV.hi.pv] (vI i))(h8:aw (g*i))(h9:(g*i)≠(-1)):Cp 166 [ae p,rV.pv] (.aB [vB false,.aq]):=
 eD func166 135 [1,1,1,1,1,1,1,1,1] [.q,.h 1 (.pv (vB b)),.f,.h 4 (.pv (vI c)),.f,.h 1 (.pv (.aB [ae d,.aq])),.q,.a,dr 10 0 [.none,.none,.none,(.pv (vI g)),.none,.none,.none,(.pv (vI i)),(iI (g*i))],.t,.q] (y9 h1 (ay h2) h3 (aN h4) h5 h6 h7 (mR h8) (dq h9))
theorem e3(p:Rs)(rV:af)(b:Bool)(c:Int)(d:Rs)(g i j:Int)(k:Option Int)(h1:Cp 213 [rV.pv] (vB b))(h2:b=true)(h3:Cp 34 [rV.lo.pv,rV.hi.pv] (vI c))(h4:c≠0)(h5:Cp 76 [ae p] (.aB [ae d,.aq]))(h6:Cp 239 [ae d,rV.lo.pv] (vI g))(h7:Cp 239 [ae d,rV.hi.pv] (vI i))(h8:aw (g*i))(h9:(g*i)=(-1))(dM:Cp 246 [ae p,rV.lo.pv,rV.hi.pv] (.aB [vI j,bC k])):Cp 166 [ae p,rV.pv] (.aB [(vB (j==1)),bC k]):=
 eD func166 144 [1,1,1,1,1,1,1,1,1,1] [.q,.h 1 (.pv (vB b)),.f,.h 4 (.pv (vI c)),.f,.h 1 (.pv (.aB [ae d,.aq])),.q,.a,dr 10 0 [.none,.none,.none,(.pv (vI g)),.none,.none,.none,(.pv (vI i)),(iI (g*i))],.f,.h 5 (.pv (.aB [vI j,bC k])),.q] (Iu h1 (ay h2) h3 (aN h4) h5 h6 h7 (mR h8) (bZ h9) dM)
end cQ
namespace bD
theorem e0(p:Rs)(rV:af)(a:Bool)(h1:Cp 247 [rV.pv] (vB a))(h2:a=false):Cp 168 [ae p,rV.pv] (vB false):=
 eD func168 84 [1,1] [.q,.h 1 (.pv (vB a)),.t,.q] (y2 h1 (bB h2))
theorem e1(p:Rs)(rV:af)(a:Bool)(b c:Int)(h1:Cp 247 [rV.pv] (vB a))(h2:a=true)(h3:Cp 69 [rV.lo.pv,rV.hi.pv] (vI b))(h4:b=0)(h5:Cp 248 [ae p,rV.lo.pv] (vI c)):Cp 168 [ae p,rV.pv] (vB (c==0)):=
 eD func168 99 [1,1,1,1,1] [.q,.h 1 (.pv (vB a)),.f,.h 4 (.pv (vI b)),.t,.h 3 (.pv (vI c))] (y5 h1 (ay h2) h3 (aF h4) h5)
theorem e2(p:Rs)(rV:af)(a:Bool)(b c d g:Int)(h1:Cp 247 [rV.pv] (vB a))(h2:a=true)(h3:Cp 69 [rV.lo.pv,rV.hi.pv] (vI b))(h4:b≠0)(h5:Cp 248 [ae p,rV.lo.pv] (vI c))(h6:Cp 248 [ae p,rV.hi.pv] (vI d))(h7:aw (c*d))(h8:(c*d)=(-1))(h9:Cp 249 [ae p,rV.lo.pv,rV.hi.pv] (vI g)):Cp 168 [ae p,rV.pv] (vB (g==1)):=
 eD func168 102 [1,1,1,1,1,1,1,1,1,1,1,1,1,1,1,1] [.q,.h 1 (.pv (vB a)),.f,.h 4 (.pv (vI b)),.f,dr 19 1 [.none,.none,.none,(.pv (vI c)),.none,.none,.none,(.pv (vI d)),(iI (c*d)),.none,.none,.none,.none,.none,.none,.none,(.pv (vI g)),.none,(.dec true)]] (Cz h1 (ay h2) h3 (aN h4) h5 h6 (mR h7) (aF h8) (aF h8) (aF h8) (aF h8) (aF h8) (aF h8) h9 (aF h8) (aF h8))
theorem e3(p:Rs)(rV:af)(a:Bool)(b c d:Int)(h1:Cp 247 [rV.pv] (vB a))(h2:a=true)(h3:Cp 69 [rV.lo.pv,rV.hi.pv] (vI b))(h4:b≠0)(h5:Cp 248 [ae p,rV.lo.pv] (vI c))(h6:Cp 248 [ae p,rV.hi.pv] (vI d))(h7:aw (c*d))(h8:(c*d)≠(-1)):Cp 168 [ae p,rV.pv] (vB false):=
 eD func168 102 [1,1,1,1,1,1,1,1,1,1,1,1,1,1,1] [.q,.h 1 (.pv (vB a)),.f,.h 4 (.pv (vI b)),.f,dr 19 1 [.none,.none,.none,(.pv (vI c)),.none,.none,.none,(.pv (vI d)),(iI (c*d)),.none,.none,.skip,.skip,.skip,.skip,.skip,.skip,.skip,(.dec false)]] (Cy h1 (ay h2) h3 (aN h4) h5 h6 (mR h7) (aN h8) (aN h8) (aN h8) (aN h8) (aN h8) (aN h8) (aN h8) (aN h8))
end bD
namespace lk
theorem e4(p:Rs)(lo hi:ah)(a:Int)(b c:Bool)(d g:Int)(h1:Cp 83 [ae p] (vI a))(h2:a=0)(h3:Cp 111 [lo.pv] (vB b))(h4:b=true)(h5:Cp 111 [hi.pv] (vB c))(h6:c=true)(h7:Cp 69 [lo.pv,hi.pv] (vI d))(h8:d≤0)(h9:Cp 249 [ae p,lo.pv,hi.pv] (vI g)):Cp 207 [ae p,lo.pv,hi.pv] (.aB [vI g,vI 0]):=
 eD func207 108 [1,1,1,1,1,1,1,1,1,1,1,1,1,1,1,1] [.q,.h 1 (.pv (vI a)),.q,.f,.ba [.o,(.pv (vB b)),.o,.o,.o,(.pv (vB c)),.o,(.dec false),.o,.o,.o,(.pv (vI d)),.o,(.dec false)],.f,.h 3 (.pv (vI g))] (Cz h1 (bZ h2) h3 (ay h4) (ay h4) h5 (ay h4) (ay h4) (ay h6) (ay h6) (ay h6) h7 (ay h6) (ay h6) (bQ h8) h9)
end lk
namespace cy
@[reducible] def fn:Func:=Tryz.f238
def bK:List gC:=focus [0,2,0,2,0,0,2,0,0] [.code (aA fn)]
def inv1(Ca:Nat)(jt:Int)(l:List (List ah))(pn:Nat)(x:ah):St:=⟨[(3,(.ptr 3 0)),(5,(eI (Ca:Int))),(6,(eI jt)),(10,(.pv (bq (an ah.cells) l))),(11,(eI (l.length:Int))),(12,(eI (pn:Int)))],[(3,(.lit [(eB x.neg),(.pv (ag x.num)),(.pv (ag x.den))]))]⟩
@[reducible] def aj(Ca:Nat)(jt:Int)(l:List (List ah))(pn:Nat)(x:ah)(r:PV):Prop:=L bT fn bK (inv1 Ca jt l pn x) r
theorem e0 (l : List (Rs)) (x : ah) {r : PV}  (hL : aj 0 0 l 0 x r) : Cp 238 [(bq (an ah.cells) l), x.pv] r:=
 eG func238 87 [1] [.q,.q,.h 1 (iI (l.length:Int)),.aP [3,5,6,10,11,12]] (y1 (au (an ah.cells) l)) hL
theorem l10(b:Nat)(c:Int)(l:List (Rs))(d:Nat)(x:ah)(v:Rs)(g:Int){r:PV}(h1:d<l.length)(h2:l[d]? = some v)(h3:Cp 239 [ae v,x.pv] (vI g))(h4:g≠0)(h5:aw (-c))(h6:g=(-c))(h7:(b+1)<9223372036854775808)(h8:(d+1)<9223372036854775808)(hL:aj (b+1) g l (d+1) x r):aj b c l d x r:=
 lG 156 [1,3,1,1,1,1,1,1] [.a,.q,.t,.h 0 (.row d ((an ah.cells) v)),.h 2 (.pv (vI g)),.q,.t,.h 2 (iI (-c)),.t,.h 1 (iI (((b+1):Nat):Int)),.q,.h 0 (iI (((d+1):Nat):Int)),.aP [3,5,6,10,11,12]] (y8 (ak h1) (bU (an ah.cells) (Eq.refl (((d:Nat):Int):Int)) h2) h3 (dq h4) (oI h5) (aF h6) (aR h7) (aR h8)) hL
theorem dw(b:Nat)(c:Int)(l:List (Rs))(d:Nat)(x:ah)(v:Rs)(g:Int){r:PV}(h1:d<l.length)(h2:l[d]? = some v)(h3:Cp 239 [ae v,x.pv] (vI g))(h4:g≠0)(h5:aw (-c))(h6:g≠(-c))(h7:(d+1)<9223372036854775808)(hL:aj b g l (d+1) x r):aj b c l d x r:=
 lG 156 [1,3,1,1,1,1,1] [.a,.q,.t,.h 0 (.row d ((an ah.cells) v)),.h 2 (.pv (vI g)),.q,.t,.h 2 (iI (-c)),.f,.q,.h 0 (iI (((d+1):Nat):Int)),.aP [3,5,6,10,11,12]] (y7 (ak h1) (bU (an ah.cells) (Eq.refl (((d:Nat):Int):Int)) h2) h3 (dq h4) (oI h5) (aN h6) (aR h7)) hL
theorem ji(b:Nat)(c:Int)(l:List (Rs))(d:Nat)(x:ah)(v:Rs)(g:Int){r:PV}(h1:d<l.length)(h2:l[d]? = some v)(h3:Cp 239 [ae v,x.pv] (vI g))(h4:g=0)(h5:(d+1)<9223372036854775808)(hL:aj b c l (d+1) x r):aj b c l d x r:=
 lG 141 [1,3,1,1,1] [.a,.q,.t,.h 0 (.row d ((an ah.cells) v)),.h 2 (.pv (vI g)),.q,.f,.h 0 (iI (((d+1):Nat):Int)),.aP [3,5,6,10,11,12]] (y5 (ak h1) (bU (an ah.cells) (Eq.refl (((d:Nat):Int):Int)) h2) h3 (bZ h4) (aR h5)) hL
theorem oK(b:Nat)(c:Int)(l:List (Rs))(d:Nat)(x:ah)(h1:l.length≤d):aj b c l d x (vI (b:Int)):=
 lD 120 [1] [.a,.q,.f,.q] (y1 (ax h1))
end cy
namespace iy
theorem e0(p:Rs)(x a:ah)(b:Option Int)(c:Int)(h1:Cp 133 [ae p,x.pv] (.aB [a.pv,bC b]))(h2:Cp 33 [a.pv] (vI c)):Cp 239 [ae p,x.pv] (vI c):=
 eD func239 78 [1,1] [.q,.h 2 (.pv (.aB [a.pv,bC b])),.h 1 (.pv (vI c))] (y2 h1 h2)
end iy
namespace a6
@[reducible] def fn:Func:=Tryz.f241
def bK:List gC:=focus [0,2,0,2,0,0,2,0,0] [.code (aA fn)]
def inv1(Ca:Nat)(jt:Int)(l:List (List ah))(pn:Nat)(x:ah):St:=⟨[(3,(.ptr 3 0)),(5,(eI (Ca:Int))),(6,(eI jt)),(10,(.pv (bq (an ah.cells) l))),(11,(eI (l.length:Int))),(12,(eI (pn:Int)))],[(3,(.lit [(eB x.neg),(.pv (ag x.num)),(.pv (ag x.den))]))]⟩
@[reducible] def aj(Ca:Nat)(jt:Int)(l:List (List ah))(pn:Nat)(x:ah)(r:PV):Prop:=L bT fn bK (inv1 Ca jt l pn x) r
theorem e0 (l : List (Rs)) (x : ah) {r : PV}  (hL : aj 0 0 l 0 x r) : Cp 241 [(bq (an ah.cells) l), x.pv] r:=
 eG func241 87 [1] [.q,.q,.h 1 (iI (l.length:Int)),.aP [3,5,6,10,11,12]] (y1 (au (an ah.cells) l)) hL
theorem l10(b:Nat)(c:Int)(l:List (Rs))(d:Nat)(x:ah)(v:Rs)(g:ah)(i:Int){r:PV}(h1:d<l.length)(h2:l[d]? = some v)(h3:Cp 208 [ae v,x.pv] g.pv)(h4:Cp 124 [g.pv] (vI i))(h5:i=0)(h6:(d+1)<9223372036854775808)(hL:aj b c l (d+1) x r):aj b c l d x r:=
 lG 147 [1,3,1,1,1,1] [.a,.q,.t,.h 0 (.row d ((an ah.cells) v)),.ba [.o,.o,(.pv g.pv),(.pv (vI i))],.q,.t,.h 0 (iI (((d+1):Nat):Int)),.aP [3,5,6,10,11,12]] (y6 (ak h1) (bU (an ah.cells) (Eq.refl (((d:Nat):Int):Int)) h2) h3 h4 (aF h5) (aR h6)) hL
theorem dw(b:Nat)(c:Int)(l:List (Rs))(d:Nat)(x:ah)(v:Rs)(g:ah)(i:Int){r:PV}(h1:d<l.length)(h2:l[d]? = some v)(h3:Cp 208 [ae v,x.pv] g.pv)(h4:Cp 124 [g.pv] (vI i))(h5:i≠0)(h6:aw (-c))(h7:i=(-c))(h8:(b+1)<9223372036854775808)(h9:(d+1)<9223372036854775808)(hL:aj (b+1) i l (d+1) x r):aj b c l d x r:=
 lG 162 [1,3,1,1,1,1,1,1,1] [.a,.q,.t,.h 0 (.row d ((an ah.cells) v)),.ba [.o,.o,(.pv g.pv),(.pv (vI i))],.q,.f,.h 2 (iI (-c)),.t,.h 1 (iI (((b+1):Nat):Int)),.q,.h 0 (iI (((d+1):Nat):Int)),.aP [3,5,6,10,11,12]] (y9 (ak h1) (bU (an ah.cells) (Eq.refl (((d:Nat):Int):Int)) h2) h3 h4 (aN h5) (oI h6) (aF h7) (aR h8) (aR h9)) hL
theorem ji(b:Nat)(c:Int)(l:List (Rs))(d:Nat)(x:ah)(v:Rs)(g:ah)(i:Int){r:PV}(h1:d<l.length)(h2:l[d]? = some v)(h3:Cp 208 [ae v,x.pv] g.pv)(h4:Cp 124 [g.pv] (vI i))(h5:i≠0)(h6:aw (-c))(h7:i≠(-c))(h8:(d+1)<9223372036854775808)(hL:aj b i l (d+1) x r):aj b c l d x r:=
 lG 162 [1,3,1,1,1,1,1,1] [.a,.q,.t,.h 0 (.row d ((an ah.cells) v)),.ba [.o,.o,(.pv g.pv),(.pv (vI i))],.q,.f,.h 2 (iI (-c)),.f,.q,.h 0 (iI (((d+1):Nat):Int)),.aP [3,5,6,10,11,12]] (y8 (ak h1) (bU (an ah.cells) (Eq.refl (((d:Nat):Int):Int)) h2) h3 h4 (aN h5) (oI h6) (aN h7) (aR h8)) hL
theorem oK(b:Nat)(c:Int)(l:List (Rs))(d:Nat)(x:ah)(h1:l.length≤d):aj b c l d x (vI (b:Int)):=
 lD 120 [1] [.a,.q,.f,.q] (y1 (ax h1))
end a6
namespace kF
theorem e3(p:Rs)(lo hi:ah)(b c:Bool)(d:Int)(g:List (Rs))(i j:Int)(h1:Cp 165 [ae p] .aq)(h2:Cp 164 [lo.pv] (vB b))(h3:b=true)(h4:Cp 164 [hi.pv] (vB c))(h5:c=true)(h6:Cp 34 [lo.pv,hi.pv] (vI d))(h7:d≤0)(h8:Cp 151 [ae p] (.aB [(bq (an ah.cells) g),.aq]))(h9:Cp 238 [(bq (an ah.cells) g),lo.pv] (vI i))(dM:Cp 238 [(bq (an ah.cells) g),hi.pv] (vI j))(gy:aw (i-j)):Cp 246 [ae p,lo.pv,hi.pv] (.aB [(vI (i-j)),.aq]):=
 eD func246 129 [1,1,1,1,1,1,1,1,1,1,1,1,1,1,1,1,1,1] [.q,.h 1 (.pv .aq),.q,.a,.ba [.o,(.pv (vB b)),.o,.o,.o,(.pv (vB c)),.o,(.dec false),.o,.o,.o,(.pv (vI d)),.o,(.dec false)],.f,.h 1 (.pv (.aB [(bq (an ah.cells) g),.aq])),.q,.a,dr 7 2 [.none,.none,(.pv (vI i)),.none,.none,(.pv (vI j)),(iI (i-j))]] (PU h1 h2 (ay h3) (ay h3) h4 (ay h3) (ay h3) (ay h5) (ay h5) (ay h5) h6 (ay h5) (ay h5) (bQ h7) h8 h9 dM (aX gy))
end kF
namespace fH
theorem e0(p:Rs)(x:ah)(a:Rs)(b:Int)(c:ah)(d:Int)(h1:Cp 78 [ae p] (.aB [ae a,vI b]))(h2:Cp 208 [ae a,x.pv] c.pv)(h3:Cp 124 [c.pv] (vI d)):Cp 248 [ae p,x.pv] (vI d):=
 eD func248 78 [1,1,1] [.q,.h 1 (.pv (.aB [ae a,vI b])),.ba [.o,.o,(.pv c.pv),(.pv (vI d))]] (y3 h1 h2 h3)
end fH
namespace eT
theorem e0(p:Rs)(lo hi:ah)(a:List (Rs))(b c:Int)(h1:Cp 159 [ae p] (bq (an ah.cells) a))(h2:Cp 241 [(bq (an ah.cells) a),lo.pv] (vI b))(h3:Cp 241 [(bq (an ah.cells) a),hi.pv] (vI c))(h4:aw (b-c)):Cp 249 [ae p,lo.pv,hi.pv] (vI (b-c)):=
 eD func249 78 [1,1,1,1] [.q,.h 1 (.pv (bq (an ah.cells) a)),dr 7 1 [.none,.none,(.pv (vI b)),.none,.none,(.pv (vI c)),(iI (b-c))]] (y4 h1 h2 h3 (aX h4))
end eT
end Go.Proofs.YtllmkadmohkbfaaGreatDoor.Sym.Path
namespace Go.Proofs.YtllmkadmohkbfaaGreatDoor.Sym
open Go Path dE
namespace o7
theorem check(p:List ah)(hp:iN 274877906944 p):Cp 165 [ae p] (bC (l6 (if kN p=0 then (if p.length=0 then 8 else 0) else kN p))):=by
 have hk:=uh.Check p hp
 by_cases h:kN p=0
 ·rw[if_pos h]
  rw[h] at hk
  by_cases h0:p.length=0
  ·rw[if_pos h0];exact fV.e0 p hk h0
  ·rw[if_neg h0];exact fV.e1 p hk h0
 ·rw[if_neg h]
  rw[gw h] at hk ⊢
  exact fV.e2 p _ hk
theorem chain{h L:Nat}{p:List Rat}(f:cH h L p):Cp 151 [pq p] (.aB [w9 (aG p),.aq]):=by
 have hL:=f.hL
 have DJ:=f.fb
 obtain⟨f1,f2,_⟩:=free_spec f.zp f.ne
 have FH:=f.jS
 have hl:=f.len
 have FG:=f.o0.fl DJ.2.2.1
 have hd:=uh.iS ((aM p).map aE) (cE f1 (by omega)) (db (cL FG (by omega)))
 rw[cO] at hd
 have loop:∀(n i j:Nat) (pre:List (List Rat)) (q d:List Rat),d.length<n→pre.length+n≤20→su (fB h L) (fB h L+1) L i j q d→eJ.aj (d.map aE) ((pre++[q]).map (fun g=>g.map aE)) (.aB [w9 (pre++chainF n q d),.aq]):=by
  intro n
  induction n with
  |zero=>intro i j pre q d hn;omega
  |succ n ih =>
   intro i j pre q d hn Gd e
   by_cases h0:d=[]
   ·subst h0
    rw[fc]
    exact eJ.oK _ _ (by simp)
   ·rw[eb h0]
    obtain⟨c1,c2⟩:=qG.next DJ.2.2.1 (Nat.le_succ _) (by omega) f.xa e h0
    obtain⟨r1,r2⟩:=e.rest (Nat.le_succ _) h0
    have hc:Ch (xB (fB h L) (fB h L+1) (j+(q.length-d.length))) (aU (bn (-1) (a7 q d))):=by
     refine Ch.trim ?_
     obtain⟨D,d1,d2,d3⟩:=r1
     refine⟨D,d1,d2,fun i=>?_⟩
     obtain⟨m,m1,m2⟩:=d3 i
     refine⟨-m,?_,by rw[kC];exact m2⟩
     rw[ck,Rat.intCast_neg,←m1];grind
    have next:=ih _ _ (pre++[q]) d _ (by have:=eM (p:=q) e.zq h0;omega) (by rw[List.length_append,List.length_singleton];omega) (e.next (Nat.le_succ _) h0 hc (eM e.zq h0) (bj _))
    have es:(pre++[q]).map (fun g=>g.map aE)++[d.map aE]=(pre++[q]++[d]).map (fun g=>g.map aE):=by rw[List.map_append (l₁:=pre++[q])];rfl
    have hlen:((pre++[q]++[d]).map (fun g=>g.map aE)).length=pre.length+2:=by simp
    have l5:=qC.Of (-1) (by unfold aw;omega)
    have:=List.length_pos_iff.2 h0
    refine eJ.l10 _ _ pre.length (q.map aE) _ _ _ _ (by rw[bf];omega) (by rw[es,hlen];omega) (by rw[es,hlen];unfold aw;omega) (by rw[es,hlen];omega) (by rw[es,hlen];omega) (by rw[es];simp) c1 l5 c2 ?_
    rw[es]
    have e2:pre++[q]++chainF n d (aU (bn (-1) (a7 q d)))=pre++q::chainF n d (aU (bn (-1) (a7 q d))):=by simp
    rwa[e2] at next
 have:=loop (aM p).length 0 1 [] (aM p) (ar (aM p)) (jB f2) (by simp;omega) f.ni
 exact eJ.e0 _ _ _ (qG.ud f) hd this
theorem changes(G:List (List Rat))(x:Rat)(hG:∀g∈G,aJ g=false∧Fl 1073741824 g∧g.length≤10)(hl:G.length≤1000)(hx:ht x≤1073741824):Cp 238 [w9 G,(aE x).pv] (vI (fR G x)):=by
 have loop:∀(j t n:Nat) (l:Int),G.length-t=j→t≤G.length→n≤t → -1≤l→l≤1→cy.aj n l (G.map (fun g=>g.map aE)) t (aE x) (vI ((n:Int)+varS l ((G.drop t).map (fun g=>sg (evalL g x))))):=by
  intro j
  induction j with
  |zero =>
   intro t n l hj ht hn _ _
   rw[List.drop_of_length_le (by omega),List.map_nil,varS,Int.add_zero]
   exact cy.oK n l _ t _ (by rw[List.length_map];omega)
  |succ j ih =>
   intro t n l hj PY hn o9 FZ
   obtain⟨g,hg⟩:∃g,G[t]? = some g:=⟨_,List.getElem?_eq_getElem (by omega)⟩
   obtain⟨z,fl,ln⟩:=hG g (List.mem_of_getElem? hg)
   have hm:(G.map (fun g=>g.map aE))[t]? = some (g.map aE):=by rw[List.getElem?_map,hg];rfl
   have mD:=uh.Eval (g.map aE) (aE x) (cE z (by omega)) (db fl) (aW hx)
   rw[cO,bS] at mD
   have h3:=fN g x 1073741824 fl hx
   have h4:g.length*(2*1073741824+1)≤10*(2*1073741824+1):=Nat.mul_le_mul_right _ ln
   have hs:=QF.Sign (evalL g x) (by omega)
   have hv:=iy.e0 _ _ _ none _ mD hs
   have En:dz (evalL g x) 0=sg (evalL g x):=rfl
   have Nn:=hJ (evalL g x)
   rw[En] at hv
   have bH:t<(G.map (fun g=>g.map aE)).length:=by rw[List.length_map];omega
   rw[drop_cons hg,List.map_cons,varS]
   generalize sg (evalL g x)=s at hv Nn
   by_cases h0:s=0
   ·rw[if_pos h0]
    exact cy.ji n l _ t _ _ _ bH hm hv h0 (by omega) (ih (t+1) n l (by omega) (by omega) (by omega) o9 FZ)
   ·rw[if_neg h0]
    by_cases h1:s = -l
    ·rw[if_pos h1]
     have:=ih (t+1) (n+1) s (by omega) (by omega) (by omega) (by omega) (by omega)
     rw[show (((n+1:Nat):Int))+varS s ((G.drop (t+1)).map (fun g=>sg (evalL g x)))=(n:Int)+(1+varS s ((G.drop (t+1)).map (fun g=>sg (evalL g x)))) from by omega] at this
     exact cy.l10 n l _ t _ _ _ bH hm hv h0 (by unfold aw;omega) h1 (by omega) (by omega) this
    ·rw[if_neg h1,Int.zero_add]
     exact cy.dw n l _ t _ _ _ bH hm hv h0 (by unfold aw;omega) h1 (by omega) (ih (t+1) n s (by omega) (by omega) (by omega) (by omega) (by omega))
 have:=loop _ 0 0 0 rfl (by omega) (by omega) (by omega) (by omega)
 rw[List.drop_zero,show(((0:Nat):Int))=0 from rfl,Int.zero_add] at this
 exact cy.e0 _ _ this
theorem eN{h L:Nat}{p:List Rat}(f:cH h L p):∀g∈aG p,aJ g=false∧Fl 1073741824 g∧g.length≤10:=by
 intro g hg
 refine⟨?_,f.chain g hg⟩
 have key:∀(n:Nat) (p d:List Rat),aJ p=false→aJ d=false→∀g∈chainF n p d,aJ g=false:=by
  intro n
  induction n with
  |zero=>intro p d hp _ g hg;rw[chainF,List.mem_singleton] at hg;rw[hg];exact hp
  |succ n ih =>
   intro p d hp hd g hg
   by_cases h:d=[]
   ·rw[h,fc,List.mem_singleton] at hg;rw[hg];exact hp
   ·rw[eb h] at hg
    rcases List.mem_cons.1 hg with hg|hg
    ·rw[hg];exact hp
    ·exact ih d _ hd (bj _) g hg
 exact key _ _ _ (free_spec f.zp f.ne).1 (bc _) g hg
theorem Count{h L:Nat}{p:List Rat}(f:cH h L p)(lo hi:Rat)(RW:lo≤hi)(h1:ht lo≤1073741824)(h2:ht hi≤1073741824):Cp 246 [pq p,(aE lo).pv,(aE hi).pv] (.aB [vI (fR (aG p) lo-fR (aG p) hi),.aq]):=by
 have hc:=f.gB
 have kJ:=check (p.map aE) (mw (f.ch.fl f.h1) (by have:=f.fb;omega))
 have hp:=List.length_pos_iff.2 f.ne
 rw[f.kN,if_pos rfl,if_neg (by rw[bf];omega)] at kJ
 obtain⟨a1,a2⟩:=dU (aG p) lo
 obtain⟨b1,b2⟩:=dU (aG p) hi
 exact kF.e3 _ _ _ _ _ _ _ _ _ kJ (QF.Valid lo (by omega)) rfl (QF.Valid hi (by omega)) rfl (QF.jN lo hi (by omega) (by omega)) (lZ.2 RW) (chain f) (changes _ lo (eN f) (by omega) h1) (changes _ hi (eN f) (by omega) h2) (by unfold aw;omega)
end o7
namespace uN
theorem Error(p:List ah)(hp:iN 274877906944 p):Cp 83 [ae p] (vI (if kN p=0 then (if p.length=0 then 8 else 0) else kN p)):=by
 have hk:=zJ.Check p hp
 by_cases h:kN p=0
 ·rw[if_pos h]
  by_cases h0:p.length=0
  ·rw[if_pos h0];exact cF.e1 p _ hk h h0
  ·rw[if_neg h0];exact cF.e2 p _ hk h h0
 ·rw[if_neg h];exact cF.e0 p _ hk h
theorem chain{h L:Nat}{p:List Rat}(f:cH h L p):Cp 159 [pq p] (w9 (aG p)):=by
 have hL:=f.hL
 have DJ:=f.fb
 obtain⟨f1,f2,_⟩:=free_spec f.zp f.ne
 have FH:=f.jS
 have hl:=f.len
 have FG:=f.o0.fl DJ.2.2.1
 have hd:=zJ.iS ((aM p).map aE) (cE f1 (by omega)) (db (cL FG (by omega)))
 rw[cO] at hd
 have loop:∀(n i j:Nat) (pre:List (List Rat)) (q d:List Rat),d.length<n→pre.length+n≤20→su (fB h L) (fB h L+1) L i j q d→bX.aj (d.map aE) ((pre++[q]).map (fun g=>g.map aE)) (w9 (pre++chainF n q d)):=by
  intro n
  induction n with
  |zero=>intro i j pre q d hn;omega
  |succ n ih =>
   intro i j pre q d hn Gd e
   by_cases h0:d=[]
   ·subst h0
    rw[fc]
    exact bX.dw _ _ (by simp)
   ·rw[eb h0]
    obtain⟨c1,c2⟩:=ui.next DJ.2.2.1 (Nat.le_succ _) (by omega) f.xa e h0
    obtain⟨r1,r2⟩:=e.rest (Nat.le_succ _) h0
    have hc:Ch (xB (fB h L) (fB h L+1) (j+(q.length-d.length))) (aU (bn (-1) (a7 q d))):=by
     refine Ch.trim ?_
     obtain⟨D,d1,d2,d3⟩:=r1
     refine⟨D,d1,d2,fun i=>?_⟩
     obtain⟨m,m1,m2⟩:=d3 i
     refine⟨-m,?_,by rw[kC];exact m2⟩
     rw[ck,Rat.intCast_neg,←m1];grind
    have next:=ih _ _ (pre++[q]) d _ (by have:=eM (p:=q) e.zq h0;omega) (by rw[List.length_append,List.length_singleton];omega) (e.next (Nat.le_succ _) h0 hc (eM e.zq h0) (bj _))
    have es:(pre++[q]).map (fun g=>g.map aE)++[d.map aE]=(pre++[q]++[d]).map (fun g=>g.map aE):=by rw[List.map_append (l₁:=pre++[q])];rfl
    have hlen:((pre++[q]++[d]).map (fun g=>g.map aE)).length=pre.length+2:=by simp
    have l5:=tj.Of (-1) (by unfold aw;omega)
    have:=List.length_pos_iff.2 h0
    refine bX.l10 _ _ pre.length (q.map aE) _ _ _ _ _ _ (by rw[bf];omega) (by rw[es,hlen];omega) (by rw[es,hlen];unfold aw;omega) (by rw[es,hlen];omega) (by rw[es,hlen];omega) (by rw[es];simp) c1 l5 c2 ?_
    rw[es]
    have e2:pre++[q]++chainF n d (aU (bn (-1) (a7 q d)))=pre++q::chainF n d (aU (bn (-1) (a7 q d))):=by simp
    rwa[e2] at next
 have:=loop (aM p).length 0 1 [] (aM p) (ar (aM p)) (jB f2) (by simp;omega) f.ni
 exact bX.e0 _ _ _ _ _ (ui.ud f) hd this
theorem changes(G:List (List Rat))(x:Rat)(hG:∀g∈G,aJ g=false∧Fl 1073741824 g∧g.length≤10)(hl:G.length≤1000)(hx:ht x≤1073741824):Cp 241 [w9 G,(aE x).pv] (vI (fR G x)):=by
 have loop:∀(j t n:Nat) (l:Int),G.length-t=j→t≤G.length→n≤t → -1≤l→l≤1→a6.aj n l (G.map (fun g=>g.map aE)) t (aE x) (vI ((n:Int)+varS l ((G.drop t).map (fun g=>sg (evalL g x))))):=by
  intro j
  induction j with
  |zero =>
   intro t n l hj ht hn _ _
   rw[List.drop_of_length_le (by omega),List.map_nil,varS,Int.add_zero]
   exact a6.oK n l _ t _ (by rw[List.length_map];omega)
  |succ j ih =>
   intro t n l hj PY hn o9 FZ
   obtain⟨g,hg⟩:∃g,G[t]? = some g:=⟨_,List.getElem?_eq_getElem (by omega)⟩
   obtain⟨z,fl,ln⟩:=hG g (List.mem_of_getElem? hg)
   have hm:(G.map (fun g=>g.map aE))[t]? = some (g.map aE):=by rw[List.getElem?_map,hg];rfl
   have mD:=zJ.At (g.map aE) (aE x) (by rw[bf];omega) (db fl) (aW hx)
   rw[cO,bS] at mD
   have h3:=fN g x 1073741824 fl hx
   have h4:g.length*(2*1073741824+1)≤10*(2*1073741824+1):=Nat.mul_le_mul_right _ ln
   have hv:=QR.Sign (evalL g x) (by omega)
   have En:dz (evalL g x) 0=sg (evalL g x):=rfl
   have Nn:=hJ (evalL g x)
   rw[En] at hv
   have bH:t<(G.map (fun g=>g.map aE)).length:=by rw[List.length_map];omega
   rw[drop_cons hg,List.map_cons,varS]
   generalize sg (evalL g x)=s at hv Nn
   by_cases h0:s=0
   ·rw[if_pos h0]
    exact a6.l10 n l _ t _ _ _ _ bH hm mD hv h0 (by omega) (ih (t+1) n l (by omega) (by omega) (by omega) o9 FZ)
   ·rw[if_neg h0]
    by_cases h1:s = -l
    ·rw[if_pos h1]
     have:=ih (t+1) (n+1) s (by omega) (by omega) (by omega) (by omega) (by omega)
     rw[show (((n+1:Nat):Int))+varS s ((G.drop (t+1)).map (fun g=>sg (evalL g x)))=(n:Int)+(1+varS s ((G.drop (t+1)).map (fun g=>sg (evalL g x)))) from by omega] at this
     exact a6.dw n l _ t _ _ _ _ bH hm mD hv h0 (by unfold aw;omega) h1 (by omega) (by omega) this
    ·rw[if_neg h1,Int.zero_add]
     exact a6.ji n l _ t _ _ _ _ bH hm mD hv h0 (by unfold aw;omega) h1 (by omega) (ih (t+1) n s (by omega) (by omega) (by omega) (by omega) (by omega))
 have:=loop _ 0 0 0 rfl (by omega) (by omega) (by omega) (by omega)
 rw[List.drop_zero,show(((0:Nat):Int))=0 from rfl,Int.zero_add] at this
 exact a6.e0 _ _ this
theorem count{h L:Nat}{p:List Rat}(f:cH h L p)(lo hi:Rat)(h1:ht lo≤1073741824)(h2:ht hi≤1073741824):Cp 249 [pq p,(aE lo).pv,(aE hi).pv] (vI (fR (aG p) lo-fR (aG p) hi)):=by
 have hc:=f.gB
 obtain⟨a1,a2⟩:=dU (aG p) lo
 obtain⟨b1,b2⟩:=dU (aG p) hi
 exact eT.e0 _ _ _ _ _ _ (chain f) (changes _ lo (o7.eN f) (by omega) h1) (changes _ hi (o7.eN f) (by omega) h2) (by unfold aw;omega)
theorem Count{h L:Nat}{p:List Rat}(f:cH h L p)(lo hi:Rat)(RW:lo≤hi)(h1:ht lo≤1073741824)(h2:ht hi≤1073741824):Cp 207 [pq p,(aE lo).pv,(aE hi).pv] (.aB [vI (fR (aG p) lo-fR (aG p) hi),vI 0]):=by
 have kJ:=Error (p.map aE) (mw (f.ch.fl f.h1) (by have:=f.fb;omega))
 have hp:=List.length_pos_iff.2 f.ne
 rw[f.kN,if_pos rfl,if_neg (by rw[bf];omega)] at kJ
 exact lk.e4 _ _ _ _ _ _ _ _ kJ rfl (QR.Valid lo (by omega)) rfl (QR.Valid hi (by omega)) rfl (QR.jN lo hi (by omega) (by omega)) (lZ.2 RW) (count f lo hi h1 h2)
end uN
def cY(a b:Rat):af:=⟨aE a,aE b⟩
def af.ok(r:af):Bool:=r.lo.valid&&(r.hi.valid&&decide (r.lo.val≤r.hi.val))
def loG(r:af):Rat:=bif r.ok then r.lo.val else 0
def hiG(r:af):Rat:=bif r.ok then r.hi.val else 0
theorem jT{r:af}(h:r.ok=true):r.lo.valid=true∧r.hi.valid=true∧r.lo.val≤r.hi.val:=by
 unfold af.ok at h
 simp only[Bool.and_eq_true,decide_eq_true_eq] at h
 exact h
theorem pG(r:af):loG r≤hiG r:=by
 unfold loG hiG
 cases h:r.ok with
 |true=>exact(jT h).2.2
 |false=>exact Rat.le_refl
theorem mb{a b:Rat}(h:a≤b):(cY a b).ok=true:=by
 unfold af.ok cY
 simp only[rB,bS,decide_eq_true h,Bool.and_self]
theorem fe{a b:Rat}(h:a≤b):loG (cY a b)=a:=by unfold loG;rw[mb h,cond_true];exact bS a
theorem fg{a b:Rat}(h:a≤b):hiG (cY a b)=b:=by unfold hiG;rw[mb h,cond_true];exact bS b
theorem mH{r:af}(h:r.ok=true):cY (loG r) (hiG r)=r:=by
 obtain⟨h1,h2,h3⟩:=jT h
 unfold cY loG hiG
 rw[h,cond_true,cond_true,oM h1,oM h2]
theorem uO{r:af}(h:r.ok=false):cY (loG r) (hiG r)=⟨⟨false,[],[]⟩,⟨false,[],[]⟩⟩:=by
 unfold cY loG hiG
 rw[h];rfl
abbrev gx(k:Nat)(r:af):Prop:=(r.lo.num.length≤k∧r.lo.den.length≤k)∧(r.hi.num.length≤k∧r.hi.den.length≤k)
theorem fO{a b:Rat}{k:Nat}(ha:ht a≤k)(hb:ht b≤k):gx k (cY a b):=⟨aW ha,aW hb⟩
theorem iT{r:af}{k:Nat}(h:gx k r)(hk:1≤k):ht (loG r)≤k:=by
 unfold loG
 cases r.ok with
 |true=>exact eQ h.1.1 h.1.2 hk
 |false=>exact Nat.le_trans (Nat.le_of_eq jF) hk
theorem iV{r:af}{k:Nat}(h:gx k r)(hk:1≤k):ht (hiG r)≤k:=by
 unfold hiG
 cases r.ok with
 |true=>exact eQ h.2.1 h.2.2 hk
 |false=>exact Nat.le_trans (Nat.le_of_eq jF) hk
def fy(a b c d:Rat):Rat:=eZ (eZ (eZ (a*c) (a*d)) (b*c)) (b*d)
def fz(a b c d:Rat):Rat:=fD (fD (fD (a*c) (a*d)) (b*c)) (b*d)
theorem sG(a b c d:Rat):fy a b c d≤fz a b c d:=by
 unfold fy fz
 have h1:=jc (eZ (eZ (a*c) (a*d)) (b*c)) (b*d)
 have h2:=jA (fD (fD (a*c) (a*d)) (b*c)) (b*d)
 grind
theorem sH{a b c d:Rat}{k m:Nat}(ha:ht a≤k)(hb:ht b≤k)(hc:ht c≤m)(hd:ht d≤m):ht (fy a b c d)≤k+m:=by
 have h1:=dP a c
 have h2:=dP a d
 have h3:=dP b c
 have h4:=dP b d
 unfold fy
 exact qD _ _ (qD _ _ (qD _ _ (by omega) (by omega)) (by omega)) (by omega)
theorem sI{a b c d:Rat}{k m:Nat}(ha:ht a≤k)(hb:ht b≤k)(hc:ht c≤m)(hd:ht d≤m):ht (fz a b c d)≤k+m:=by
 have h1:=dP a c
 have h2:=dP a d
 have h3:=dP b c
 have h4:=dP b d
 unfold fz
 exact qE _ _ (qE _ _ (qE _ _ (by omega) (by omega)) (by omega)) (by omega)
namespace uA
theorem Valid(r:af)(h:gx 68719476736 r):Cp 213 [r.pv] (vB r.ok):=by
 have h1:=qC.Valid r.lo ⟨by omega,by omega⟩
 have h2:=qC.Valid r.hi ⟨by omega,by omega⟩
 have h3:=qC.jN r.lo r.hi ⟨by omega,by omega⟩ ⟨by omega,by omega⟩
 unfold af.ok
 cases hv:r.lo.valid with
 |false=>exact gr.e2 r _ h1 hv
 |true =>
  cases hw:r.hi.valid with
  |false=>exact gr.e1 r _ _ h1 hv h2 hw
  |true =>
   have:=gr.e0 r _ _ _ h1 hv h2 hw h3
   rwa[show decide (dz r.lo.val r.hi.val≤0)=decide (r.lo.val≤r.hi.val) from decide_eq_decide.2 lZ] at this
theorem clean(r:af)(h:gx 68719476736 r):Cp 128 [r.pv] (cY (loG r) (hiG r)).pv:=by
 have hv:=Valid r h
 cases hk:r.ok with
 |false=>rw[uO hk];exact jJ.e0 r _ hv hk
 |true =>
  obtain⟨h1,h2,h3⟩:=jT hk
  have:=jJ.e1 r _ _ _ hv hk (uh.mG r.lo ⟨by omega,by omega⟩) (uh.mG r.hi ⟨by omega,by omega⟩)
  rw[oM h1,oM h2] at this
  rw[mH hk];exact this
theorem pH(x:Rat)(hx:ht x≤68719476736):Cp 65 [(aE x).pv] (cY x x).pv:=mX.e0 _ _ _ (QF.mG x hx) (QF.mG x hx)
theorem Add(r s:af)(h:gx 68719476736 r)(h':gx 68719476736 s):Cp 256 [r.pv,s.pv] (cY (loG r+loG s) (hiG r+hiG s)).pv:=
 yN.e0 r s _ _ _ _ (clean r h) (clean s h') (QF.Add _ _ (iT h (by omega)) (iT h' (by omega))) (QF.Add _ _ (iV h (by omega)) (iV h' (by omega)))
theorem Mul(r s:af)(h:gx 34359738368 r)(h':gx 34359738368 s):Cp 257 [r.pv,s.pv] (cY (fy (loG r) (hiG r) (loG s) (hiG s)) (fz (loG r) (hiG r) (loG s) (hiG s))).pv:=by
 have a1:=iT h (by omega)
 have a2:=iV h (by omega)
 have a3:=iT h' (by omega)
 have a4:=iV h' (by omega)
 have b1:=dP (loG r) (loG s)
 have b2:=dP (loG r) (hiG s)
 have b3:=dP (hiG r) (loG s)
 have b4:=dP (hiG r) (hiG s)
 have m1:=QF.Mul (loG r) (loG s) (by omega) (by omega)
 have m2:=QF.Mul (loG r) (hiG s) (by omega) (by omega)
 have m3:=QF.Mul (hiG r) (loG s) (by omega) (by omega)
 have m4:=QF.Mul (hiG r) (hiG s) (by omega) (by omega)
 refine jK.e0 r s _ _ _ _ _ _ _ (clean r ⟨by omega,by omega⟩) (clean s ⟨by omega,by omega⟩) m1 (QF.mG _ (by omega)) m2 m3 m4 ?_
 unfold fy fz
 generalize loG r*loG s=w at *
 generalize loG r*hiG s=x at *
 generalize hiG r*loG s=y at *
 generalize hiG r*hiG s=z at *
 have c1:=qD w x (k:=68719476736) (by omega) (by omega)
 have c2:=qE w x (k:=68719476736) (by omega) (by omega)
 have d1:=qD _ y c1 (by omega)
 have d2:=qE _ y c2 (by omega)
 refine jK.l10 0 (cY w w) _ _ _ _ _ _ (by omega) rfl (QF.Min w x (by omega) (by omega)) (QF.Max w x (by omega) (by omega)) (by omega) ?_
 refine jK.l10 1 (cY (eZ w x) (fD w x)) _ _ _ _ _ _ (by omega) rfl (QF.Min _ y c1 (by omega)) (QF.Max _ y c2 (by omega)) (by omega) ?_
 refine jK.l10 2 (cY (eZ (eZ w x) y) (fD (fD w x) y)) _ _ _ _ _ _ (by omega) rfl (QF.Min _ z d1 (by omega)) (QF.Max _ z d2 (by omega)) (by omega) ?_
 exact jK.dw 3 (cY (eZ (eZ (eZ w x) y) z) (fD (fD (fD w x) y) z)) _ _ _ (by omega)
end uA
namespace Cb
theorem Valid(r:af)(h:gx 68719476736 r):Cp 247 [r.pv] (vB r.ok):=by
 have h1:=tj.Valid r.lo ⟨by omega,by omega⟩
 have h2:=tj.Valid r.hi ⟨by omega,by omega⟩
 have h3:=tj.jN r.lo r.hi ⟨by omega,by omega⟩ ⟨by omega,by omega⟩
 unfold af.ok
 cases hv:r.lo.valid with
 |false=>exact dX.e2 r _ h1 hv
 |true =>
  cases hw:r.hi.valid with
  |false=>exact dX.e1 r _ _ h1 hv h2 hw
  |true =>
   have:=dX.e0 r _ _ _ h1 hv h2 hw h3
   rwa[show decide (dz r.lo.val r.hi.val≤0)=decide (r.lo.val≤r.hi.val) from decide_eq_decide.2 lZ] at this
theorem given(r:af)(h:gx 68719476736 r):Cp 225 [r.pv] (cY (loG r) (hiG r)).pv:=by
 have hv:=Valid r h
 cases hk:r.ok with
 |false=>rw[uO hk];exact gX.e0 r _ hv hk
 |true=>rw[mH hk];exact gX.e1 r _ hv hk
theorem span(a:Rat)(q:List Rat)(hl:q.length<4611686018427387904)(ha:ht a≤68719476736)(hq:Fl 68719476736 q):Cp 258 [ae (aE a::q.map aE)] (cY (q.foldl eZ a) (q.foldl fD a)).pv:=by
 have loop:∀(j t:Nat) (u v:Rat),(a::q).length-t=j→t≤(a::q).length→ht u≤68719476736→ht v≤68719476736→gI.aj ((a::q).map aE) t (cY u v) (cY (((a::q).drop t).foldl eZ u) (((a::q).drop t).foldl fD v)).pv:=by
  intro j
  induction j with
  |zero =>
   intro t u v hj ht _ _
   rw[List.drop_of_length_le (by omega)]
   exact gI.dw _ t _ (by rw[List.length_map];omega)
  |succ j ih =>
   intro t u v hj ht hu hv
   obtain⟨y,hy⟩:∃y,(a::q)[t]? = some y:=⟨_,List.getElem?_eq_getElem (by omega)⟩
   have TG:Sym.ht y≤68719476736:=by
    rcases List.mem_cons.1 (List.mem_of_getElem? hy) with e|hm
    ·rw[e];exact ha
    ·exact hq y hm
   rw[drop_cons hy,List.foldl_cons,List.foldl_cons]
   refine gI.l10 _ t (cY u v) (aE y) _ _ (by rw[List.length_map];omega) (by rw[List.getElem?_map,hy];rfl) (QR.Min u y hu TG) (QR.Max v y hv TG) (by simp at ht;omega) ?_
   exact ih (t+1) _ _ (by omega) (by omega) (qD _ _ hu TG) (qE _ _ hv TG)
 have:=loop _ 0 a a rfl (by omega) ha ha
 rw[List.drop_zero,List.foldl_cons,List.foldl_cons,tn,tp] at this
 exact gI.e0 _ _ _ _ rfl (QR.mG a ha) (QR.mG a ha) this
theorem pH(x:Rat)(hx:ht x≤68719476736):Cp 261 [(aE x).pv] (cY x x).pv:=qz.e0 _ _ (span x [] (by simp) hx (fun y h=>by cases h))
theorem Add(r s:af)(h:gx 34359738367 r)(h':gx 34359738367 s):Cp 259 [r.pv,s.pv] (cY (loG r+loG s) (hiG r+hiG s)).pv:=by
 have a1:=iT h (by omega)
 have a2:=iV h (by omega)
 have a3:=iT h' (by omega)
 have a4:=iV h' (by omega)
 have b1:=jg (loG r) (loG s)
 have b2:=jg (hiG r) (hiG s)
 have l1:=pG r
 have l2:=pG s
 have:=span (loG r+loG s) [hiG r+hiG s] (by simp) (by omega) (fun y hy=>by rw[List.mem_singleton.1 hy];omega)
 simp only[List.foldl] at this
 rw[pA (by grind),vE (by grind)] at this
 exact sf.e0 r s _ _ _ _ _ (given r ⟨by omega,by omega⟩) (given s ⟨by omega,by omega⟩) (QR.Add _ _ (by omega) (by omega)) (QR.Add _ _ (by omega) (by omega)) this
theorem aam(r s:af)(h:gx 68719476736 r)(h':gx 68719476736 s):Cp 206 [r.pv,s.pv] (cY (eZ (loG r) (loG s)) (fD (hiG r) (hiG s))).pv:=by
 have a1:=iT h (by omega)
 have a2:=iV h (by omega)
 have a3:=iT h' (by omega)
 have a4:=iV h' (by omega)
 have l1:=pG r
 have l2:=pG s
 have:=span (loG r) [hiG r,loG s,hiG s] (by simp) a1 (fun y hy=>by simp at hy;rcases hy with e|e|e<;>rw[e]<;>assumption)
 simp only[List.foldl] at this
 have e1:eZ (eZ (eZ (loG r) (hiG r)) (loG s)) (hiG s)=eZ (loG r) (loG s):=by
  rw[pA l1]
  exact pA (Rat.le_trans (jc _ _) l2)
 have e2:fD (fD (fD (loG r) (hiG r)) (loG s)) (hiG s)=fD (hiG r) (hiG s):=by
  rw[vE l1]
  have g1:=ie (fD (hiG r) (loG s)) (hiG s)
  have g2:=jA (fD (hiG r) (loG s)) (hiG s)
  have g3:=ie (hiG r) (loG s)
  exact Rat.le_antisymm (uL (uL (ie _ _) (Rat.le_trans l2 (jA _ _))) (jA _ _)) (uL (Rat.le_trans g3 g1) g2)
 rw[e1,e2] at this
 exact vv.e0 r s _ _ _ (given r h) (given s h') this
theorem Mul(r s:af)(h:gx 34359738368 r)(h':gx 34359738368 s):Cp 260 [r.pv,s.pv] (cY (fy (loG r) (hiG r) (loG s) (hiG s)) (fz (loG r) (hiG r) (loG s) (hiG s))).pv:=by
 have a1:=iT h (by omega)
 have a2:=iV h (by omega)
 have a3:=iT h' (by omega)
 have a4:=iV h' (by omega)
 have b1:=dP (loG r) (loG s)
 have b2:=dP (loG r) (hiG s)
 have b3:=dP (hiG r) (loG s)
 have b4:=dP (hiG r) (hiG s)
 have:=span (loG r*loG s) [loG r*hiG s,hiG r*loG s,hiG r*hiG s] (by simp) (by omega) (fun y hy=>by simp at hy;rcases hy with e|e|e<;>rw[e]<;>omega)
 exact si.e0 r s _ _ _ _ _ _ _ (given r ⟨by omega,by omega⟩) (given s ⟨by omega,by omega⟩) (QR.Mul _ _ (by omega) (by omega)) (QR.Mul _ _ (by omega) (by omega)) (QR.Mul _ _ (by omega) (by omega)) (QR.Mul _ _ (by omega) (by omega)) this
end Cb
def oP(m:Rat):Nat→Nat→Nat
 |0,j=>j
 |n+1,j=>if twP j<m then oP m n (j+1) else j
def mK(t:Rat):List Rat→Nat→Nat
 |[],j=>j
 |c::r,j=>mK t r (oP (1+ab (c/t)) (66-j) j)
def bndP(p:List Rat):Rat:=twP (mK (cb p) p 0)
theorem nj{m:Rat}(hm:m≤twP 65):∀n j,n+j=66→j≤65→j≤oP m n j∧oP m n j≤65∧m≤twP (oP m n j)
 |0,j,h,hj=>by omega
 |n+1,j,h,hj=>by
  rw[oP]
  by_cases bH:twP j<m
  ·rw[if_pos bH]
   have:j<65:=by
    refine Nat.lt_of_not_le fun hh=>?_
    have:=aS hh
    grind
   obtain⟨a,b,c⟩:=nj hm n (j+1) (by omega) (by omega)
   exact⟨by omega,b,c⟩
  ·rw[if_neg bH]
   exact⟨Nat.le_refl _,hj,by grind⟩
theorem Cc{c t:Rat}(hc:ht c≤1)(PS:ht t≤1):1+ab (c/t)≤twP 65:=by
 have h1:=sv (c/t)
 have h2:=kS c t
 have h3:=aS (show 32*ht (c/t)≤64 by omega)
 have h4:=Eu 64
 have h5:twP 65=twP 64+twP 64:=bP 64
 grind
theorem iF{t:Rat} : ∀(p:List Rat) (j:Nat),(∀c∈p,1+ab (c/t)≤twP 65)→j≤65→j≤mK t p j∧mK t p j≤65∧∀c∈p,1+ab (c/t)≤twP (mK t p j)
 |[],j,_,hj=>⟨Nat.le_refl _,hj,fun c h=>by cases h⟩
 |c::r,j,h,hj=>by
  obtain⟨a1,a2,a3⟩:=nj (h c (List.mem_cons_self ..)) (66-j) j (by omega) hj
  obtain⟨b1,b2,b3⟩:=iF r _ (fun x hx=>h x (List.mem_cons_of_mem _ hx)) a2
  rw[mK]
  refine⟨by omega,b2,fun x hx=>?_⟩
  rcases List.mem_cons.1 hx with rfl|hx
  ·exact Rat.le_trans a3 (aS b1)
  ·exact b3 x hx
theorem jH{j:Nat}(h:j≤66):ht (twP j)≤3:=by
 unfold twP
 rw[pz]
 refine Nat.max_le.2 ⟨oZ ?_,by omega⟩
 have h1:2^j<2^96:=Nat.pow_lt_pow_right (by omega) (by omega)
 have h2:(2:Nat)^96=4294967296^3:=by decide
 rw[h2] at h1
 generalize 2^j=x at h1 ⊢
 generalize 4294967296^3=y at h1 ⊢
 omega
def Bd(p:List Rat):Prop:=Fl 4 p∧∀c∈p,1+ab (c/cb p)≤twP 65
theorem zd{p:List Rat}(hp:Fl 1 p):ht (cb p)≤1:=by
 unfold cb
 exact nT hp (by omega) _
theorem Fl.bd{p:List Rat}(hp:Fl 1 p):Bd p:=⟨cL hp (by omega),fun c hc=>Cc (hp c hc) (zd hp)⟩
theorem AA{p:List Rat}(hp:Bd p):ht (cb p)≤4:=by
 unfold cb
 exact nT hp.1 (by omega) _
theorem uB{p:List Rat}(hp:Bd p):ht (bndP p)≤3:=jH (by have:=(iF p 0 hp.2 (by omega)).2.1;omega)
theorem qV(p:List Rat):0<bndP p:=bw _
theorem Cd(p:List Rat)(hp:Bd p):bndP p≤twP 65:=aS (iF p 0 hp.2 (by omega)).2.1
theorem x7(q:Rat):(if q<0 then -q else q)=ab q:=by
 rcases cf q with ⟨h1,h2⟩|⟨h1,h2⟩
 ·rw[if_neg (by grind),h2]
 ·rw[if_pos h1,h2]
theorem xb{p:List Rat}(h0:p≠[]):(p.map aE)[p.length-1]? = some (aE (cb p)):=by
 have:=List.length_pos_iff.2 h0
 have e:p[p.length-1]? = some (cb p):=by
  unfold cb
  rw[qQ (show p.length-1<p.length by omega)]
 rw[List.getElem?_map,e];rfl
def iO(p:List ah):Int:=if kN p=0 then (if p.length=0 then 8 else 0) else kN p
theorem kp{p:List Rat}(hz:aJ p=false)(h0:p≠[])(x:Rat):evalL p x=0↔evalL (aM p) x=0:=by
 obtain⟨f1,f2,f3,⟨u,hu⟩,k,hk,v,hv⟩:=free_spec hz h0
 constructor
 ·intro h
  have h1:=hv x
  rw[h,Rat.mul_zero,vG] at h1
  refine Classical.byContradiction fun dk=>?_
  have:∀n:Nat,evalL (aM p) x^n≠0:=fun n=>by
   induction n with
   |zero=>rw[Rat.pow_zero];decide
   |succ n ih=>rw[Rat.pow_succ];intro e;rcases Rat.mul_eq_zero.1 e with e|e;exact ih e;exact dk e
  exact this k h1
 ·intro h;rw[hu,h,Rat.mul_zero]
def rm(p:List Rat)(lo hi:Rat):Bool:=bif decide (lo=hi) then decide (evalL (aM p) lo=0) else (decide (sg (evalL (aM p) lo)*sg (evalL (aM p) hi) = -1)&&decide (fR (aG p) lo-fR (aG p) hi=1))
def fX(p:List Rat)(r:af):Bool:=r.ok&&rm p (loG r) (hiG r)
theorem eO{x:Rat} : sg x=0↔x=0:=by rcases bk x with ⟨h1,h2⟩|⟨h1,h2⟩|⟨h1,h2⟩<;>constructor<;>intro h<;>first|exact h1|exact h2|(exfalso;rw[h2] at h;exact absurd h (by decide))|(exfalso;grind)
theorem jU{p q:Rat} : dz p q=0↔p=q:=by
 unfold dz
 by_cases h1:p<q
 ·rw[if_pos h1];constructor
  ·intro h;exact absurd h (by decide)
  ·intro h;subst h;exact absurd h1 Rat.lt_irrefl
 ·rw[if_neg h1]
  by_cases h2:p=q
  ·rw[if_pos h2];exact⟨fun _=>h2,fun _=>rfl⟩
  ·rw[if_neg h2];exact⟨fun h=>absurd h (by decide),fun h=>absurd h h2⟩
theorem iG{a b:Int}{q:Prop}[Decidable q](h:a=b↔q):(a==b)=decide q:=by
 by_cases hq:q
 ·rw[decide_eq_true hq,h.2 hq];simp
 ·rw[decide_eq_false hq]
  have:a≠b:=fun e=>hq (h.1 e)
  simpa using this
theorem fh(x y:Rat):aw (sg x*sg y):=by
 unfold aw
 rcases hJ x with h|h|h<;>rcases hJ y with k|k|k<;>rw[h,k]<;>decide
theorem cH.l0{h L:Nat}{p:List Rat}(f:cH h L p):Fl 1073741824 (aM p):=cL (f.o0.fl f.fb.2.2.1) f.fb.2.2.2.1
theorem cH.gZ{h L:Nat}{p:List Rat}(f:cH h L p):(aM p).length≤10:=by have:=f.jS;have:=f.len;have:=f.hL;omega
theorem cH.wk{h L:Nat}{p:List Rat}(f:cH h L p):Fl 1073741824 p:=cL (f.ch.fl f.h1) (by have:=f.fb;omega)
theorem cH.kz{h L:Nat}{p:List Rat}(f:cH h L p):p.length≤10:=by have:=f.len;have:=f.hL;omega
namespace o7
theorem x8{h L:Nat}{p:List Rat}(f:cH h L p):Cp 165 [pq p] .aq:=by
 have kJ:=check (p.map aE) (mw (f.ch.fl f.h1) (by have:=f.fb;omega))
 have hp:=List.length_pos_iff.2 f.ne
 rw[f.kN,if_pos rfl,if_neg (by rw[bf];omega)] at kJ
 exact kJ
theorem value(q:List Rat)(x:Rat)(z:aJ q=false)(fl:Fl 1073741824 q)(ln:q.length≤10)(hx:ht x≤1073741824):Cp 239 [pq q,(aE x).pv] (vI (sg (evalL q x))):=by
 have mD:=uh.Eval (q.map aE) (aE x) (cE z (by omega)) (db fl) (aW hx)
 rw[cO,bS] at mD
 have h3:=fN q x 1073741824 fl hx
 have h4:q.length*(2*1073741824+1)≤10*(2*1073741824+1):=Nat.mul_le_mul_right _ ln
 exact iy.e0 _ _ _ none _ mD (QF.Sign (evalL q x) (by omega))
theorem DB{h L:Nat}{p:List Rat}(f:cH h L p)(h1:Bd p):Cp 150 [pq p] (.aB [(aE (bndP p)).pv,.aq]):=by
 have l5:=qC.Of 1 (by unfold aw;omega)
 have e1:((1:Int):Rat)=1:=rfl
 rw[e1] at l5
 have hlen:=f.kz
 have Nf:=List.length_pos_iff.2 f.ne
 have Bj:=AA h1
 have Ty:=eH f.zp f.ne
 have loop:∀d t j:Nat,p.length-t=d→t≤p.length→j≤65→cI.aj (p.map aE) t (aE (twP j)) (.aB [(aE (twP (mK (cb p) (p.drop t) j))).pv,.aq]):=by
  intro d
  induction d with
  |zero =>
   intro t j hd ht hj
   rw[List.drop_of_length_le (by omega)]
   exact cI.ji _ t _ (by rw[bf];omega)
  |succ d ih =>
   intro t j hd PY hj
   obtain⟨c,hc⟩:∃c,p[t]? = some c:=⟨_,List.getElem?_eq_getElem (by omega)⟩
   have Tz:(p.map aE)[t]? = some (aE c):=by rw[List.getElem?_map,hc];rfl
   have CC:=h1.1 c (List.mem_of_getElem? hc)
   have FD:=QF.Div c (cb p) (by omega) (by omega) Ty
   have hq:=kS c (cb p)
   have dK:=QF.Ww (c/cb p) (by omega)
   rw[x7] at dK
   have Wz:=h1.2 c (List.mem_of_getElem? hc)
   have Yw:ht (ab (c/cb p))≤8:=by
    rw[←x7];split
    ·rw[qB];omega
    ·omega
   have zN:=QF.Add 1 (ab (c/cb p)) (by decide) (by omega)
   have XT:=jg 1 (ab (c/cb p))
   have gy:ht (1:Rat)=1:=by decide
   rw[drop_cons hc,mK]
   have inner:∀n j,n+j=66→j≤65→cI.cz (p.map aE) t (aE (twP j)) (aE (c/cb p)) (.aB [(aE (twP (mK (cb p) (p.drop (t+1)) (oP (1+ab (c/cb p)) n j)))).pv,.aq]):=by
    intro n
    induction n with
    |zero=>intro j h hj;omega
    |succ n ihn =>
     intro j hn hj
     have Wo:=jH (j:=j) (by omega)
     have vC:=QF.jN (twP j) (1+ab (c/cb p)) (by omega) (by omega)
     rw[oP]
     by_cases bH:twP j<1+ab (c/cb p)
     ·rw[if_pos bH]
      have TA:j<65:=by
       refine Nat.lt_of_not_le fun hh=>?_
       have:=aS hh
       grind
      have DL:=QF.Add (twP j) (twP j) (by omega) (by omega)
      rw[←bP] at DL
      refine cI.xl _ t _ _ _ _ _ _ _ l5 dK zN vC ?_ DL (ihn (j+1) (by omega) (by omega))
      refine Int.lt_of_not_ge fun hh=>?_
      have:=mr.1 hh
      grind
     ·rw[if_neg bH]
      exact cI.AR _ t _ _ _ _ _ _ l5 dK zN vC (mr.2 (by grind)) (by omega) (ih (t+1) j (by omega) (by omega) hj)
   refine cI.l10 _ t _ _ (p.length-1) _ _ (by rw[bf];omega) Tz (by rw[bf];unfold aw;omega) (by rw[bf];omega) (xb f.ne) FD (inner (66-j) j (by omega) hj)
 have:=loop _ 0 0 rfl (by omega) (by omega)
 rw[List.drop_zero,hO] at this
 exact cI.e0 _ _ (x8 f) l5 this
theorem kq{h L:Nat}{p:List Rat}(f:cH h L p)(r:af)(hr:gx 1073741824 r):Cp 166 [pq p,r.pv] (.aB [vB (fX p r),.aq]):=by
 have hv:=uA.Valid r ⟨⟨by omega,by omega⟩,⟨by omega,by omega⟩⟩
 obtain⟨f1,f2,_⟩:=free_spec f.zp f.ne
 cases ho:r.ok with
 |false =>
  rw[ho] at hv
  have:fX p r=false:=by unfold fX;rw[ho,Bool.false_and]
  rw[this]
  exact cQ.e0 _ r _ hv rfl
 |true =>
  rw[ho] at hv
  have hm:=mH ho
  have h1:=iT hr (by omega)
  have h2:=iV hr (by omega)
  have hle:=pG r
  have e0:fX p r=rm p (loG r) (hiG r):=by unfold fX;rw[ho,Bool.true_and]
  rw[e0]
  generalize loG r=lo at hm h1 hle ⊢
  generalize hiG r=hi at hm h2 hle ⊢
  subst hm
  have hc:=QF.jN lo hi (by omega) (by omega)
  unfold rm
  by_cases he:lo=hi
  ·rw[decide_eq_true he,cond_true]
   have mI:=value p lo f.zp f.wk f.kz h1
   have:=cQ.e1 _ (cY lo hi) _ _ _ hv rfl hc (by rw[he];exact jU.2 rfl) mI
   rw[iG (q:=evalL (aM p) lo=0) (by rw[eO];exact kp f.zp f.ne lo)] at this
   exact this
  ·rw[decide_eq_false he,cond_false]
   have dk:dz lo hi≠0:=fun e=>he (jU.1 e)
   have v1:=value (aM p) lo f1 f.l0 f.gZ h1
   have v2:=value (aM p) hi f1 f.l0 f.gZ h2
   by_cases hs:sg (evalL (aM p) lo)*sg (evalL (aM p) hi) = -1
   ·rw[decide_eq_true hs,Bool.true_and]
    have:=cQ.e3 _ (cY lo hi) _ _ _ _ _ _ none hv rfl hc dk (qG.ud f) v1 v2 (fh _ _) hs (Count f lo hi hle h1 h2)
    rw[iG (q:=fR (aG p) lo-fR (aG p) hi=1) Iff.rfl] at this
    exact this
   ·rw[decide_eq_false hs,Bool.false_and]
    exact cQ.e2 _ (cY lo hi) _ _ _ _ _ hv rfl hc dk (qG.ud f) v1 v2 (fh _ _) hs
theorem kr{h L:Nat}{p:List Rat}(f:cH h L p)(r:af)(hr:gx 1073741824 r):Cp 82 [pq p,r.pv] (.aB [vB (fX p r),.aq]):=gO.e0 _ r _ none (x8 f) (kq f r hr)
end o7
namespace uN
theorem x8{h L:Nat}{p:List Rat}(f:cH h L p):Cp 83 [pq p] (vI 0):=by
 have kJ:=Error (p.map aE) (mw (f.ch.fl f.h1) (by have:=f.fb;omega))
 have hp:=List.length_pos_iff.2 f.ne
 rw[f.kN,if_pos rfl,if_neg (by rw[bf];omega)] at kJ
 exact kJ
theorem bad{p:List ah}(hp:iN 274877906944 p):Cp 83 [ae p] (vI (iO p)):=Error p hp
theorem Mf(q:List Rat)(x:Rat)(fl:Fl 1073741824 q)(ln:q.length≤10)(hx:ht x≤1073741824):Cp 208 [pq q,(aE x).pv] (aE (evalL q x)).pv∧Cp 124 [(aE (evalL q x)).pv] (vI (sg (evalL q x))):=by
 have mD:=zJ.At (q.map aE) (aE x) (by rw[bf];omega) (db fl) (aW hx)
 rw[cO,bS] at mD
 have h3:=fN q x 1073741824 fl hx
 have h4:q.length*(2*1073741824+1)≤10*(2*1073741824+1):=Nat.mul_le_mul_right _ ln
 exact⟨mD,QR.Sign (evalL q x) (by omega)⟩
theorem sign{h L:Nat}{p:List Rat}(f:cH h L p)(x:Rat)(hx:ht x≤1073741824):Cp 248 [pq p,(aE x).pv] (vI (sg (evalL (aM p) x))):=by
 obtain⟨a,b⟩:=Mf (aM p) x f.l0 f.gZ hx
 exact fH.e0 _ _ _ _ _ _ (ui.ud f) a b
theorem kq{h L:Nat}{p:List Rat}(f:cH h L p)(r:af)(hr:gx 1073741824 r):Cp 168 [pq p,r.pv] (vB (fX p r)):=by
 have hv:=Cb.Valid r ⟨⟨by omega,by omega⟩,⟨by omega,by omega⟩⟩
 cases ho:r.ok with
 |false =>
  rw[ho] at hv
  have:fX p r=false:=by unfold fX;rw[ho,Bool.false_and]
  rw[this]
  exact bD.e0 _ r _ hv rfl
 |true =>
  rw[ho] at hv
  have hm:=mH ho
  have h1:=iT hr (by omega)
  have h2:=iV hr (by omega)
  have hle:=pG r
  have e0:fX p r=rm p (loG r) (hiG r):=by unfold fX;rw[ho,Bool.true_and]
  rw[e0]
  generalize loG r=lo at hm h1 hle ⊢
  generalize hiG r=hi at hm h2 hle ⊢
  subst hm
  have hc:=QR.jN lo hi (by omega) (by omega)
  unfold rm
  have v1:=sign f lo h1
  have v2:=sign f hi h2
  by_cases he:lo=hi
  ·rw[decide_eq_true he,cond_true]
   have:=bD.e1 _ (cY lo hi) _ _ _ hv rfl hc (by rw[he];exact jU.2 rfl) v1
   rw[iG (q:=evalL (aM p) lo=0) eO] at this
   exact this
  ·rw[decide_eq_false he,cond_false]
   have dk:dz lo hi≠0:=fun e=>he (jU.1 e)
   by_cases hs:sg (evalL (aM p) lo)*sg (evalL (aM p) hi) = -1
   ·rw[decide_eq_true hs,Bool.true_and]
    have:=bD.e2 _ (cY lo hi) _ _ _ _ _ hv rfl hc dk v1 v2 (fh _ _) hs (count f lo hi h1 h2)
    rw[iG (q:=fR (aG p) lo-fR (aG p) hi=1) Iff.rfl] at this
    exact this
   ·rw[decide_eq_false hs,Bool.false_and]
    exact bD.e3 _ (cY lo hi) _ _ _ _ hv rfl hc dk v1 v2 (fh _ _) hs
theorem kr{h L:Nat}{p:List Rat}(f:cH h L p)(r:af)(hr:gx 1073741824 r):Cp 86 [pq p,r.pv] (.aB [vB (fX p r),vI 0]):=dQ.e1 _ r _ _ (x8 f) rfl (kq f r hr)
end uN
def mkGs(l:List (Rat×Rat)):List af:=l.map (fun r=>cY r.1 r.2)
theorem jV(l:List (Rat×Rat)):(mkGs l).length=l.length:=List.length_map ..
theorem nk(l m:List (Rat×Rat)):mkGs (l++m)=mkGs l++mkGs m:=List.map_append ..
def isoK(h L:Nat):Nat:=32*(4*xB (fB h L) (fB h L+1) (L-1))+32*(fB h L+1)+67*L+3+67
def jl(h L:Nat):Prop:=66*(L+2)+1≤64*fB h L∧isoK h L/32+20≤1073741824
instance (h L:Nat):Decidable (jl h L):=by unfold jl;infer_instance
def fM(h L:Nat)(p:List Rat):List (Rat×Rat):=(ei (aG p) (aM p) (-bndP p) (bndP p+bndP p) (isoK h L+1) 0 0).getD []
theorem sx{p:List Rat}(hp:Bd p):bndP p+bndP p≤twP 66∧ht (bndP p+bndP p)≤3:=by
 have h:=(iF p 0 hp.2 (by omega)).2.1
 unfold bndP
 rw[←bP]
 exact⟨aS (by omega),jH (by omega)⟩
theorem Ce(k:Nat):Rat.divInt 1 ((2^k:Nat):Int)*twP k=1:=by
 rw[Rat.divInt_eq_div]
 exact Rat.div_mul_cancel (vK k)
theorem nm{h L:Nat}{p:List Rat}(f:cH h L p)(h1:Bd p)(ok:jl h L):ei (aG p) (aM p) (-bndP p) (bndP p+bndP p) (isoK h L+1) 0 0=some (fM h L p):=by
 obtain⟨f1,f2,f3,_⟩:=free_spec f.zp f.ne
 have hb:=qV p
 have hw:0≤bndP p+bndP p:=by grind
 obtain⟨l,hl⟩:=uX (K:=isoK h L) (a := -bndP p) hw f1 f2 f3 (by
  intro j hj
  have w:=DA (-bndP p) (bndP p+bndP p) (isoK h L) j
  have k1:=OQ (a := -bndP p) hw (k:=isoK h L) (j:=j)
  have k2:=F7 (a := -bndP p) hw (k:=isoK h L) (show j+1≤2^isoK h L by omega)
  rw[Kl] at k2
  have k3:=Az (-bndP p) hw (isoK h L) j
  have u1:ab (ptQ (-bndP p) (bndP p+bndP p) (isoK h L) j)≤bndP p:=Ar (by grind) (by grind)
  have u2:ab (ptQ (-bndP p) (bndP p+bndP p) (isoK h L) (j+1))≤bndP p:=Ar (by grind) (by grind)
  refine oF (r:=65) (m:=isoK h L-67) f.fb.2.2.1 f.ni f2 f3 (Rat.le_of_lt hb) (Cd p h1) ok.1 u1 u2 k3 ?_ ?_
  ·have hl:=f.jS
   have FZ:=f.len
   have:(65+2)*(aM p).length≤67*L:=Nat.mul_le_mul_left _ (by omega)
   unfold isoK
   omega
  ·rw[w]
   have e1:isoK h L=(isoK h L-67)+67:=by unfold isoK;omega
   have e2:=Ce (isoK h L)
   have e3:twP (isoK h L)=twP (isoK h L-67)*twP 67:=by rw[←dS,←e1]
   have b2:=(sx h1).1
   have e4:=aS (show 66≤67 by omega)
   generalize Rat.divInt 1 ((2^isoK h L:Nat):Int)=δ at e2 ⊢
   rw[e3] at e2
   have hp:=bw (isoK h L-67)
   generalize twP (isoK h L-67)=T at e2 hp ⊢
   have hδ:0≤δ:=by
    refine Rat.not_lt.1 fun bH=>?_
    have:=Rat.mul_pos hp (bw 67)
    have:=Rat.mul_pos (show 0 < -δ by grind) this
    grind
   have:=Rat.mul_le_mul_of_nonneg_right (Rat.le_trans b2 e4) (Rat.mul_nonneg hδ (Rat.le_of_lt hp))
   grind) (isoK h L+1) 0 0 (by omega) (by omega) (by omega)
 have hl:ei (aG p) (aM p) (-bndP p) (bndP p+bndP p) (isoK h L+1) 0 0=some l:=hl
 unfold fM
 rw[hl];rfl
namespace o7
theorem FE(lo hi:Rat)(h1:ht lo≤1073741824)(h2:ht hi≤1073741824)(hle:lo≤hi):Cp 176 [(cY lo hi).pv] (aE (Rat.divInt 1 2*(lo+hi))).pv:=by
 have hc:=uA.clean (cY lo hi) (fO (Nat.le_trans h1 (by omega)) (Nat.le_trans h2 (by omega)))
 rw[fe hle,fg hle] at hc
 have hh:=qO.e0 _ none (QF.Make 1 2 (by unfold aw;omega) (by unfold aw;omega) (by omega))
 have h3:=jg lo hi
 have h4:ht (Rat.divInt 1 2)≤1:=by decide
 exact se.e0 _ (cY lo hi) _ _ _ hc hh (QF.Add lo hi (by omega) (by omega)) (QF.Mul _ _ (by omega) (by omega))
theorem qA{p:List Rat}{x:Rat} : sg (evalL p x)≠0↔evalL p x≠0:=not_congr eO
theorem nX{h L:Nat}{p:List Rat}(f:cH h L p){a w:Rat}{K:Nat}(hw:0≤w)(hh:ht a+ht w+K/32+4≤1073741824):∀(n k j:Nat) (l:List (Rat×Rat)) (out z:List af),n+k=K+1→j<2^k→ei (aG p) (aM p) a w n k j=some l→z=out++mkGs l→z.length≤1000000 →
  av bT 152 [(.row 200000 0 out.length 6),(.pv (pq p)),(.pv (w9 (aG p))),(.pv (aE (ptQ a w k j)).pv),(.pv (aE (ptQ a w k (j+1))).pv)] [(200000,(.pure ((out:List af).map af.cells).flatten))] (.row 0 0 z.length 6) [(0,(.pure ((z:List af).map af.cells).flatten))] ∧
  (out=[]→av bT 152 [(.pv .gb),(.pv (pq p)),(.pv (w9 (aG p))),(.pv (aE (ptQ a w k j)).pv),(.pv (aE (ptQ a w k (j+1))).pv)] [] (.row 0 0 z.length 6) [(0,(.pure ((z:List af).map af.cells).flatten))])
 |0,k,j,l,out,z,hn,hj,hl,hz,hlen=>by cases hl
 |n+1,k,j,l,out,z,hn,hj,hl,hz,hlen=>by
  have p1:=jh a w (k:=k) (j:=j) (by omega)
  have p2:=jh a w (k:=k) (j:=j+1) (by omega)
  have VR:k/32≤K/32:=Nat.div_le_div_right (by omega)
  have ON:=f.gB
  have c1:=changes (aG p) (ptQ a w k j) (eN f) (by omega) (by omega)
  have c2:=changes (aG p) (ptQ a w k (j+1)) (eN f) (by omega) (by omega)
  obtain⟨a1,a2⟩:=dU (aG p) (ptQ a w k j)
  obtain⟨b1,b2⟩:=dU (aG p) (ptQ a w k (j+1))
  have hI:aw (fR (aG p) (ptQ a w k j)-fR (aG p) (ptQ a w k (j+1))):=by unfold aw;omega
  have v1:=value p (ptQ a w k j) f.zp f.wk f.kz (by omega)
  have v2:=value p (ptQ a w k (j+1)) f.zp f.wk f.kz (by omega)
  have r1:=kp f.zp f.ne (ptQ a w k j)
  have r2:=kp f.zp f.ne (ptQ a w k (j+1))
  have hle:=Az a hw k j
  have rH:=FE (ptQ a w k j) (ptQ a w k (j+1)) (by omega) (by omega) hle
  rw[tu] at rH
  have EF:=uA.pH (ptQ a w k (j+1)) (by omega)
  have z1:=QF.mG (ptQ a w k j) (by omega)
  have z2:=QF.mG (ptQ a w k (j+1)) (by omega)
  have TB:2*j<2^(k+1):=by rw[Nat.pow_succ];omega
  have Fs:2*j+1<2^(k+1):=by rw[Nat.pow_succ];omega
  rw[ei] at hl
  by_cases h0:fR (aG p) (ptQ a w k j)-fR (aG p) (ptQ a w k (j+1))=0
  ·rw[if_pos h0] at hl
   injection hl with hl;subst hl
   have:z=out:=by rw[hz];exact List.append_nil _
   subst this
   refine⟨cV.e0 z _ _ _ _ _ _ c1 c2 hI h0,fun e=>?_⟩
   subst e
   exact cU.e0 _ _ _ _ _ _ c1 c2 hI h0
  ·rw[if_neg h0] at hl
   have DC:∀l1 l2:List (Rat×Rat),ei (aG p) (aM p) a w n (k+1) (2*j)=some l1→ei (aG p) (aM p) a w n (k+1) (2*j+1)=some l2→z=(out++mkGs l1)++mkGs l2 →
     av bT 152 [(.row 200000 0 out.length 6),(.pv (pq p)),(.pv (w9 (aG p))),(.pv (aE (ptQ a w k j)).pv),(.pv (aE (ptQ a w (k+1) (2*j+1))).pv)] [(200000,(.pure ((out:List af).map af.cells).flatten))] (.row 0 0 (out++mkGs l1).length 6) [(0,(.pure (((out++mkGs l1):List af).map af.cells).flatten))] ∧
     av bT 152 [(.row 200000 0 (out++mkGs l1).length 6),(.pv (pq p)),(.pv (w9 (aG p))),(.pv (aE (ptQ a w (k+1) (2*j+1))).pv),(.pv (aE (ptQ a w k (j+1))).pv)] [(200000,(.pure (((out++mkGs l1):List af).map af.cells).flatten))] (.row 0 0 z.length 6) [(0,(.pure ((z:List af).map af.cells).flatten))]:=by
    intro l1 l2 e1 e2 ez
    have Hj:(out++mkGs l1).length≤1000000:=by
     rw[ez,List.length_append] at hlen;omega
    have i1:=(nX f hw hh n (k+1) (2*j) l1 out (out++mkGs l1) (by omega) TB e1 rfl Hj).1
    have i2:=(nX f hw hh n (k+1) (2*j+1) l2 (out++mkGs l1) z (by omega) Fs e2 ez hlen).1
    rw[gS] at i1
    rw[show 2*j+1+1=2*(j+1) from by omega,gS] at i2
    exact⟨i1,i2⟩
   have split:∀l',(match ei (aG p) (aM p) a w n (k+1) (2*j),ei (aG p) (aM p) a w n (k+1) (2*j+1) with
     |some x,some y=>some (x++y)
     |_,_=>none)=some l'→∃l1 l2,ei (aG p) (aM p) a w n (k+1) (2*j)=some l1∧ei (aG p) (aM p) a w n (k+1) (2*j+1)=some l2∧l'=l1++l2:=by
    intro l' h
    cases hx:ei (aG p) (aM p) a w n (k+1) (2*j) with
    |none=>rw[hx] at h;cases h
    |some x =>
     cases hy:ei (aG p) (aM p) a w n (k+1) (2*j+1) with
     |none=>rw[hx,hy] at h;cases h
     |some y=>rw[hx,hy] at h;injection h with h;exact⟨x,y,rfl,rfl,h.symm⟩
   by_cases h1:fR (aG p) (ptQ a w k j)-fR (aG p) (ptQ a w k (j+1))=1
   ·by_cases h2:evalL (aM p) (ptQ a w k j)=0
    ·rw[if_neg (fun e=>e.2 h2)] at hl
     obtain⟨l1,l2,e1,e2,e3⟩:=split _ hl
     have ez:z=(out++mkGs l1)++mkGs l2:=by rw[hz,e3,nk,List.append_assoc]
     obtain⟨i1,i2⟩:=DC l1 l2 e1 e2 ez
     refine⟨cV.e3 out _ _ _ _ _ _ _ _ (out++mkGs l1) z c1 c2 hI h0 h1 v1 (eO.2 (r1.2 h2)) rH i1 i2,fun e=>?_⟩
     subst e
     exact cU.e3 _ _ _ _ _ _ _ _ ([]++mkGs l1) z c1 c2 hI h0 h1 v1 (eO.2 (r1.2 h2)) rH i1 i2
    ·rw[if_pos ⟨h1,h2⟩] at hl
     have n1:sg (evalL p (ptQ a w k j))≠0:=qA.2 (fun e=>h2 (r1.1 e))
     by_cases h3:evalL (aM p) (ptQ a w k (j+1))=0
     ·rw[if_pos h3] at hl
      injection hl with hl;subst hl
      have ez:z=out++[cY (ptQ a w k (j+1)) (ptQ a w k (j+1))]:=hz
      subst ez
      refine⟨cV.e1 out _ _ _ _ _ _ _ _ _ c1 c2 hI h0 h1 v1 n1 v2 (eO.2 (r2.2 h3)) EF (by omega),fun e=>?_⟩
      subst e
      exact cU.e1 _ _ _ _ _ _ _ _ _ c1 c2 hI h0 h1 v1 n1 v2 (eO.2 (r2.2 h3)) EF (by omega)
     ·rw[if_neg h3] at hl
      injection hl with hl;subst hl
      have n2:sg (evalL p (ptQ a w k (j+1)))≠0:=qA.2 (fun e=>h3 (r2.1 e))
      have ez:z=out++[cY (ptQ a w k j) (ptQ a w k (j+1))]:=hz
      subst ez
      refine⟨cV.e2 out _ _ _ _ _ _ _ _ _ _ c1 c2 hI h0 h1 v1 n1 v2 n2 z1 z2 (by rw[show (⟨aE (ptQ a w k j),aE (ptQ a w k (j+1))⟩:af)=cY (ptQ a w k j) (ptQ a w k (j+1)) from rfl];omega),fun e=>?_⟩
      subst e
      exact cU.e2 _ _ _ _ _ _ _ _ _ _ c1 c2 hI h0 h1 v1 n1 v2 n2 z1 z2 (by rw[show (⟨aE (ptQ a w k j),aE (ptQ a w k (j+1))⟩:af)=cY (ptQ a w k j) (ptQ a w k (j+1)) from rfl];omega)
   ·rw[if_neg (fun e=>h1 e.1)] at hl
    obtain⟨l1,l2,e1,e2,e3⟩:=split _ hl
    have ez:z=(out++mkGs l1)++mkGs l2:=by rw[hz,e3,nk,List.append_assoc]
    obtain⟨i1,i2⟩:=DC l1 l2 e1 e2 ez
    refine⟨cV.e4 out _ _ _ _ _ _ _ (out++mkGs l1) z c1 c2 hI h0 h1 rH i1 i2,fun e=>?_⟩
    subst e
    exact cU.e4 _ _ _ _ _ _ _ ([]++mkGs l1) z c1 c2 hI h0 h1 rH i1 i2
theorem ze{h L:Nat}{p:List Rat}(h1:Bd p)(ok:jl h L):ht (-bndP p)+ht (bndP p+bndP p)+isoK h L/32+4≤1073741824:=by
 have a:=uB h1
 have b:=(sx h1).2
 have c:=ok.2
 rw[qB]
 omega
theorem zh{h L:Nat}{p:List Rat}(f:cH h L p)(h1:Bd p)(ok:jl h L):((fM h L p).length:Int)=fR (aG p) (-bndP p)-fR (aG p) (bndP p):=by
 have:=x6 _ _ _ _ (nm f h1 ok)
 rwa[(iY _ _).1,(iY _ _).2,show -bndP p+(bndP p+bndP p)=bndP p from by grind] at this
theorem my{h L:Nat}{p:List Rat}(f:cH h L p)(h1:Bd p)(ok:jl h L):(fM h L p).length≤1000:=by
 have e:=zh f h1 ok
 have ON:=f.gB
 obtain⟨a1,a2⟩:=dU (aG p) (-bndP p)
 obtain⟨b1,b2⟩:=dU (aG p) (bndP p)
 omega
theorem uP{h L:Nat}{p:List Rat}(f:cH h L p)(h1:Bd p)(ok:jl h L):Cp 75 [pq p] (.aB [bq af.cells (mkGs (fM h L p)),.aq]):=by
 have hb:=qV p
 have hn:=uB h1
 have hs:=(nX f (show 0≤bndP p+bndP p by grind) (ze h1 ok) (isoK h L+1) 0 0 (fM h L p) [] (mkGs (fM h L p)) (by omega) (by omega) (nm f h1 ok) rfl (by rw[jV];have:=my f h1 ok;omega)).2 rfl
 rw[(iY _ _).1,(iY _ _).2,show -bndP p+(bndP p+bndP p)=bndP p from by grind] at hs
 exact iz.e0 _ _ _ _ _ (DB f h1) (chain f) (QF.Neg _ (by omega)) hs
end o7
namespace uN
theorem given(lo hi:Rat)(h1:ht lo≤68719476736)(h2:ht hi≤68719476736)(hle:lo≤hi):Cp 225 [(cY lo hi).pv] (cY lo hi).pv:=by
 have hv:=Cb.Valid (cY lo hi) (fO h1 h2)
 rw[mb hle] at hv
 exact gX.e1 _ _ hv rfl
theorem FE(lo hi:Rat)(h1:ht lo≤1073741824)(h2:ht hi≤1073741824)(hle:lo≤hi):Cp 226 [(cY lo hi).pv] (aE (Rat.divInt 1 2*(lo+hi))).pv:=by
 have h3:=jg lo hi
 have h4:ht (Rat.divInt 1 2)≤1:=by decide
 exact oW.e0 _ (cY lo hi) _ _ _ _ (given lo hi (by omega) (by omega) hle) (QR.Make 1 2 (by unfold aw;omega) (by unfold aw;omega) (by omega)) (QR.Add lo hi (by omega) (by omega)) (QR.Mul _ _ (by omega) (by omega))
end uN
def aQ:List Rat→Rat→Rat→Rat×Rat
 |[],_,_=>(0,0)
 |a::r,c,d=>(fy (aQ r c d).1 (aQ r c d).2 c d+a,fz (aQ r c d).1 (aQ r c d).2 c d+a)
theorem ow(q:List Rat)(c d:Rat):(aQ q c d).1≤(aQ q c d).2:=by
 cases q with
 |nil=>exact Rat.le_refl
 |cons a r =>
  have:=sG (aQ r c d).1 (aQ r c d).2 c d
  show fy _ _ _ _+a≤fz _ _ _ _+a
  grind
theorem nu{k m:Nat} : ∀(q:List Rat) (c d:Rat),Fl k q→ht c≤m→ht d≤m→ht (aQ q c d).1≤q.length*(k+m+1)+1∧ht (aQ q c d).2≤q.length*(k+m+1)+1
 |[],c,d,_,_,_=>by
  have:=jF
  exact⟨Nat.le_trans (Nat.le_of_eq this) (by omega),Nat.le_trans (Nat.le_of_eq this) (by omega)⟩
 |a::r,c,d,h,hc,hd=>by
  obtain⟨g1,g2⟩:=nu r c d (fun x hx=>h x (List.mem_cons_of_mem _ hx)) hc hd
  have ha:=h a (List.mem_cons_self ..)
  have m1:=sH g1 g2 hc hd
  have m2:=sI g1 g2 hc hd
  have s1:=jg (fy (aQ r c d).1 (aQ r c d).2 c d) a
  have s2:=jg (fz (aQ r c d).1 (aQ r c d).2 c d) a
  rw[List.length_cons,Nat.add_mul]
  constructor
  ·show ht (fy _ _ _ _+a)≤_
   omega
  ·show ht (fz _ _ _ _+a)≤_
   omega
theorem ya(c:Rat):(0:Rat)*c=0:=by grind
theorem uY(a c d:Rat):aQ [a] c d=(a,a):=by
 show(fy 0 0 c d+a,fz 0 0 c d+a)=(a,a)
 unfold fy fz
 simp only[ya,tn,tp]
 rw[Rat.zero_add]
theorem HU{k:Nat}{q:List Rat}{c d:Rat}(hl:q.length≤65)(hq:Fl k q)(hc:ht c≤k)(hd:ht d≤k)(hk:k≤67108864)(t:Nat):ht (aQ (q.drop t) c d).1≤17179869184∧ht (aQ (q.drop t) c d).2≤17179869184:=by
 obtain⟨g1,g2⟩:=nu (k:=k) (m:=k) (q.drop t) c d (fun x hx=>hq x (List.mem_of_mem_drop hx)) hc hd
 have e:(q.drop t).length*(k+k+1)≤65*(k+k+1):=Nat.mul_le_mul_right _ (by rw[List.length_drop];omega)
 omega
theorem LW{q:List Rat}{n:Nat}{v:Rat}(h:q[n]? = some v):(q.map aE)[n]? = some (aE v):=by rw[List.getElem?_map,h];rfl
theorem zJ.VY(q:List Rat)(r:af)(hc:kN (q.map aE)=0)(hq:Fl 67108864 q)(hr:gx 67108864 r):Cp 209 [ae (q.map aE),r.pv] (.aB [(cY (aQ q (loG r) (hiG r)).1 (aQ q (loG r) (hiG r)).2).pv,vI 0]):=by
 have T4:(q.map aE).length=q.length:=List.length_map ..
 have hl:q.length≤65:=by have:=Dr hc;omega
 have kJ:=zJ.Check (q.map aE) (wX (fun x hx=>Nat.le_trans (hq x hx) (by omega)))
 rw[hc] at kJ
 have r1:=iT hr (by omega)
 have r2:=iV hr (by omega)
 have fr:gx 34359738368 r:=⟨by omega,by omega⟩
 have loop:∀(n:Nat) (s:af),n≤q.length→s=cY (aQ (q.drop n) (loG r) (hiG r)).1 (aQ (q.drop n) (loG r) (hiG r)).2→gH.aj (q.map aE) ((n:Int)-1) r s (.aB [(cY (aQ q (loG r) (hiG r)).1 (aQ q (loG r) (hiG r)).2).pv,vI 0]):=by
  intro n
  induction n with
  |zero =>
   intro s _ h1
   rw[List.drop_zero] at h1
   rw[←h1]
   exact gH.dw _ _ r s (by omega)
  |succ n ih =>
   intro s hn es
   obtain⟨v,hv⟩:∃v,q[n]? = some v:=⟨_,List.getElem?_eq_getElem (by omega)⟩
   have hvk:=hq v (List.mem_of_getElem? hv)
   have hd:=drop_cons hv
   obtain⟨o1,o2⟩:=HU hl hq r1 r2 (by omega) (n+1)
   have ho:=ow (q.drop (n+1)) (loG r) (hiG r)
   have m:=Cb.Mul s r (by rw[es];exact fO (by omega) (by omega)) fr
   have Nu:=sH o1 o2 r1 r2
   have OV:=sI o1 o2 r1 r2
   rw[es,fe ho,fg ho] at m
   have hm:=sG (aQ (q.drop (n+1)) (loG r) (hiG r)).1 (aQ (q.drop (n+1)) (loG r) (hiG r)).2 (loG r) (hiG r)
   have a:=Cb.Add (cY (fy (aQ (q.drop (n+1)) (loG r) (hiG r)).1 (aQ (q.drop (n+1)) (loG r) (hiG r)).2 (loG r) (hiG r)) (fz (aQ (q.drop (n+1)) (loG r) (hiG r)).1 (aQ (q.drop (n+1)) (loG r) (hiG r)).2 (loG r) (hiG r))) (cY v v) (fO (by omega) (by omega)) (fO (by omega) (by omega))
   rw[fe hm,fg hm,fe Rat.le_refl,fg Rat.le_refl] at a
   rw[←es] at m
   refine gH.l10 _ _ r s _ n (aE v) _ _ (by omega) m (by omega) (LW hv) (Cb.pH v (by omega)) a (by unfold aw;omega) ?_
   have:=ih _ (by omega) (by rw[hd])
   rwa[show ((n+1:Nat):Int)-1-1=(n:Int)-1 from by omega]
 have:=loop q.length (cY 0 0) (Nat.le_refl _) (by rw[List.drop_of_length_le (Nat.le_refl _)];rfl)
 refine gH.e1 _ r 0 kJ rfl (by unfold aw;omega) ?_
 rw[T4];exact this
namespace PQ
theorem iS{k:Nat}(p:List Rat)(zp:aJ p=false)(lp:p.length≤65)(hp:Fl k p)(hk:k≤68719476736):Cp 80 [pq p] (.aB [pq (ar p),.aq]):=by
 have:=uh.iS (p.map aE) (cE zp lp) (db (cL hp (by omega)))
 rwa[cO] at this
theorem Eval{k:Nat}(p:List Rat)(x:Rat)(zp:aJ p=false)(lp:p.length≤65)(hp:Fl k p)(hx:ht x≤k)(hk:k≤1073741824):Cp 133 [pq p,(aE x).pv] (.aB [(aE (evalL p x)).pv,.aq]):=by
 have:=uh.Eval (p.map aE) (aE x) (cE zp lp) (db (cL hp (by omega))) (aW (Nat.le_trans hx hk))
 rwa[cO,bS] at this
theorem lS{a b N:Nat}(ha:1≤a)(dK:a≤b)(hN:N≤1000)(hk:4*xB a b (N+2)+10≤68719476736):∀(n i j:Nat) (p q:List Rat),q.length<n→su a b N i j p q→p.length≤10000→eS.aj (p.map aE) (q.map aE) (pq (cr (fa n p q))):=by
 have hx:xB a b (N+2)=xB a b N+2*(xB a b (N+1)+1):=rfl
 have x1:∀j,1≤xB a b j:=fun j=>Nat.le_trans ha (cv a b dK (i:=0) (Nat.zero_le _))
 intro n
 induction n with
 |zero=>intro i j p q hn;omega
 |succ n ih =>
  intro i j p q hn e hl
  have hi:=e.idx
  have Bh:=e.lt
  rw[fa]
  by_cases h:q.length=0
  ·rw[beq_iff.2 h,cond_true]
   have:=cv a b dK (i:=i) (j:=N+1) (by omega)
   exact eS.dw _ _ _ (by rw[bf];omega) (qG.dx p e.zp e.hp (x1 i) hl (by omega))
  ·have dk:q≠[]:=fun e=>h (by rw[e];rfl)
   rw[eL.2 h,cond_false]
   obtain⟨r1,r2⟩:=e.rest dK dk
   have hz:=b8 p q
   have hlen:=e.len
   have PX:=e.bound
   have b1:=cv a b dK (i:=j+(p.length-q.length)) (j:=N+1) (by omega)
   have hd:=qG.j9 p q e.zq dk e.hp e.hq (x1 i) (x1 j) hl (by omega) (by
    obtain⟨j',rfl⟩:∃j',j=j'+1:=⟨j-1,by omega⟩
    obtain⟨d,hd⟩:∃d,p.length-q.length=d+1:=⟨p.length-q.length-1,by omega⟩
    have h2:=cv a b dK (i:=i) (j:=j') (by omega)
    have h3:=rl a b dK j' d
    have h4:=cv a b dK (i:=j'+1+(d+1)) (j:=N+1) (by omega)
    have h5:=cv a b dK (i:=j'+1) (j:=N) (by omega)
    rw[show p.length+1-q.length=d+2 from by omega]
    omega)
   have hm:=qG.dx (a7 p q) hz r1 (x1 _) (by omega) (by omega)
   exact eS.l10 _ _ _ _ _ (by rw[bf];omega) hd hm (ih _ _ q _ (by rw[aY hz];omega) (e.next dK dk (r1.dx (x1 _) hz) (by rw[aY hz];exact r2) (bO _)) (by omega))
theorem nY{h b c L:Nat}(h1:1≤h)(mO:1≤b)(vL:b≤c)(hL:L≤65)(hc:h+(L+1)*(b+1)≤c)(hk:4*xB b c (L+2)+10≤68719476736)(p q:List Rat)(zp:aJ p=false)(zq:aJ q=false)(lp:p.length≤L)(lq:q.length≤L)(hp:Ch h p)(hq:Ch b q) :
  eS.aj (p.map aE) (q.map aE) (pq (cr (fa (q.length+1) p q))):=by
 have e2:xB b c (L+2)=xB b c L+2*(xB b c (L+1)+1):=rfl
 have e1:=cv b c vL (i:=1) (j:=L+1) (by omega)
 have e0:xB b c 1=c:=rfl
 have hm:(p.length+1-q.length)*(b+1)≤(L+1)*(b+1):=Nat.mul_le_mul_right _ (by omega)
 rw[fa]
 by_cases h0:q.length=0
 ·rw[beq_iff.2 h0,cond_true]
  exact eS.dw _ _ _ (by rw[bf];omega) (qG.dx p zp hp h1 (by omega) (by omega))
 ·have dk:q≠[]:=fun e=>h0 (by rw[e];rfl)
  rw[eL.2 h0,cond_false]
  have hr:=hp.rest hq zq dk
  have uW:(a7 p q).length<q.length:=(eE p zq dk).1
  have hz:=b8 p q
  have wg:Ch c (a7 p q):=hr.mono (by omega)
  have hd:=qG.j9 p q zq dk hp hq h1 mO (by omega) (by omega) (by omega)
  have hm:=qG.dx (a7 p q) hz wg (by omega) (by omega) (by omega)
  have hE:su b c L 0 1 q (cr (a7 p q)):=⟨hq,wg.dx (by omega) hz,by omega,by rw[aY hz];exact uW,by omega,zq,bO _⟩
  exact eS.l10 _ _ _ _ _ (by rw[bf];omega) hd hm (lS mO vL (by omega) hk q.length 0 1 q _ (by rw[aY hz];exact uW) hE (by omega))
theorem Gcd{h b c L:Nat}(h1:1≤h)(mO:1≤b)(vL:b≤c)(hL:L≤65)(hc:h+(L+1)*(b+1)≤c)(hk:4*xB b c (L+2)+10≤68719476736)(p q:List Rat)(zp:aJ p=false)(zq:aJ q=false)(lp:p.length≤L)(lq:q.length≤L)(hp:Ch h p)(hq:Ch b q):Cp 81 [pq p,pq q] (.aB [pq (bF p q),.aq]):=by
 have e2:xB b c (L+2)=xB b c L+2*(xB b c (L+1)+1):=rfl
 have e1:=cv b c vL (i:=1) (j:=L+1) (by omega)
 have e0:xB b c 1=c:=rfl
 have kJ:=qG.jR (p.map aE) (q.map aE) (mw (hp.fl h1) (by omega)) (mw (hq.fl mO) (by omega))
 rw[mf (cE zp (by omega)) (cE zq (by omega))] at kJ
 exact Ag.e0 _ _ _ kJ (eS.e0 _ _ (nY h1 mO vL hL hc hk p q zp zq lp lq hp hq))
end PQ
namespace RQ
theorem iS{k:Nat}(p:List Rat)(zp:aJ p=false)(lp:p.length≤65)(hp:Fl k p)(hk:k≤68719476736):Cp 84 [pq p] (.aB [pq (ar p),vI 0]):=by
 have:=zJ.iS (p.map aE) (cE zp lp) (db (cL hp (by omega)))
 rwa[cO] at this
theorem lS{a b N:Nat}(ha:1≤a)(dK:a≤b)(hN:N≤1000)(hk:4*xB a b (N+2)+10≤68719476736):∀(n i j:Nat) (p q:List Rat),q.length<n→su a b N i j p q→p.length≤10000→bA.aj (p.map aE) (q.map aE) (pq (fa n p q)):=by
 have hx:xB a b (N+2)=xB a b N+2*(xB a b (N+1)+1):=rfl
 have x1:∀j,1≤xB a b j:=fun j=>Nat.le_trans ha (cv a b dK (i:=0) (Nat.zero_le _))
 intro n
 induction n with
 |zero=>intro i j p q hn;omega
 |succ n ih =>
  intro i j p q hn e hl
  have hi:=e.idx
  have Bh:=e.lt
  rw[fa]
  by_cases h:q.length=0
  ·rw[beq_iff.2 h,cond_true]
   have:=cv a b dK (i:=i) (j:=N+1) (by omega)
   exact bA.dw _ _ (by rw[bf];omega)
  ·have dk:q≠[]:=fun e=>h (by rw[e];rfl)
   rw[eL.2 h,cond_false]
   obtain⟨r1,r2⟩:=e.rest dK dk
   have hz:=b8 p q
   have hlen:=e.len
   have PX:=e.bound
   have b1:=cv a b dK (i:=j+(p.length-q.length)) (j:=N+1) (by omega)
   have hd:=ui.j9 p q e.zq dk e.hp e.hq (x1 i) (x1 j) hl (by omega) (by
    obtain⟨j',rfl⟩:∃j',j=j'+1:=⟨j-1,by omega⟩
    obtain⟨d,hd⟩:∃d,p.length-q.length=d+1:=⟨p.length-q.length-1,by omega⟩
    have h2:=cv a b dK (i:=i) (j:=j') (by omega)
    have h3:=rl a b dK j' d
    have h4:=cv a b dK (i:=j'+1+(d+1)) (j:=N+1) (by omega)
    have h5:=cv a b dK (i:=j'+1) (j:=N) (by omega)
    rw[show p.length+1-q.length=d+2 from by omega]
    omega)
   have hm:=ui.dx (a7 p q) hz r1 (x1 _) (by omega) (by omega)
   exact bA.l10 _ _ _ _ _ (by rw[bf];omega) hd hm (ih _ _ q _ (by rw[aY hz];omega) (e.next dK dk (r1.dx (x1 _) hz) (by rw[aY hz];exact r2) (bO _)) (by omega))
theorem nY{h b c L:Nat}(h1:1≤h)(mO:1≤b)(vL:b≤c)(hL:L≤65)(hc:h+(L+1)*(b+1)≤c)(hk:4*xB b c (L+2)+10≤68719476736)(p q:List Rat)(zp:aJ p=false)(zq:aJ q=false)(lp:p.length≤L)(lq:q.length≤L)(hp:Ch h p)(hq:Ch b q) :
  bA.aj (p.map aE) (q.map aE) (pq (fa (q.length+1) p q)):=by
 have e2:xB b c (L+2)=xB b c L+2*(xB b c (L+1)+1):=rfl
 have e1:=cv b c vL (i:=1) (j:=L+1) (by omega)
 have e0:xB b c 1=c:=rfl
 have hm:(p.length+1-q.length)*(b+1)≤(L+1)*(b+1):=Nat.mul_le_mul_right _ (by omega)
 rw[fa]
 by_cases h0:q.length=0
 ·rw[beq_iff.2 h0,cond_true]
  exact bA.dw _ _ (by rw[bf];omega)
 ·have dk:q≠[]:=fun e=>h0 (by rw[e];rfl)
  rw[eL.2 h0,cond_false]
  have hr:=hp.rest hq zq dk
  have uW:(a7 p q).length<q.length:=(eE p zq dk).1
  have hz:=b8 p q
  have wg:Ch c (a7 p q):=hr.mono (by omega)
  have hd:=ui.j9 p q zq dk hp hq h1 mO (by omega) (by omega) (by omega)
  have hm:=ui.dx (a7 p q) hz wg (by omega) (by omega) (by omega)
  have hE:su b c L 0 1 q (cr (a7 p q)):=⟨hq,wg.dx (by omega) hz,by omega,by rw[aY hz];exact uW,by omega,zq,bO _⟩
  exact bA.l10 _ _ _ _ _ (by rw[bf];omega) hd hm (lS mO vL (by omega) hk q.length 0 1 q _ (by rw[aY hz];exact uW) hE (by omega))
theorem Gcd{h b c L:Nat}(h1:1≤h)(mO:1≤b)(vL:b≤c)(hL:L≤65)(hc:h+(L+1)*(b+1)≤c)(hk:4*xB b c (L+2)+10≤68719476736)(p q:List Rat)(zp:aJ p=false)(zq:aJ q=false)(lp:p.length≤L)(lq:q.length≤L)(hp:Ch h p)(hq:Ch b q):Cp 85 [pq p,pq q] (.aB [pq (bF p q),vI 0]):=by
 have e2:xB b c (L+2)=xB b c L+2*(xB b c (L+1)+1):=rfl
 have e1:=cv b c vL (i:=1) (j:=L+1) (by omega)
 have e0:xB b c 1=c:=rfl
 have kJ:=ui.both (p.map aE) (q.map aE) (mw (hp.fl h1) (by omega)) (mw (hq.fl mO) (by omega))
 rw[mf (cE zp (by omega)) (cE zq (by omega))] at kJ
 have m1:=ui.dx p zp hp h1 (by omega) (by omega)
 have m2:=ui.dx q zq hq mO (by omega) (by omega)
 have:=nY h1 mO vL hL hc hk (cr p) (cr q) (bO _) (bO _) (by rw[aY zp];exact lp) (by rw[aY zq];exact lq) (hp.dx h1 zp) (hq.dx mO zq)
 rw[aY zq,Du p q zp zq] at this
 exact mn.e1 _ _ _ _ kJ rfl (bA.e0 _ _ _ _ m1 m2 this)
end RQ
def bW(f:List Rat)(lo hi:Rat):az:=⟨f.map aE,cY lo hi⟩
structure Mg (f:List Rat) (lo hi:Rat):Prop where
 zf:aJ f=false
 fl:Fl 1073741824 f
 ln:f.length≤10
 h1:ht lo≤1073741824
 h2:ht hi≤1073741824
theorem cR{p q:Rat}(h:p≠q):dz p q≠0:=fun e=>h (dm.1 e)
theorem mz{a b N:Nat}(ha:1≤a)(dK:a≤b):∀(n i j:Nat) (p q:List Rat),su a b N i j p q→Ch (xB a b (N-(fa n p q).length)) (fa n p q)
 |0,i,j,p,q,e=>e.hp.mono (cv a b dK (by show i≤N-p.length;have:=e.bound;have:=e.lt;omega))
 |n+1,i,j,p,q,e=>by
  rw[fa]
  by_cases h:q.length=0
  ·rw[beq_iff.2 h,cond_true];exact e.hp.mono (cv a b dK (by have:=e.bound;have:=e.lt;omega))
  ·have dk:q≠[]:=fun e=>h (by rw[e];rfl)
   rw[eL.2 h,cond_false]
   obtain⟨h1,h2⟩:=e.rest dK dk
   have hz:=b8 p q
   exact mz ha dK n _ _ q _ (e.next dK dk (h1.dx (Nat.le_trans ha (cv a b dK (i:=0) (Nat.zero_le _))) hz) (by rw[aY hz];exact h2) (bO _))
theorem vM:∀l,l<7→sB (xB 7 63 (6-l)) l≤1073741824:=by decide +kernel
theorem mA{p q:List Rat}(zp:aJ p=false)(zq:aJ q=false)(lp:p.length≤6)(lq:q.length≤6)(hp:Ch 7 p)(hq:Ch 7 q)(q0:q≠[]):cH (xB 7 63 (6-(bF p q).length)) (bF p q).length (bF p q):=by
 have D2:=List.length_pos_iff.2 q0
 have zg:=gD p q
 have zF:=kO (q.length+1) p q zp zq
 have g0:bF p q≠[]:=nh zF (tI _ _ _ (Or.inr ⟨q0,by omega⟩))
 have hl:(bF p q).length≤6:=by have:=((gR p q zp zq).2.len zg zq q0).2;omega
 have EA:(bF p q).length=(fa (q.length+1) p q).length:=aY zF
 have hr:Ch 63 (a7 p q):=(hp.rest hq zq q0).mono (by
  have:(p.length+1-q.length)*(7+1)≤6*(7+1):=Nat.mul_le_mul_right _ (by omega)
  omega)
 have uW:(a7 p q).length<q.length:=(eE p zq q0).1
 have hE:su 7 63 6 0 1 q (cr (a7 p q)):=⟨hq,hr.dx (by omega) (b8 p q),by omega,by rw[aY (b8 p q)];exact uW,by omega,zq,bO _⟩
 have e1:fa (q.length+1) p q=fa q.length q (cr (a7 p q)):=by
  rw[fa,eL.2 (by omega),cond_false]
 have hc:=mz (a:=7) (b:=63) (N:=6) (by omega) (by omega) q.length 0 1 q (cr (a7 p q)) hE
 rw[←e1,←EA] at hc
 have h1:1≤xB 7 63 (6-(bF p q).length):=sw (by omega) (by omega) _
 exact⟨zg,g0,Nat.le_refl _,hc.dx h1 zF,h1,by omega,vM _ (by omega)⟩
structure Sm (p:List Rat):Prop where
 z:aJ p=false
 l:p.length≤6
 f:Fl 1 p
theorem Sm.ch{p:List Rat}(h:Sm p):Ch 7 p:=(Ch.uH h.f).mono (by have:=h.l;omega)
theorem Sm.ok{f:List Rat}(h:Sm f){lo hi:Rat}(h1:ht lo≤1073741824)(h2:ht hi≤1073741824):Mg f lo hi:=⟨h.z,cL h.f (by omega),by have:=h.l;omega,h1,h2⟩
namespace hX
theorem compare{f:List Rat}{lo hi:Rat}(O:Mg f lo hi)(hle:lo≤hi){x:Rat}(hx:ht x≤1073741824):Cp 64 [(bW f lo hi).pv,(aE x).pv] (.aB [vI (aK f lo hi x),.aq]):=by
 have h1:=O.h1
 have h2:=O.h2
 have c1:=QF.jN lo hi (by omega) (by omega)
 have c2:=QF.jN lo x (by omega) (by omega)
 have c3:=QF.jN x lo (by omega) (by omega)
 have c4:=QF.jN x hi (by omega) (by omega)
 unfold aK
 by_cases he:lo=hi
 ·rw[if_pos he]
  exact cK.e0 (bW f lo hi) (aE x) _ _ c1 (dm.2 he) c2
 ·rw[if_neg he]
  by_cases k1:x≤lo
  ·rw[if_pos k1]
   exact cK.e1 (bW f lo hi) (aE x) _ _ c1 (cR he) c3 (by rcases cX x lo with k|k|k<;>first|omega|(exfalso;grind))
  ·rw[if_neg k1]
   have OU:0<dz x lo:=by rw[fG (by grind)];omega
   by_cases k2:hi≤x
   ·rw[if_pos k2]
    exact cK.e2 (bW f lo hi) (aE x) _ _ _ c1 (cR he) c3 OU c4 (by rcases cX x hi with k|k|k<;>first|omega|(exfalso;grind))
   ·rw[if_neg k2]
    have hl:=O.ln
    have e1:=PQ.Eval f x O.zf (by omega) O.fl hx (by omega)
    have e2:=PQ.Eval f lo O.zf (by omega) O.fl O.h1 (by omega)
    have w1:=fN f x _ O.fl hx
    have w2:=fN f lo _ O.fl O.h1
    have hm:f.length*(2*1073741824+1)≤10*(2*1073741824+1):=Nat.mul_le_mul_right _ hl
    exact cK.e3 (bW f lo hi) (aE x) _ _ _ _ _ _ _ c1 (cR he) c3 OU c4 (by rw[gN (by grind)];omega) e1 e2 (QF.Sign _ (by omega)) (QF.Sign _ (by omega)) (fh _ _)
theorem Dh{f:List Rat}{lo hi:Rat}(O:Mg f lo hi)(hle:lo≤hi)(h3:ht (midQ lo hi)≤1073741824):Cp 204 [(bW f lo hi).pv] (.aB [(bW f (c9 f lo hi).1 (c9 f lo hi).2).pv,.aq]):=by
 have h1:=O.h1
 have h2:=O.h2
 have c1:=QF.jN lo hi (by omega) (by omega)
 unfold c9
 by_cases he:lo=hi
 ·rw[if_pos he]
  exact dh.e0 (bW f lo hi) _ c1 (dm.2 he)
 ·rw[if_neg he]
  have cm:=o7.FE lo hi h1 h2 hle
  have cc:=compare O hle h3
  change Cp 176 [(cY lo hi).pv] (aE (midQ lo hi)).pv at cm
  by_cases k0:aK f lo hi (midQ lo hi)=0
  ·rw[if_pos k0]
   exact dh.e1 (bW f lo hi) _ _ _ (cY (midQ lo hi) (midQ lo hi)) c1 (cR he) cm cc k0 (uA.pH _ (by omega))
  ·rw[if_neg k0]
   by_cases k1:aK f lo hi (midQ lo hi)=1
   ·rw[if_pos k1]
    exact dh.e2 (bW f lo hi) _ _ _ c1 (cR he) cm cc k0 k1
   ·rw[if_neg k1]
    exact dh.e3 (bW f lo hi) _ _ _ c1 (cR he) cm cc k0 k1
theorem vN{p f:List Rat}{lo hi:Rat}(P:Sm p)(F:Sm f)(f0:f≠[])(hle:lo≤hi)(h1:ht lo≤1073741824)(h2:ht hi≤1073741824):Cp 201 [pq p,(bW f lo hi).pv] (.aB [vB (ua p f lo hi),.aq]):=by
 unfold ua
 by_cases h0:p.length=0
 ·rw[if_pos h0]
  exact bV.e0 _ (bW f lo hi) (by rw[bf];exact h0)
 ·rw[if_neg h0]
  have fi:=mA P.z F.z P.l F.l P.ch F.ch f0
  have lg:(bF p f).length≤6:=by have:=((gR p f P.z F.z).2.len fi.zp F.z f0).2;have:=F.l;omega
  have hg:=PQ.Gcd (h:=7) (b:=7) (c:=63) (L:=6) (by omega) (by omega) (by omega) (by omega) (by omega) (by decide) p f P.z F.z P.l F.l P.ch F.ch
  have c1:=QF.jN lo hi (by omega) (by omega)
  by_cases hl:(bF p f).length<2
  ·rw[if_pos hl]
   exact bV.e1 _ (bW f lo hi) _ (by rw[bf];exact h0) hg (by rw[bf];exact hl)
  ·rw[if_neg hl]
   by_cases he:lo=hi
   ·rw[if_pos he]
    have fl:=fi.wk
    have e1:=PQ.Eval (bF p f) lo fi.zp (by omega) fl h1 (by omega)
    have w1:=fN (bF p f) lo _ fl h1
    have hm:(bF p f).length*(2*1073741824+1)≤6*(2*1073741824+1):=Nat.mul_le_mul_right _ lg
    have:=bV.e2 _ (bW f lo hi) _ _ _ none _ (by rw[bf];exact h0) hg (by rw[bf];omega) c1 (dm.2 he) e1 (QF.Sign _ (by omega))
    rw[iG (q:=evalL (bF p f) lo=0) dm] at this
    exact this
   ·rw[if_neg he]
    have cn:=o7.Count fi lo hi hle h1 h2
    exact bV.e3 _ (bW f lo hi) _ _ _ none (by rw[bf];exact h0) hg (by rw[bf];omega) c1 (cR he) cn
def AB(f:List Rat)(lo hi:Rat)(g:List Rat)(lo' hi':Rat):Bool:=ua g f lo hi&&(decide (0≤aK f lo hi lo')&&decide (aK f lo hi hi'≤0))
theorem equal{f g:List Rat}{lo hi lo' hi':Rat}(F:Sm f)(G:Sm g)(f0:f≠[])(hle:lo≤hi)(h1:ht lo≤1073741824)(h2:ht hi≤1073741824)(h3:ht lo'≤1073741824)(h4:ht hi'≤1073741824):Cp 174 [(bW f lo hi).pv,(bW g lo' hi').pv] (.aB [vB (AB f lo hi g lo' hi'),.aq]):=by
 have hv:=vN G F f0 hle h1 h2
 have k1:=compare (F.ok h1 h2) hle h3
 have k2:=compare (F.ok h1 h2) hle h4
 unfold AB
 cases hb:ua g f lo hi with
 |false =>
  rw[hb] at hv
  exact fT.e0 (bW f lo hi) (bW g lo' hi') _ hv rfl
 |true =>
  rw[hb] at hv
  rw[Bool.true_and]
  by_cases h0:0≤aK f lo hi lo'
  ·rw[decide_eq_true h0,Bool.true_and]
   exact fT.e1 (bW f lo hi) (bW g lo' hi') _ _ _ none hv rfl k1 k2 h0
  ·rw[decide_eq_false h0,Bool.false_and]
   exact fT.e2 (bW f lo hi) (bW g lo' hi') _ _ _ none hv rfl k1 k2 (by omega)
theorem nZ{f g:List Rat}{lo hi lo' hi':Rat}(A:dH f lo hi)(B:dH g lo' hi'):AB f lo hi g lo' hi'=true↔xw f lo hi g lo' hi':=by
 rw[A7 A B]
 unfold AB
 rw[Bool.and_eq_true,Bool.and_eq_true,ub A B.zf,decide_eq_true_iff,decide_eq_true_iff]
end hX
def Dy(a w:Rat)(k:Nat)(lo hi:Rat):Prop:=(∃j,j<2^k∧lo=ptQ a w k j∧hi=ptQ a w k (j+1))∨(lo=hi∧∃j,j≤2^k∧lo=ptQ a w k j)
theorem Dy.start(lo hi:Rat):Dy lo (hi-lo) 0 lo hi:=Or.inl ⟨0,by decide,(iY _ _).1.symm,by have:=(iY lo (hi-lo)).2;rw[this];grind⟩
theorem Dy.ht{a w lo hi:Rat}{k:Nat}(h:Dy a w k lo hi):Sym.ht lo≤Sym.ht a+Sym.ht w+k/32+4∧Sym.ht hi≤Sym.ht a+Sym.ht w+k/32+4:=by
 rcases h with ⟨j,h1,rfl,rfl⟩|⟨rfl,j,h1,rfl⟩
 ·exact⟨jh a w (by omega),jh a w (by omega)⟩
 ·exact⟨jh a w h1,jh a w h1⟩
theorem Dy.gJ{a w lo hi:Rat}{k:Nat}(h:Dy a w k lo hi)(dk:lo≠hi):Sym.ht (midQ lo hi)≤Sym.ht a+Sym.ht w+(k+1)/32+4:=by
 rcases h with ⟨j,h1,rfl,rfl⟩|⟨e,_⟩
 ·unfold midQ
  rw[tu]
  exact jh a w (by rw[Nat.pow_succ];omega)
 ·exact absurd e dk
theorem Dy.half{a w lo hi:Rat}{k:Nat}(f:List Rat)(h:Dy a w k lo hi):Dy a w (k+1) (c9 f lo hi).1 (c9 f lo hi).2:=by
 unfold c9
 by_cases he:lo=hi
 ·rw[if_pos he]
  right
  refine⟨he,?_⟩
  rcases h with ⟨j,h1,h2,h3⟩|⟨_,j,h1,h2⟩
  ·exact⟨2*j,by rw[Nat.pow_succ];omega,by rw[gS];exact h2⟩
  ·exact⟨2*j,by rw[Nat.pow_succ];omega,by rw[gS];exact h2⟩
 ·rw[if_neg he]
  rcases h with ⟨j,h1,rfl,rfl⟩|⟨e,_⟩
  ·have hm:midQ (ptQ a w k j) (ptQ a w k (j+1))=ptQ a w (k+1) (2*j+1):=by unfold midQ;rw[tu]
   have hp:2^(k+1)=2^k*2:=Nat.pow_succ ..
   rw[hm]
   split
   ·exact Or.inr ⟨rfl,2*j+1,by omega,rfl⟩
   ·split
    ·exact Or.inl ⟨2*j+1,by omega,rfl,by rw[show 2*j+1+1=2*(j+1) by omega,gS]⟩
    ·exact Or.inl ⟨2*j,by omega,by rw[gS],rfl⟩
  ·exact absurd e he
def eu(f g:List Rat):Nat→Rat→Rat→Rat→Rat→Option ((Rat×Rat)×(Rat×Rat))
 |0,_,_,_,_=>none
 |n+1,lo,hi,lo',hi'=>if lo'<hi∧lo<hi' then eu f g n (c9 f lo hi).1 (c9 f lo hi).2 (c9 g lo' hi').1 (c9 g lo' hi').2 else some ((lo,hi),(lo',hi'))
theorem apart_spec{f g:List Rat} : ∀(n:Nat) (lo hi lo' hi':Rat) (r:(Rat×Rat)×(Rat×Rat)),dH f lo hi→dH g lo' hi'→eu f g n lo hi lo' hi'=some r →
  dH f r.1.1 r.1.2∧dH g r.2.1 r.2.2∧(∀x,aK f r.1.1 r.1.2 x=aK f lo hi x)∧(∀x,aK g r.2.1 r.2.2 x=aK g lo' hi' x)∧(r.1.2≤r.2.1∨r.2.2≤r.1.1)
 |0,_,_,_,_,_,_,_,h=>by cases h
 |n+1,lo,hi,lo',hi',r,A,B,h=>by
  rw[eu] at h
  split at h
  ·obtain⟨a1,a2, -⟩:=dD A
   obtain⟨b1,b2, -⟩:=dD B
   obtain⟨k1,k2,k3,k4,k5⟩:=apart_spec n _ _ _ _ r a1 b1 h
   exact⟨k1,k2,fun x=>by rw[k3,a2],fun x=>by rw[k4,b2],k5⟩
  ·rename_i hn
   injection h with h
   subst h
   refine⟨A,B,fun _=>rfl,fun _=>rfl,?_⟩
   by_cases h1:lo'<hi
   ·right
    show hi'≤lo
    grind
   ·left
    show hi≤lo'
    grind
def tv(f g:List Rat)(n:Nat)(lo hi lo' hi':Rat):Option Int:=
 bif hX.AB f lo hi g lo' hi' then some 0 else match eu f g n lo hi lo' hi' with
  |some r=>some (if midQ r.1.1 r.1.2<midQ r.2.1 r.2.2 then -1 else 1)
  |none=>none
theorem tx{f g:List Rat}{n:Nat}{lo hi lo' hi':Rat}{s:Int}(A:dH f lo hi)(B:dH g lo' hi')(h:tv f g n lo hi lo' hi'=some s) :
  (s=0∧xw f lo hi g lo' hi')∨(s = -1∧xZ f lo hi g lo' hi')∨(s=1∧xZ g lo' hi' f lo hi):=by
 unfold tv at h
 cases he:hX.AB f lo hi g lo' hi' with
 |true =>
  rw[he,cond_true] at h
  injection h with h
  exact Or.inl ⟨h.symm,(hX.nZ A B).1 he⟩
 |false =>
  rw[he,cond_false] at h
  have dk:¬xw f lo hi g lo' hi':=fun e=>by rw[(hX.nZ A B).2 e] at he;cases he
  cases hr:eu f g n lo hi lo' hi' with
  |none=>rw[hr] at h;cases h
  |some r =>
   rw[hr] at h
   injection h with h
   obtain⟨k1,k2,k3,k4,k5⟩:=apart_spec n lo hi lo' hi' r A B hr
   have l1:=k1.le
   have l2:=k2.le
   have m1:=qj r.1.1 r.1.2
   have m2:=qj r.2.1 r.2.2
   have EF:¬(r.1.1=r.1.2∧r.2.1=r.2.2∧r.1.1=r.2.1):=fun ⟨e1,e2,e3⟩=>dk (fun x=>by
    rw[←k3,←k4]
    unfold aK
    rw[if_pos e1,if_pos e2,e3])
   rcases k5 with k5|k5
   ·have bH:midQ r.1.1 r.1.2<midQ r.2.1 r.2.2:=by
     refine Rat.not_le.1 fun hc=>EF ⟨by grind,by grind,by grind⟩
    rw[if_pos bH] at h
    refine Or.inr (Or.inl ⟨h.symm,?_⟩)
    rcases Nh A B with t|t|t
    ·exact t
    ·exact absurd t dk
    ·obtain⟨x,x1,x2⟩:=t
     rw[←k4] at x1
     rw[←k3] at x2
     exfalso
     have a1:r.2.1≤x:=by
      refine Rat.not_lt.1 fun hh=>?_
      have:=k2.kx hh k2.lR;omega
     have a2:x≤r.1.2:=by
      refine Rat.not_lt.1 fun hh=>?_
      have:=k1.mono hh k1.nF;omega
     have ex:x=r.2.1:=by grind
     have pI:x=r.1.2:=by grind
     have b1:0≤aK g r.2.1 r.2.2 x:=by rw[ex];exact k2.lR
     omega
   ·have bH:¬midQ r.1.1 r.1.2<midQ r.2.1 r.2.2:=by grind
    rw[if_neg bH] at h
    refine Or.inr (Or.inr ⟨h.symm,?_⟩)
    rcases Nh A B with t|t|t
    ·obtain⟨x,x1,x2⟩:=t
     rw[←k3] at x1
     rw[←k4] at x2
     exfalso
     have a1:r.1.1≤x:=by
      refine Rat.not_lt.1 fun hh=>?_
      have:=k1.kx hh k1.lR;omega
     have a2:x≤r.2.2:=by
      refine Rat.not_lt.1 fun hh=>?_
      have:=k2.mono hh k2.nF;omega
     have ex:x=r.1.1:=by grind
     have b1:0≤aK f r.1.1 r.1.2 x:=by rw[ex];exact k1.lR
     omega
    ·exact absurd t dk
    ·exact t
namespace hX
theorem tz{f:List Rat}{lo hi a w:Rat}{k:Nat}(F:Sm f)(A:dH f lo hi)(D:Dy a w k lo hi)(hh:ht a+ht w+(k+1)/32+4≤1073741824):Cp 204 [(bW f lo hi).pv] (.aB [(bW f (c9 f lo hi).1 (c9 f lo hi).2).pv,.aq]):=by
 obtain⟨h1,h2⟩:=D.ht
 have O:=F.ok (lo:=lo) (hi:=hi) (by omega) (by omega)
 by_cases he:lo=hi
 ·have c1:=QF.jN lo hi (by omega) (by omega)
  have e:c9 f lo hi=(lo,hi):=by unfold c9;rw[if_pos he]
  rw[e]
  exact dh.e0 (bW f lo hi) _ c1 (dm.2 he)
 ·exact Dh O A.le (by have:=D.gJ he;omega)
theorem apart{f g:List Rat}{a w a' w':Rat}{K:Nat}(F:Sm f)(G:Sm g)(h1:ht a+ht w+K/32+4≤1073741824)(h2:ht a'+ht w'+K/32+4≤1073741824):∀(n k:Nat) (lo hi lo' hi':Rat) (r:(Rat×Rat)×(Rat×Rat)),n+k≤K+1→dH f lo hi→dH g lo' hi'→Dy a w k lo hi→Dy a' w' k lo' hi'→eu f g n lo hi lo' hi'=some r →
  di.aj (bW f lo hi) (bW g lo' hi') (.aB [(bW f r.1.1 r.1.2).pv,(bW g r.2.1 r.2.2).pv,.aq])∧ht (midQ r.1.1 r.1.2)≤4294967296∧ht (midQ r.2.1 r.2.2)≤4294967296∧ht r.1.1≤1073741824∧ht r.1.2≤1073741824∧ht r.2.1≤1073741824∧ht r.2.2≤1073741824
 |0,_,_,_,_,_,_,_,_,_,_,_,h=>by cases h
 |n+1,k,lo,hi,lo',hi',r,hn,A,B,D,E,h=>by
  obtain⟨d1,d2⟩:=D.ht
  obtain⟨e1,e2⟩:=E.ht
  have c1:=QF.jN hi lo' (by omega) (by omega)
  have c2:=QF.jN hi' lo (by omega) (by omega)
  rw[eu] at h
  split at h
  ·rename_i bH
   match n,h with
   |0,h=>cases h
   |n+1,h =>
    have a1:=dD A
    have b1:=dD B
    obtain⟨g1,g2⟩:=apart F G h1 h2 (n+1) (k+1) _ _ _ _ r (by omega) a1.1 b1.1 (D.half f) (E.half g) h
    exact⟨di.l10 (bW f lo hi) (bW g lo' hi') _ _ _ _ c1 (by rw[fG bH.1];omega) c2 (by rw[fG bH.2];omega) (tz F A D (by omega)) (tz G B E (by omega)) g1,g2⟩
  ·rename_i Fw
   injection h with h
   subst h
   have mh:∀x y:Rat,ht x≤1073741824→ht y≤1073741824→ht (midQ x y)≤4294967296:=fun x y hx hy=>by
    unfold midQ
    have s1:=jg x y
    have s2:=dP (Rat.divInt 1 2) (x+y)
    have s3:ht (Rat.divInt 1 2)=1:=by decide +kernel
    omega
   refine⟨?_,mh lo hi (by omega) (by omega),mh lo' hi' (by omega) (by omega),(show ht lo≤1073741824 by omega),(show ht hi≤1073741824 by omega),(show ht lo'≤1073741824 by omega),(show ht hi'≤1073741824 by omega)⟩
   by_cases k1:lo'<hi
   ·exact di.oK (bW f lo hi) (bW g lo' hi') _ _ c1 (by rw[fG k1];omega) c2 (by rcases cX hi' lo with k|k|k<;>first|omega|(exfalso;exact Fw ⟨k1,k.1⟩))
   ·exact di.AS (bW f lo hi) (bW g lo' hi') _ c1 (by rcases cX hi lo' with k|k|k<;>first|omega|(exfalso;exact k1 k.1))
theorem cmp{f g:List Rat}{lo hi lo' hi':Rat}{K:Nat}{s:Int}(F:Sm f)(G:Sm g)(A:dH f lo hi)(B:dH g lo' hi')(h1:ht lo+ht (hi-lo)+K/32+4≤1073741824)(h2:ht lo'+ht (hi'-lo')+K/32+4≤1073741824)(h:tv f g (K+1) lo hi lo' hi'=some s) :
  Cp 96 [(bW f lo hi).pv,(bW g lo' hi').pv] (.aB [vI s,.aq]):=by
 obtain⟨d1,d2⟩:=(Dy.start lo hi).ht
 obtain⟨e1,e2⟩:=(Dy.start lo' hi').ht
 have he:=equal F G A.f0 A.le (lo:=lo) (hi:=hi) (lo':=lo') (hi':=hi') (by omega) (by omega) (by omega) (by omega)
 unfold tv at h
 cases hb:AB f lo hi g lo' hi' with
 |true =>
  rw[hb] at he h
  have hs:s=0:=(Option.some.inj h).symm
  rw[hs]
  exact gT.e0 (bW f lo hi) (bW g lo' hi') _ he rfl
 |false =>
  rw[hb] at he h
  rw[cond_false] at h
  cases hr:eu f g (K+1) lo hi lo' hi' with
  |none=>rw[hr] at h;cases h
  |some r =>
   rw[hr] at h
   have h:=Option.some.inj h
   obtain⟨k1,k2, -⟩:=apart_spec _ lo hi lo' hi' r A B hr
   obtain⟨g1,g2,g3,g4,g5,g6,g7⟩:=apart F G h1 h2 (K+1) 0 lo hi lo' hi' r (by omega) A B (Dy.start lo hi) (Dy.start lo' hi') hr
   have ga:=di.e0 (bW f lo hi) (bW g lo' hi') g1
   have m1:=o7.FE r.1.1 r.1.2 g4 g5 k1.le
   have m2:=o7.FE r.2.1 r.2.2 g6 g7 k2.le
   have c:=QF.jN (midQ r.1.1 r.1.2) (midQ r.2.1 r.2.2) (by omega) (by omega)
   by_cases bH:midQ r.1.1 r.1.2<midQ r.2.1 r.2.2
   ·rw[if_pos bH] at h
    subst h
    exact gT.e1 (bW f lo hi) (bW g lo' hi') _ (bW f r.1.1 r.1.2) (bW g r.2.1 r.2.2) _ _ _ he rfl ga m1 m2 c (by rw[gN bH];omega)
   ·rw[if_neg bH] at h
    subst h
    exact gT.e2 (bW f lo hi) (bW g lo' hi') _ (bW f r.1.1 r.1.2) (bW g r.2.1 r.2.2) _ _ _ he rfl ga m1 m2 c (by rcases cX (midQ r.1.1 r.1.2) (midQ r.2.1 r.2.2) with k|k|k<;>first|omega|(exfalso;exact bH k.1))
end hX
theorem lT{P q:List Rat}(hz:aJ q=false)(sL:q≠[])(x:Rat):evalL (et P q).1 x*evalL q x+evalL (a7 P q) x=evalL P x:=(eE P hz sL).2 x
theorem tA{f g:List Rat}{u v:Rat}(A:dH f u v)(zg:aJ g=false)(g0:g≠[])(hd:Dv g f)(hn:¬Zr f u v g):o6 g u v:=by
 have hle:=A.le
 by_cases he:u=v
 ·subst he
  have h0:evalL g u≠0:=fun e=>hn ((A.ma (qT rfl)).2 e)
  obtain⟨δ,d0,hδ⟩:=oG h0
  exact hδ.sub (by grind) (by grind)
 ·have bH:u<v:=by grind
  obtain⟨G1,G2,G3,G4,k, -,G5⟩:=free_spec zg g0
  have hc:¬0<fR (aG g) u-fR (aG g) v:=fun h=>hn ((A.Ey bH zg g0 hd).1 h)
  have hm:=kE G1 G2 G3 hle
  have dk:evalL (aM g) u≠0:=fun e=>by
   obtain⟨c,hc⟩:=G4.trans hd
   exact(A.ends bH).1 (by rw[hc u,e];grind)
  have AM:¬0<cS (aM g) u-cS (aM g) v:=hc
  have ha:=ou G1 G2 G3 hle (by unfold cS at AM;omega) dk
  exact yZ (xW ha k) G5
theorem pJ{f g f1:List Rat}{u v:Rat}(A:dH f u v)(zg:aJ g=false)(g0:g≠[])(hd:∀x,evalL f x=evalL f1 x*evalL g x)(hn:¬Zr f u v g):evalL f1 u=0∨evalL f1 v=0∨sg (evalL f1 u) = - sg (evalL f1 v):=by
 have ha:=tA A zg g0 ⟨f1,hd⟩ hn
 have hle:=A.le
 by_cases he:u=v
 ·subst he
  left
  have hz:evalL f u=0:=by
   rcases A.DN with ⟨_,k⟩|⟨k,_⟩
   ·exact k
   ·exact absurd k Rat.lt_irrefl
  rw[hd] at hz
  rcases Rat.mul_eq_zero.1 hz with h|h
  ·exact h
  ·exact absurd h (ha.ne Rat.le_refl Rat.le_refl)
 ·have bH:u<v:=by grind
  right;right
  have hs:=A.xY (u:=u) (v:=v) (A.low bH Rat.le_refl) (A.high bH Rat.le_refl) (Or.inl Rat.le_refl) (Or.inl Rat.le_refl) bH
  have hg:=qi hle ha
  have n1:=rC (ha.ne Rat.le_refl hle)
  rw[hd,hd] at hs
  have sm:∀x y:Rat,sg (x*y)=sg x*sg y:=fun x y=>by
   rcases bk x with ⟨a,b⟩|⟨a,b⟩|⟨a,b⟩<;>rcases bk y with ⟨c,d⟩|⟨c,d⟩|⟨c,d⟩<;>rw[b,d]
   ·have:=Rat.mul_pos (show 0 < -x by grind) (show 0 < -y by grind)
    rcases bk (x*y) with k|k|k<;>first|(rw [k.2];decide)|(exfalso;grind)
   ·rw[c,Rat.mul_zero];rfl
   ·have:=Rat.mul_pos (show 0 < -x by grind) c
    rcases bk (x*y) with k|k|k<;>first|(rw [k.2];decide)|(exfalso;grind)
   ·rw[a,Rat.zero_mul];rfl
   ·rw[a,Rat.zero_mul];rfl
   ·rw[a,Rat.zero_mul];rfl
   ·have:=Rat.mul_pos a (show 0 < -y by grind)
    rcases bk (x*y) with k|k|k<;>first|(rw [k.2];decide)|(exfalso;grind)
   ·rw[c,Rat.mul_zero];rfl
   ·have:=Rat.mul_pos a c
    rcases bk (x*y) with k|k|k<;>first|(rw [k.2];decide)|(exfalso;grind)
  rw[sm,sm,hg] at hs
  rcases n1 with n|n<;>rw[hg] at n<;>rw[n] at hs<;>omega
theorem Ts{P1 V1 U1 K F1 w:Rat}{S K1 L1 N:Nat}(h:V1*P1+(U1-V1*K)*F1=1)(hU:ab U1≤twP S)(hV:ab V1≤twP S)(hK:ab K≤twP K1)(hF:ab F1≤twP L1*w)(yf:0≤w)(hw:w*twP N≤1)(hN:S+K1+L1+2≤N):1≤ab P1*twP N:=by
 have pS:=bw S
 have pK:=bw K1
 have pL:=bw L1
 have e1:ab (U1-V1*K)≤twP (S+K1+1):=by
  have a1:=kD U1 (-(V1*K))
  rw[yW,fQ] at a1
  have a2:=cM hV hK (bJ V1) (Rat.le_of_lt pK)
  have a3:=aS (show S≤S+K1 by omega)
  rw[bP,dS]
  rw[dS] at a3
  have a4:U1-V1*K=U1 + -(V1*K):=by grind
  rw[a4]
  grind
 have e2:ab ((U1-V1*K)*F1)≤twP (S+K1+1)*(twP L1*w):=by
  rw[fQ]
  exact cM e1 hF (bJ _) (Rat.mul_nonneg (Rat.le_of_lt pL) yf)
 have e3:twP (S+K1+1)*(twP L1*w)+twP (S+K1+1)*(twP L1*w)≤1:=by
  have b1:=Rat.mul_le_mul_of_nonneg_left (aS hN) yf
  have b2:twP (S+K1+L1+2)=twP (S+K1+1)*twP L1+twP (S+K1+1)*twP L1:=by
   rw[←dS,←bP]
   congr 1;omega
  rw[b2] at b1
  grind
 have e4:=kD (V1*P1) ((U1-V1*K)*F1)
 rw[h,show ab 1=1 from rfl,fQ] at e4
 have e5:=Rat.mul_le_mul_of_nonneg_right hV (bJ P1)
 have e6:=Rat.mul_le_mul_of_nonneg_left (aS (show S+1≤N by omega)) (bJ P1)
 rw[bP] at e6
 grind
theorem zi{f p g f1:List Rat}{u v:Rat}(A:dH f u v)(zp:aJ p=false)(lp:p.length≤6)(cp:Ch 7 p)(zg:aJ g=false)(g0:g≠[])(hd:∀x,evalL f x=evalL f1 x*evalL g x)(hb:∃U V,∀x,evalL g x=evalL U x*evalL p x+evalL V x*evalL f x)(FK:¬Zr f u v g)
  (z1:aJ f1=false) (l1:f1.length≤6) (c1:Ch 82021 f1) (ID:Fl 13670 f1) (hu:ab u≤twP 32) (hv:ab v≤twP 32) {N:Nat} (hN:1952809344+18373318+437644+2≤N) (hw:(v-u)*twP N≤1):∀x,u≤x→x≤v→1≤ab (evalL p x)*twP N:=by
 have EB:=pJ A zg g0 hd FK
 have hle:=A.le
 have f10:f1≠[]:=fun e=>by
  have h4:aU f=aU []:=xU (fun z=>by rw[hd z,e];show(0:Rat)*_=0;grind)
  rw[show aU f=f from jQ (bj f) A.zf (dV f)] at h4
  exact A.f0 h4
 obtain⟨a,b,dK⟩:=A.zK
 obtain⟨U0,V0,PD⟩:=hb
 have Np:qF f1 p:=by
  refine⟨ft (ft (mulL a g) (mulL b (ar g))) (mulL (mulL (mulL b (ar f1)) V0) g),mulL (mulL b (ar f1)) U0,fun x=>?_⟩
  have h1:=dK x
  have h2:=PD x
  have h3:=hd x
  have h4:dEv f x=dEv f1 x*evalL g x+evalL f1 x*dEv g x:=by
   rw[oE (q:=mulL f1 g) (fun x=>by rw[aO];exact hd x) x,sq]
  rw[dW,h4] at h1
  simp only[cu,aO,dW]
  generalize evalL a x=A' at *
  generalize evalL b x=B' at *
  generalize evalL g x=G' at *
  generalize evalL f1 x=F' at *
  generalize dEv f1 x=DF at *
  generalize dEv g x=DG at *
  generalize evalL U0 x=U' at *
  generalize evalL V0 x=V' at *
  generalize evalL p x=P' at *
  rw[h3] at h1 h2
  grind
 obtain⟨al,be,La⟩:=Np
 have he:=fun x=>lT (P:=p) z1 f10 x
 have H8:qF f1 (a7 p f1):=⟨ft al (mulL be (et p f1).1),be,fun x=>by
  have h1:=La x
  have h2:=he x
  rw[cu,aO]
  grind⟩
 have r0:a7 p f1≠[]:=fun e=>by
  obtain⟨x1,x2,hx⟩:=H8
  have FD:Dv f1 [1]:=⟨x1,fun x=>by
   have:=hx x
   rw[e] at this
   rw[fL]
   change _+_*(0:Rat)=1 at this
   grind⟩
  have hl:=(FD.len z1 (show aJ [(1:Rat)]=false by decide) (by simp)).2
  have oh:=List.length_pos_iff.2 f10
  obtain⟨c,rfl⟩:∃c,f1=[c]:=List.length_eq_one_iff.1 (by simp at hl;omega)
  have hc:c≠0:=eH z1 f10
  rw[fL,fL] at EB
  rcases EB with k|k|k
  ·exact hc k
  ·exact hc k
  ·rcases rC hc with m|m<;>omega
 have uW:=(eE p z1 f10).1
 have Gd:=List.length_pos_iff.2 f10
 have hm:(p.length+1-f1.length)*(82021+1)≤6*(82021+1):=Nat.mul_le_mul_right _ (by omega)
 have Pc:Ch 492139 (a7 p f1):=(cp.rest c1 z1 f10).mono (by omega)
 have hE:su 82021 492139 6 0 1 f1 (a7 p f1):=⟨c1,Pc,by omega,uW,by omega,z1,b8 p f1⟩
 have hR:(0:Rat)≤twP 32:=Rat.le_of_lt (bw 32)
 obtain⟨U,V,Nq,Kw,Jq⟩:=Jp (a:=82021) (b:=492139) (N:=6) (r:=32) (R:=twP 32) (by omega) (by omega) hR Rat.le_refl (by omega) 6 0 1 f1 (a7 p f1) hE r0 H8 (by unfold a7 at *;omega)
 have VS:xB 82021 492139 (6-1)=15256323:=by decide
 have hS:32*(4*xB 82021 492139 (6-1)-3*xB 82021 492139 1)≤1952809344:=by rw[VS];omega
 have Kw:=Rat.le_trans Kw (aS hS)
 have Jq:=Rat.le_trans Jq (aS hS)
 have VT:Fl 574160 (et p f1).1:=cL (tK cp c1 (by omega) (by omega) z1 f10) (by omega)
 have hkl:=qS (p:=p) z1 f10
 have Nr:=Av hR Rat.le_refl (et p f1).1 (qn VT)
 have Nr:=Rat.le_trans Nr (aS (show 32*574160+(32+1)*(et p f1).1.length≤18373318 from
  Nat.le_trans (Nat.add_le_add_left (Nat.mul_le_mul_left (32+1) (show (et p f1).1.length≤6 by omega)) _) (by decide)))
 have H9:=pF hR Rat.le_refl f1 (qn ID)
 have H9:=Rat.le_trans H9 (aS (show 32*13670+(32+2)*f1.length≤437644 from
  Nat.le_trans (Nat.add_le_add_left (Nat.mul_le_mul_left (32+2) l1) _) (by decide)))
 intro x h1 h2
 have hx:=a8 h1 h2 hu hv
 have zX:=iE hu hv EB h1 h2
 have yf:0≤v-u:=by grind
 refine Ts (P1:=evalL p x) (V1:=evalL V x) (U1:=evalL U x) (K:=evalL (et p f1).1 x) (F1:=evalL f1 x) (w:=v-u) ?_ (Rat.le_trans (kc hx U) Kw) (Rat.le_trans (kc hx V) Jq) (Rat.le_trans (kc hx _) Nr) (Rat.le_trans zX (Rat.mul_le_mul_of_nonneg_right H9 yf)) yf hw hN
 have q1:=Nq x
 have q2:=he x
 grind
theorem Uk:xB 7 63 5=1951:=by decide
theorem oH{f p:List Rat}(F:Sm f)(P:Sm p){u v:Rat}(A:dH f u v)(hn:¬Zr f u v p)(hu:ab u≤twP 32)(hv:ab v≤twP 32){N:Nat}(hN:1952809344+18373318+437644+2≤N)(hw:(v-u)*twP N≤1):∀x,u≤x→x≤v→1≤ab (evalL p x)*twP N:=by
 have f0:=A.f0
 have H9:=F.l
 have fi:=mA P.z F.z P.l F.l P.ch F.ch f0
 have zg:=fi.zp
 have g0:=fi.ne
 obtain⟨d1,d2⟩:=gR p f P.z F.z
 have CB:=List.length_pos_iff.2 g0
 have FK:¬Zr f u v (bF p f):=fun h=>hn (h.dv d1)
 obtain⟨c,hc⟩:=d2
 have SI:=qR (p:=f) zg g0 (bj c) (show aJ []=false from rfl) (by simpa using CB) (fun x=>by
  rw[da]
  show _+(0:Rat)=_
  rw[Rat.add_zero]
  exact(hc x).symm)
 have hd:∀x,evalL f x=evalL (et f (bF p f)).1 x*evalL (bF p f) x:=fun x=>by
  have:=lT (P:=f) zg g0 x
  rw[show a7 f (bF p f)=[] from by unfold a7;rw[SI]] at this
  change _+(0:Rat)=_ at this
  grind
 have hx:xB 7 63 (6-(bF p f).length)≤1951:=by
  rw[←Uk]
  exact cv 7 63 (by omega) (by omega)
 have cg:=fi.ch.mono hx
 have hm:(f.length+1-(bF p f).length)*(1951+1)≤6*(1951+1):=Nat.mul_le_mul_right _ (by omega)
 have ID:Fl 13670 (et f (bF p f)).1:=cL (tK F.ch cg (by omega) (by omega) zg g0) (by omega)
 have o9:=qS (p:=f) zg g0
 have l1:(et f (bF p f)).1.length≤6:=by omega
 have c1:Ch 82021 (et f (bF p f)).1:=(Ch.uH ID).mono (Nat.le_trans (Nat.add_le_add_right (Nat.mul_le_mul_right 13670 l1) 1) (by decide))
 exact zi A P.z P.l P.ch zg g0 hd (tZ p f P.z F.z) FK (me _ _).1 l1 c1 ID hu hv hN hw
theorem lU{f g:List Rat} : ∀(n:Nat) (lo hi lo' hi':Rat),dH f lo hi→dH g lo' hi'→eu f g (n+1) lo hi lo' hi'=none →
  ∃u v u' v',dH f u v∧dH g u' v'∧(∀x,aK f u v x=aK f lo hi x)∧(∀x,aK g u' v' x=aK g lo' hi' x)∧lo≤u∧v≤hi∧lo'≤u'∧v'≤hi'∧(v-u)*twP n≤hi-lo∧(v'-u')*twP n≤hi'-lo'∧u'<v∧u<v'
 |0,lo,hi,lo',hi',A,B,h=>by
  rw[eu] at h
  split at h
  ·rename_i bH
   exact⟨lo,hi,lo',hi',A,B,fun _=>rfl,fun _=>rfl,Rat.le_refl,Rat.le_refl,Rat.le_refl,Rat.le_refl,by rw[hO];grind,by rw[hO];grind,bH.1,bH.2⟩
  ·cases h
 |n+1,lo,hi,lo',hi',A,B,h=>by
  rw[eu] at h
  split at h
  ·obtain⟨a1,a2,a3,a4,a5⟩:=dD A
   obtain⟨b1,b2,b3,b4,b5⟩:=dD B
   obtain⟨u,v,u',v',k1,k2,k3,k4,k5,k6,k7,k8,k9,Ns,Nt,PH⟩:=lU n _ _ _ _ a1 b1 h
   refine⟨u,v,u',v',k1,k2,fun x=>by rw[k3,a2],fun x=>by rw[k4,b2],by grind,by grind,by grind,by grind,?_,?_,Nt,PH⟩
   ·rw[bP];grind
   ·rw[bP];grind
  ·cases h
theorem qW{f g:List Rat}{lo hi s t:Rat}(A:dH f lo hi)(zg:aJ g=false)(g0:g≠[])(cg:qF g (ar g))(hz:Zr f lo hi g)(bz:s≤t)(h1:aK f lo hi s=1)(h2:aK f lo hi t≤0)(hs:evalL g s≠0):1≤cS g s-cS g t:=by
 have hm:=kE zg g0 cg bz
 by_cases he:cS g s=cS g t
 ·exfalso
  have ha:=ou zg g0 cg bz he hs
  rcases A.three t with k|k|k
  ·omega
  ·exact ha.ne bz Rat.le_refl ((A.ma k).1 hz)
  ·exact hz s t h1 k ha
 ·unfold cS at *
  omega
theorem ks{f1 f2 g:List Rat}{EC xu vO ql s t:Rat}(A:dH f1 EC xu)(B:dH f2 vO ql)(zg:aJ g=false)(g0:g≠[])(cg:qF g (ar g))(hA:Zr f1 EC xu g)(hB:Zr f2 vO ql g)(bH:xZ f1 EC xu f2 vO ql)(hs:0≤aK f1 EC xu s)(ht:aK f2 vO ql t≤0) :
  s≤t∧(evalL g s≠0→2≤cS g s-cS g t)∧(evalL g s=0→1≤cS g s-cS g t):=by
 obtain⟨x0,x1,x2⟩:=bH
 obtain⟨x,y1,y2,hx⟩:∃x,aK f1 EC xu x = -1∧aK f2 vO ql x=1∧evalL g x≠0:=by
  by_cases h:evalL g x0=0
  ·obtain⟨y,h1,h2⟩:=B.zc x2
   obtain⟨d,d1,d2,d3⟩:=xX cg h (δ:=y-x0) (by grind) 1 (Or.inl rfl)
   have e:x0+1*d=x0+d:=by grind
   rw[e] at d3
   refine⟨x0+d,A.mono (x:=x0) (by grind) (by omega),?_,d3⟩
   by_cases hy:x0+d=y
   ·rw[hy];exact h2
   ·exact B.kx (y:=y) (by grind) (by omega)
  ·exact⟨x0,x1,x2,h⟩
 have PE:s<x:=by
  by_cases h:x<s
  ·have:=A.kx h hs;omega
  ·by_cases e:s=x
   ·rw[e] at hs;omega
   ·grind
 have QN:x<t:=by
  by_cases h:t<x
  ·have:=B.mono h ht;omega
  ·by_cases e:x=t
   ·rw[←e] at ht;omega
   ·grind
 have c2:=qW B zg g0 cg hB (Rat.le_of_lt QN) y2 ht hx
 refine⟨by grind,fun dk => ?_,fun _=>?_⟩
 ·have h1:aK f1 EC xu s=1:=by
   rcases A.three s with k|k|k
   ·exact k
   ·exact absurd ((A.ma k).1 hA) dk
   ·omega
  have c1:=qW A zg g0 cg hA (Rat.le_of_lt PE) h1 (by omega) dk
  omega
 ·have hm:=kE zg g0 cg (Rat.le_of_lt PE)
  unfold cS at *
  omega
theorem mB{p:List Rat}(P:Sm p)(p0:p≠[]):cH 7 6 p:=⟨P.z,p0,P.l,P.ch,by omega,by omega,by decide +kernel⟩
theorem Fb:32*(4*xB 7 (7+1) (6-1))+32*(7+1)+(32+2)*6+3≤46031:=by decide
theorem jD{f:List Rat}{lo hi s:Rat}(A:dH f lo hi)(h:s≤lo):0≤aK f lo hi s:=by
 by_cases e:s=lo
 ·rw[e];exact A.lR
 ·rw[A.kx (y:=lo) (by grind) A.lR];omega
theorem lh{f:List Rat}{lo hi t:Rat}(A:dH f lo hi)(h:hi≤t):aK f lo hi t≤0:=by
 by_cases e:t=hi
 ·rw[e];exact A.nF
 ·rw[A.mono (x:=hi) (by grind) A.nF];omega
theorem kG{w c:Rat}{M:Nat}(h0:0≤w)(hc:c≤twP 33)(h:w*twP (M+33)≤c):w*twP M≤1:=by
 have p:=bw 33
 rw[dS] at h
 refine Rat.not_lt.1 fun bH=>?_
 have:=Rat.mul_lt_mul_of_pos_right bH p
 grind
theorem rn{f g:List Rat}(F:Sm f)(G:Sm g){lo hi lo' hi':Rat}(A:dH f lo hi)(B:dH g lo' hi')(dk:¬xw f lo hi g lo' hi')(h1:ab lo≤twP 32)(h2:ab hi≤twP 32)(h3:ab lo'≤twP 32)(h4:ab hi'≤twP 32){N:Nat}(hN:1952809344+18373318+437644+2≤N) :
  ∃r,eu f g (N+237+33+1) lo hi lo' hi'=some r:=by
 cases hr:eu f g (N+237+33+1) lo hi lo' hi' with
 |some r=>exact⟨r,rfl⟩
 |none =>
  exfalso
  obtain⟨u,v,u',v',A1,B1,k3,k4,k5,k6,k7,k8,k9,Ns,Nt,PH⟩:=lU (N+237+33) lo hi lo' hi' A B hr
  have CA:twP 32+twP 32=twP 33:=(bP 32).symm
  have w1:hi-lo≤twP 33:=by have:=ke hi;have:=dY lo;grind
  have w2:hi'-lo'≤twP 33:=by have:=ke hi';have:=dY lo';grind
  have l1:=A1.le
  have l2:=B1.le
  have z1:0≤v-u:=by grind
  have z2:0≤v'-u':=by grind
  have m1:=kG z1 w1 k9
  have m2:=kG z2 w2 Ns
  have bu:=a8 k5 (show u≤hi by grind) h1 h2
  have bv:=a8 (show lo≤v by grind) k6 h1 h2
  have RX:=a8 k7 (show u'≤hi' by grind) h3 h4
  have RY:=a8 (show lo'≤v' by grind) k8 h3 h4
  have Fx:¬xw f u v g u' v':=fun e=>dk (fun x=>by rw[←k3,←k4];exact e x)
  by_cases hz:Zr f u v g
  ·
   have fi:=mB G B.f0
   have he:=fi.Tt
   obtain⟨s,PF,Me,Kx⟩:∃s,s≤u∧s≤u'∧(s=u∨s=u'):=by
    by_cases h:u≤u'
    ·exact⟨u,Rat.le_refl,h,Or.inl rfl⟩
    ·exact⟨u',by grind,Rat.le_refl,Or.inr rfl⟩
   obtain⟨t,Nu,OV,LU⟩:∃t,v≤t∧v'≤t∧(t=v∨t=v'):=by
    by_cases h:v≤v'
    ·exact⟨v',h,Rat.le_refl,Or.inr rfl⟩
    ·exact⟨v,Rat.le_refl,by grind,Or.inl rfl⟩
   have bs:ab s≤twP 32:=by rcases Kx with e|e<;>rw[e]<;>assumption
   have bt:ab t≤twP 32:=by rcases LU with e|e<;>rw[e]<;>assumption
   have hw:(t-s)*twP 46031≤1:=by
    have q1:t-s≤(v-u)+(v'-u'):=by rcases Kx with e|e<;>rcases LU with e2|e2<;>rw[e,e2]<;>grind
    have q2:twP 46031+twP 46031≤twP (N+237):=by rw[←bP];exact aS (by omega)
    have q3:=Rat.mul_le_mul_of_nonneg_left q2 z1
    have q4:=Rat.mul_le_mul_of_nonneg_left q2 z2
    have q5:=Rat.mul_le_mul_of_nonneg_right q1 (Rat.le_of_lt (bw 46031))
    grind
   have HF:s≤t→cS g s-cS g t≤1∧(evalL g s=0→cS g s-cS g t≤0):=fun bz =>
    oF (a:=7) (N:=6) (r:=32) (m:=46031) (R:=twP 32) (by omega) he B.f0 B.zK (Rat.le_of_lt (bw 32)) Rat.le_refl (by omega) bs bt bz (Nat.le_trans (Nat.add_le_add_right (Nat.add_le_add_left (Nat.mul_le_mul_left (32+2) G.l) _) 3) Fb) hw
   have fin:∀(P:s≤t∧(evalL g s≠0→2≤cS g s-cS g t)∧(evalL g s=0→1≤cS g s-cS g t)),False:=fun ⟨p1,p2,p3⟩=>by
    obtain⟨q1,q2⟩:=HF p1
    by_cases h:evalL g s=0
    ·have:=p3 h;have:=q2 h;omega
    ·have:=p2 h;omega
   rcases Nh A1 B1 with h|h|h
   ·exact fin (ks A1 B1 B.zf B.f0 B.zK hz B1.own h (jD A1 PF) (lh B1 OV))
   ·exact Fx h
   ·exact fin (ks B1 A1 B.zf B.f0 B.zK B1.own hz h (jD B1 Me) (lh A1 Nu))
  ·
   obtain⟨x,x1,x2,x3,x4⟩:∃x,u≤x∧x≤v∧u'≤x∧x≤v':=by
    by_cases h:u≤u'
    ·exact⟨u',h,by grind,Rat.le_refl,l2⟩
    ·exact⟨u,Rat.le_refl,l1,by grind,by grind⟩
   have FM:(v-u)*twP N≤1:=by
    have:=Rat.mul_le_mul_of_nonneg_left (aS (show N≤N+237 by omega)) z1
    grind
   have Bi:=oH F G A1 hz bu bv hN FM x x1 x2
   have En:evalL g u'=0∨evalL g v'=0∨sg (evalL g u') = - sg (evalL g v'):=by
    by_cases he:u'=v'
    ·left
     rcases B1.DN with ⟨_,k⟩|⟨k,_⟩
     ·exact k
     ·grind
    ·have bH:u'<v':=by grind
     exact Or.inr (Or.inr (B1.xY (B1.low bH Rat.le_refl) (B1.high bH Rat.le_refl) (Or.inl Rat.le_refl) (Or.inl Rat.le_refl) bH))
   have zX:=iE RX RY En x3 x4
   have By:=pF (Rat.le_of_lt (bw 32)) Rat.le_refl g (qn G.f)
   have By:=Rat.le_trans By (aS (show 32*1+(32+2)*g.length≤236 by have:=G.l;omega))
   have h5:=Rat.le_trans zX (Rat.mul_le_mul_of_nonneg_right By z2)
   have h6:=Rat.mul_le_mul_of_nonneg_right h5 (Rat.le_of_lt (bw N))
   have e7:twP (N+237)=twP 236*twP N+twP 236*twP N:=by
    rw[←dS,←bP]
    congr 1;omega
   rw[e7] at m2
   grind
theorem kt:∀(l:List Int) (s:Int),varS (-s) (l.map (fun a => -a))=varS s l
 |[],s=>rfl
 |a::r,s=>by
  rw[List.map_cons,varS,varS]
  by_cases h:a=0
  ·rw[if_pos h,if_pos (by omega)]
   exact kt r s
  ·rw[if_neg h,if_neg (by omega),kt r a]
   by_cases h2:a = -s
   ·rw[if_pos h2,if_pos (by omega)]
   ·rw[if_neg h2,if_neg (by omega)]
theorem qX(x y:Rat):sg (x*y)=sg x*sg y:=by
 rcases bk x with ⟨a,b⟩|⟨a,b⟩|⟨a,b⟩<;>rcases bk y with ⟨c,d⟩|⟨c,d⟩|⟨c,d⟩<;>rw[b,d]
 ·have:=Rat.mul_pos (show 0 < -x by grind) (show 0 < -y by grind)
  rcases bk (x*y) with k|k|k<;>first|(rw [k.2];decide)|(exfalso;grind)
 ·rw[c,Rat.mul_zero];rfl
 ·have:=Rat.mul_pos (show 0 < -x by grind) c
  rcases bk (x*y) with k|k|k<;>first|(rw [k.2];decide)|(exfalso;grind)
 ·rw[a,Rat.zero_mul];rfl
 ·rw[a,Rat.zero_mul];rfl
 ·rw[a,Rat.zero_mul];rfl
 ·have:=Rat.mul_pos a (show 0 < -y by grind)
  rcases bk (x*y) with k|k|k<;>first|(rw [k.2];decide)|(exfalso;grind)
 ·rw[c,Rat.mul_zero];rfl
 ·have:=Rat.mul_pos a c
  rcases bk (x*y) with k|k|k<;>first|(rw [k.2];decide)|(exfalso;grind)
theorem lV{c:Rat}(hc:c≠0):∀(n:Nat) (p d:List Rat),aJ d=false→chainF n (bn c p) (bn c d)=(chainF n p d).map (bn c)
 |0,p,d,_=>rfl
 |n+1,p,d,hd=>by
  by_cases h:d=[]
  ·rw[h]
   show chainF (n+1) (bn c p) []=_
   rw[fc,fc];rfl
  ·have h2:bn c d≠[]:=fun e=>h (List.eq_nil_of_length_eq_zero (by have:=congrArg List.length e;rwa[jY] at this))
   rw[eb h2,eb h,List.map_cons,uV hd h hc hc]
   have e:aU (bn (-1) (bn c (a7 p d)))=bn c (aU (bn (-1) (a7 p d))):=by
    refine jQ (bj _) (gM (bj _) c hc) (fun i => ?_)
    rw[dV,ck,ck,ck,dV,ck]
    grind
   rw[e,lV hc n d _ (bj _)]
theorem jW(p:List Rat)(j:Nat):coef (ar p) j=((1+j:Nat):Int)*coef p (j+1):=by
 have AM:∀(q:List Rat) (i j:Nat),coef (ld i q) j=((i+j:Nat):Int)*coef q j:=by
  intro q
  induction q with
  |nil=>intro i j;show(0:Rat)=_*0;grind
  |cons a q ih =>
   intro i j
   cases j with
   |zero=>show((i:Int):Rat)*a=_;rfl
   |succ j=>exact(ih (i+1) j).trans (by rw[show i+1+j=i+(j+1) by omega];rfl)
 unfold ar
 rw[dV,AM]
 congr 1
 cases p with
 |nil=>rfl
 |cons a p=>rfl
theorem pM{c:Rat}(hc:c≠0)(p:List Rat):ar (bn c p)=bn c (ar p):=by
 refine jQ (bc _) (gM (bc _) c hc) (fun i => ?_)
 rw[jW,ck,ck,jW]
 grind
theorem xc{c:Rat}(hc:c≠0)(f:List Rat)(x:Rat):cS (bn c f) x=cS f x:=by
 unfold cS
 rw[jY,pM hc,lV hc _ _ _ (bc f)]
 unfold fR
 rw[List.map_map]
 rcases rC hc with k|k
 ·congr 1
  refine List.map_congr_left (fun g _ => ?_)
  show sg (evalL (bn c g) x)=_
  rw[bN,qX,k];omega
 ·have e:(chainF f.length f (ar f)).map ((fun g=>sg (evalL g x)) ∘ bn c)=((chainF f.length f (ar f)).map (fun g=>sg (evalL g x))).map (fun a => -a):=by
   rw[List.map_map]
   refine List.map_congr_left (fun g _ => ?_)
   show sg (evalL (bn c g) x) = - sg (evalL g x)
   rw[bN,qX,k];omega
  rw[e]
  exact kt _ 0
theorem ue{p:List Rat}(hz:aJ p=false)(h0:p≠[])(hc:qF p (ar p)):aM p=bn (1/cb p) p:=by
 have hg:=yV hz (bc p) hc
 unfold aM
 rw[hg]
 have hd:=qR (p:=p) (q:=[1]) (a:=p) (r:=[]) (by decide) (by simp) hz rfl (by simp) (fun x=>by
  rw[fL]
  show _+(0:Rat)=_
  grind)
 rw[hd]
 exact oD hz h0
theorem rp{p:List Rat}(hz:aJ p=false)(h0:p≠[])(hc:qF p (ar p)){lo hi:Rat}(hle:lo≤hi)(h:rm p lo hi=true):dH p lo hi:=by
 have hf:=ue hz h0 hc
 have ht:=eH hz h0
 have xu:(1:Rat)/cb p≠0:=fun e=>by
  have:=Rat.div_mul_cancel (a:=1) ht
  rw[e] at this
  grind
 have EB:∀x,fR (aG p) x=cS p x:=fun x=>by
  show cS (aM p) x=cS p x
  rw[hf];exact xc xu p x
 have mD:∀x,evalL (aM p) x=1/cb p*evalL p x:=fun x=>by rw[hf,bN]
 unfold rm at h
 refine⟨hz,h0,hc,?_⟩
 by_cases he:lo=hi
 ·rw[decide_eq_true he,cond_true,decide_eq_true_iff,mD] at h
  rcases Rat.mul_eq_zero.1 h with k|k
  ·exact absurd k xu
  ·exact Or.inl ⟨he,k⟩
 ·rw[decide_eq_false he,cond_false,Bool.and_eq_true,decide_eq_true_iff,decide_eq_true_iff,EB,EB] at h
  have nz:∀x,sg (evalL (aM p) x)≠0→evalL p x≠0:=fun x hx e=>hx (by rw[mD,e,Rat.mul_zero];rfl)
  refine Or.inr ⟨by grind,nz lo (fun e => ?_),nz hi (fun e => ?_),h.2⟩
  ·rw[e] at h;have:=h.1;omega
  ·rw[e] at h;have:=h.1;omega
namespace Ov
theorem wa{a c d x:Rat}(h1:c≤x)(h2:x≤d):eZ (a*c) (a*d)≤a*x:=by
 rcases Rat.le_total (a:=0) (b:=a) with h|h
 ·have:=Rat.mul_nonneg h (show 0≤x-c by grind)
  have:=jb (a*c) (a*d)
  grind
 ·have:=Rat.mul_nonneg (show 0 ≤ -a by grind) (show 0≤d-x by grind)
  have:=jc (a*c) (a*d)
  grind
theorem wb{a c d x:Rat}(h1:c≤x)(h2:x≤d):a*x≤fD (a*c) (a*d):=by
 rcases Rat.le_total (a:=0) (b:=a) with h|h
 ·have:=Rat.mul_nonneg h (show 0≤d-x by grind)
  have:=jA (a*c) (a*d)
  grind
 ·have:=Rat.mul_nonneg (show 0 ≤ -a by grind) (show 0≤x-c by grind)
  have:=ie (a*c) (a*d)
  grind
theorem HV{a b c d x y:Rat}(h1:a≤y)(h2:y≤b)(h3:c≤x)(h4:x≤d):fy a b c d≤y*x∧y*x≤fz a b c d:=by
 unfold fy fz
 have l1:=wa (a:=a) h3 h4
 have l2:=wa (a:=b) h3 h4
 have l3:=wa (a:=x) h1 h2
 have u1:=wb (a:=a) h3 h4
 have u2:=wb (a:=b) h3 h4
 have u3:=wb (a:=x) h1 h2
 constructor
 ·refine Rat.le_trans (A3 (a:=eZ (eZ (eZ (a*c) (a*d)) (b*c)) (b*d)) (p:=x*a) (q:=x*b) ?_ ?_) (by grind)
  ·exact Rat.le_trans (jb _ _) (Rat.le_trans (jb _ _) (by grind))
  ·refine Rat.le_trans (A3 (p:=b*c) (q:=b*d) ?_ (jc _ _)) (by grind)
   exact Rat.le_trans (jb _ _) (jc _ _)
 ·refine Rat.le_trans (show y*x≤fD (x*a) (x*b) by grind) (uL ?_ ?_)
  ·exact Rat.le_trans (show x*a≤fD (a*c) (a*d) by grind) (Rat.le_trans (ie _ _) (ie _ _))
  ·refine Rat.le_trans (show x*b≤fD (b*c) (b*d) by grind) (uL ?_ (jA _ _))
   exact Rat.le_trans (jA _ _) (ie _ _)
theorem val{c d x:Rat}(h1:c≤x)(h2:x≤d):∀q:List Rat,(aQ q c d).1≤evalL q x∧evalL q x≤(aQ q c d).2
 |[]=>⟨Rat.le_refl,Rat.le_refl⟩
 |a::r=>by
  obtain⟨g1,g2⟩:=val h1 h2 r
  obtain⟨m1,m2⟩:=HV g1 g2 h1 h2
  show fy _ _ _ _+a≤evalL r x*x+a∧evalL r x*x+a≤fz _ _ _ _+a
  constructor<;>grind
theorem min_mem(p q:Rat):eZ p q=p∨eZ p q=q:=by unfold eZ;split<;>simp
theorem max_mem(p q:Rat):fD p q=p∨fD p q=q:=by unfold fD;split<;>simp
theorem HW(a b c d:Rat):∃x y,(x=a∨x=b)∧(y=c∨y=d)∧fy a b c d=x*y:=by
 unfold fy
 rcases min_mem (eZ (eZ (a*c) (a*d)) (b*c)) (b*d) with h|h
 ·rw[h]
  rcases min_mem (eZ (a*c) (a*d)) (b*c) with h|h
  ·rw[h]
   rcases min_mem (a*c) (a*d) with h|h
   ·exact⟨a,c,Or.inl rfl,Or.inl rfl,h⟩
   ·exact⟨a,d,Or.inl rfl,Or.inr rfl,h⟩
  ·exact⟨b,c,Or.inr rfl,Or.inl rfl,h⟩
 ·exact⟨b,d,Or.inr rfl,Or.inr rfl,h⟩
theorem HX(a b c d:Rat):∃x y,(x=a∨x=b)∧(y=c∨y=d)∧fz a b c d=x*y:=by
 unfold fz
 rcases max_mem (fD (fD (a*c) (a*d)) (b*c)) (b*d) with h|h
 ·rw[h]
  rcases max_mem (fD (a*c) (a*d)) (b*c) with h|h
  ·rw[h]
   rcases max_mem (a*c) (a*d) with h|h
   ·exact⟨a,c,Or.inl rfl,Or.inl rfl,h⟩
   ·exact⟨a,d,Or.inl rfl,Or.inr rfl,h⟩
  ·exact⟨b,c,Or.inr rfl,Or.inl rfl,h⟩
 ·exact⟨b,d,Or.inr rfl,Or.inr rfl,h⟩
theorem uQ{a b x M:Rat}(h:x=a∨x=b)(ha:ab a≤M)(hb:ab b≤M):ab x≤M:=by rcases h with rfl|rfl<;>assumption
theorem AH{a b x y:Rat}(dK:a≤b)(h:x=a∨x=b)(k:y=a∨y=b):ab (x-y)≤b-a:=by
 rcases cf (x-y) with m|m<;>rcases h with rfl|rfl<;>rcases k with rfl|rfl<;>grind
theorem bound{R c d:Rat}(hc:ab c≤R)(hd:ab d≤R):∀q:List Rat,ab (aQ q c d).1≤nrm q R∧ab (aQ q c d).2≤nrm q R
 |[]=>⟨Rat.le_refl,Rat.le_refl⟩
 |a::r=>by
  obtain⟨g1,g2⟩:=bound hc hd r
  have hR:0≤R:=Rat.le_trans (bJ c) hc
  have key:∀x y,(x=(aQ r c d).1∨x=(aQ r c d).2)→(y=c∨y=d)→ab (x*y+a)≤nrm r R*R+ab a:=fun x y hx hy=>by
   have h1:=kD (x*y) a
   rw[fQ] at h1
   have h2:=cM (uQ hx g1 g2) (uQ hy hc hd) (bJ x) hR
   grind
  obtain⟨x,y,hx,hy,e⟩:=HW (aQ r c d).1 (aQ r c d).2 c d
  obtain⟨x',y',CR,IV,e'⟩:=HX (aQ r c d).1 (aQ r c d).2 c d
  have k1:=key x y hx hy
  have k2:=key x' y' CR IV
  rw[←e] at k1
  rw[←e'] at k2
  exact⟨k1,k2⟩
theorem width{R c d:Rat}(Tu:c≤d)(hc:ab c≤R)(hd:ab d≤R):∀q:List Rat,(aQ q c d).2-(aQ q c d).1≤lip q R*(d-c)
 |[]=>by show(0:Rat)-0≤0*_;grind
 |a::r=>by
  have ih:=width Tu hc hd r
  obtain⟨g1,g2⟩:=bound hc hd r
  have hR:0≤R:=Rat.le_trans (bJ c) hc
  have hle:=ow r c d
  obtain⟨x,y,hx,hy,e⟩:=HW (aQ r c d).1 (aQ r c d).2 c d
  obtain⟨x',y',CR,IV,e'⟩:=HX (aQ r c d).1 (aQ r c d).2 c d
  have h1:x'*y'-x*y=x'*(y'-y)+(x'-x)*y:=by grind
  have h2:=kD (x'*(y'-y)) ((x'-x)*y)
  rw[fQ,fQ] at h2
  have a1:=uQ CR g1 g2
  have a2:=AH Tu IV hy
  have a3:=AH hle CR hx
  have a4:=uQ hy hc hd
  have hw:0≤d-c:=by grind
  have m1:=cM a1 a2 (bJ x') hw
  have m2:=cM (Rat.le_trans a3 ih) a4 (bJ _) hR
  have h3:=ke (x'*y'-x*y)
  rw[h1] at h3
  show(fz (aQ r c d).1 (aQ r c d).2 c d+a)-(fy (aQ r c d).1 (aQ r c d).2 c d+a)≤(lip r R*R+nrm r R)*(d-c)
  rw[e,e']
  grind
theorem VZ{x0 u v:Rat}(h:u≤v):aQ [-x0,1] u v=(u-x0,v-x0):=by
 have e:aQ [-x0,1] u v=(fy (aQ [1] u v).1 (aQ [1] u v).2 u v + -x0,fz (aQ [1] u v).1 (aQ [1] u v).2 u v + -x0):=rfl
 rw[e,uY]
 have h1:fy 1 1 u v=u:=by
  unfold fy
  rw[Rat.one_mul,Rat.one_mul,pA h,tn,pA h]
 have h2:fz 1 1 u v=v:=by
  unfold fz
  rw[Rat.one_mul,Rat.one_mul,vE h]
  have hv:fD v u=v:=by
   rcases max_mem v u with k|k
   ·exact k
   ·have:=ie v u
    rw[k] at this ⊢
    grind
  rw[hv,tp]
 show(fy 1 1 u v + -x0,fz 1 1 u v + -x0)=_
 rw[h1,h2,Rat.sub_eq_add_neg,Rat.sub_eq_add_neg]
end Ov
def yb(p f:List Rat):Nat→Rat→Rat→Option Int
 |0,_,_=>none
 |n+1,lo,hi=>if 0<(aQ p lo hi).1 then some 1 else if (aQ p lo hi).2<0 then some (-1) else yb p f n (c9 f lo hi).1 (c9 f lo hi).2
theorem nv{f:List Rat}{lo hi:Rat}(A:dH f lo hi):aK f (c9 f lo hi).1 (c9 f lo hi).2=aK f lo hi:=funext (dD A).2.1
theorem ug{f p:List Rat}{lo hi:Rat}(A:dH f lo hi){s:Int}(hs:s=1∨s = -1){c:Rat}(hc:0<c)(h:∀x,lo≤x→x≤hi→sg (evalL p x)=s∧c≤ab (evalL p x)):xv f lo hi p s:=by
 by_cases he:lo=hi
 ·subst he
  obtain⟨h1,h2⟩:=h lo Rat.le_refl Rat.le_refl
  have dk:evalL p lo≠0:=fun e=>by rw[e,sr] at h2;grind
  obtain⟨δ,d0,hδ⟩:=oG dk
  refine Or.inr ⟨hs,lo-δ,lo+δ,?_,?_,hδ,?_⟩
  ·unfold aK;rw[if_pos rfl];exact fG (by grind)
  ·unfold aK;rw[if_pos rfl];exact gN (by grind)
  ·rw[qi (show lo-δ≤lo by grind) (hδ.sub Rat.le_refl (by grind)),h1]
 ·have bH:lo<hi:=by have:=A.le;grind
  exact Or.inr ⟨hs,lo,hi,A.low bH Rat.le_refl,A.high bH Rat.le_refl,⟨c,hc,fun x a b=>(h x a b).2⟩,(h lo Rat.le_refl A.le).1⟩
theorem sJ{f p:List Rat} : ∀(n:Nat) (lo hi:Rat) (s:Int),dH f lo hi→yb p f n lo hi=some s→xv f lo hi p s∧(s=1∨s = -1)
 |0,_,_,_,_,h=>by cases h
 |n+1,lo,hi,s,A,h=>by
  rw[yb] at h
  by_cases h1:0<(aQ p lo hi).1
  ·rw[if_pos h1] at h
   injection h with h
   subst h
   refine⟨ug A (Or.inl rfl) h1 (fun x a b => ?_),Or.inl rfl⟩
   obtain⟨o1,o2⟩:=Ov.val a b p
   have:=ke (evalL p x)
   refine⟨?_,by grind⟩
   rcases bk (evalL p x) with k|k|k<;>first|exact k.2|(exfalso;grind)
  ·rw[if_neg h1] at h
   by_cases h2:(aQ p lo hi).2<0
   ·rw[if_pos h2] at h
    injection h with h
    subst h
    refine⟨ug A (Or.inr rfl) (c := -(aQ p lo hi).2) (by grind) (fun x a b => ?_),Or.inr rfl⟩
    obtain⟨o1,o2⟩:=Ov.val a b p
    have:=dY (evalL p x)
    refine⟨?_,by grind⟩
    rcases bk (evalL p x) with k|k|k<;>first|exact k.2|(exfalso;grind)
   ·rw[if_neg h2] at h
    obtain⟨k1,k2⟩:=sJ n _ _ s (dD A).1 h
    refine⟨?_,k2⟩
    unfold xv at k1 ⊢
    rw[nv A] at k1
    exact k1
theorem sK{f p:List Rat} : ∀(n:Nat) (lo hi:Rat),dH f lo hi→yb p f (n+1) lo hi=none →
  ∃u v,dH f u v∧aK f u v=aK f lo hi∧lo≤u∧v≤hi∧(v-u)*twP n≤hi-lo∧(aQ p u v).1≤0∧0≤(aQ p u v).2
 |0,lo,hi,A,h=>by
  rw[yb] at h
  split at h
  ·cases h
  ·split at h
   ·cases h
   ·exact⟨lo,hi,A,rfl,Rat.le_refl,Rat.le_refl,by rw[hO];grind,by grind,by grind⟩
 |n+1,lo,hi,A,h=>by
  rw[yb] at h
  split at h
  ·cases h
  ·split at h
   ·cases h
   ·obtain⟨a1, -,a3,a4,a5⟩:=dD A
    obtain⟨u,v,k1,k2,k3,k4,k5,k6,k7⟩:=sK n _ _ a1 h
    exact⟨u,v,k1,by rw[k2,nv A],by grind,by grind,by rw[bP];grind,k6,k7⟩
def LB(f:List Rat)(lo hi:Rat)(p:List Rat)(N:Nat):Prop:=∀u v,dH f u v→aK f u v=aK f lo hi→lo≤u→v≤hi→(v-u)*twP N≤1→∀x,u≤x→x≤v→1≤ab (evalL p x)*twP N
theorem xr{w:Rat}{m n:Nat}(h0:0≤w)(Nx:m≤n)(h:w*twP n≤1):w*twP m≤1:=by
 have:=Rat.mul_le_mul_of_nonneg_left (aS Nx) h0
 grind
theorem LB.sm{f p:List Rat}{lo hi:Rat}(F:Sm f)(P:Sm p)(hn:¬Zr f lo hi p)(h1:ab lo≤twP 32)(h2:ab hi≤twP 32){N:Nat}(hN:1952809344+18373318+437644+2≤N):LB f lo hi p N:=fun u v A e hu hv hw x x1 x2=>by
 have hle:=A.le
 refine oH F P A ?_ (a8 hu (by grind) h1 h2) (a8 (by grind) hv h1 h2) hN hw x x1 x2
 unfold Zr at hn ⊢
 rw[e]
 exact hn
theorem dH.PJ{f:List Rat}{u v:Rat}(A:dH f u v):evalL f u=0∨evalL f v=0∨sg (evalL f u) = - sg (evalL f v):=by
 by_cases he:u=v
 ·left
  rcases A.DN with ⟨_,k⟩|⟨k,_⟩
  ·exact k
  ·grind
 ·have bH:u<v:=by have:=A.le;grind
  exact Or.inr (Or.inr (A.xY (A.low bH Rat.le_refl) (A.high bH Rat.le_refl) (Or.inl Rat.le_refl) (Or.inl Rat.le_refl) bH))
theorem HY{f p:List Rat}{lo hi:Rat}{N L:Nat}(A:dH f lo hi)(h:LB f lo hi p N)(h1:ab lo≤twP 32)(h2:ab hi≤twP 32)(hl:lip p (twP 32)≤twP L):∃s,yb p f (N+L+1+33+1) lo hi=some s:=by
 cases hr:yb p f (N+L+1+33+1) lo hi with
 |some s=>exact⟨s,rfl⟩
 |none =>
  exfalso
  obtain⟨u,v,k1,k2,k3,k4,k5,k6,k7⟩:=sK (N+L+1+33) lo hi A hr
  have hle:=k1.le
  have w0:0≤v-u:=by grind
  have bu:=a8 k3 (show u≤hi by grind) h1 h2
  have bv:=a8 (show lo≤v by grind) k4 h1 h2
  have w1:hi-lo≤twP 33:=by
   have CA:twP 32+twP 32=twP 33:=(bP 32).symm
   have:=ke hi;have:=dY lo;grind
  have m1:=kG w0 w1 k5
  have hb:=h u v k1 k2 k3 k4 (xr w0 (by omega) m1) u Rat.le_refl hle
  obtain⟨o1,o2⟩:=Ov.val (Rat.le_refl:u≤u) hle p
  have hw:=Rat.le_trans (Ov.width hle bu bv p) (Rat.mul_le_mul_of_nonneg_right hl w0)
  have ha:ab (evalL p u)≤(aQ p u v).2-(aQ p u v).1:=by rcases cf (evalL p u) with k|k<;>grind
  have pN:=bw N
  have q1:=Rat.mul_le_mul_of_nonneg_right (Rat.le_trans ha hw) (Rat.le_of_lt pN)
  rw[bP,dS] at m1
  grind
theorem Ko{f:List Rat}{lo hi x0:Rat}(F:Sm f)(A:dH f lo hi)(hx:aK f lo hi x0≠0){k:Nat}(hk:1≤k)(Sg:ht x0≤k)(h1:ab lo≤twP 32)(h2:ab hi≤twP 32){N:Nat}(hN:32*(6*(2*k+1)+1)+237≤N):∃s,yb [-x0,1] f (N+33+1) lo hi=some s:=by
 cases hr:yb [-x0,1] f (N+33+1) lo hi with
 |some s=>exact⟨s,rfl⟩
 |none =>
  exfalso
  obtain⟨u,v,k1,k2,k3,k4,k5,k6,k7⟩:=sK (N+33) lo hi A hr
  have hle:=k1.le
  have w0:0≤v-u:=by grind
  have bu:=a8 k3 (show u≤hi by grind) h1 h2
  have bv:=a8 (show lo≤v by grind) k4 h1 h2
  have w1:hi-lo≤twP 33:=by
   have CA:twP 32+twP 32=twP 33:=(bP 32).symm
   have:=ke hi;have:=dY lo;grind
  have m1:=kG w0 w1 k5
  rw[Ov.VZ hle] at k6 k7
  have x1:u≤x0:=by have:u-x0≤0:=k6;grind
  have x2:x0≤v:=by have:0≤v-x0:=k7;grind
  have dk:evalL f x0≠0:=fun e=>by
   by_cases rk:u=v
   ·exact hx (by rw[←k2];unfold aK;rw[if_pos rk];exact dm.2 (by grind))
   ·have bH:u<v:=by grind
    have en:=k1.ends bH
    have a1:u<x0:=by
     by_cases q:u=x0
     ·exact absurd (by rw[q];exact e) en.1
     ·grind
    have a2:x0<v:=by
     by_cases q:x0=v
     ·exact absurd (by rw[←q];exact e) en.2.1
     ·grind
    rcases k1.gJ bH a1 a2 with m|m|m
    ·exact m.2.1 e
    ·exact hx (by rw[←k2];exact m.1)
    ·exact m.2.1 e
  have hh:=fN f x0 k (cL F.f hk) Sg
  have hm:f.length*(2*k+1)≤6*(2*k+1):=Nat.mul_le_mul_right _ F.l
  have Bi:=RR dk
  have XY:=Rat.mul_le_mul_of_nonneg_left (aS (show 32*ht (evalL f x0)≤32*(6*(2*k+1)+1) by omega)) (bJ (evalL f x0))
  have zX:=iE bu bv k1.PJ x1 x2
  have By:=pF (Rat.le_of_lt (bw 32)) Rat.le_refl f (qn F.f)
  have By:=Rat.le_trans By (aS (show 32*1+(32+2)*f.length≤236 by have:=F.l;omega))
  have h5:=Rat.le_trans zX (Rat.mul_le_mul_of_nonneg_right By w0)
  have m2:=xr w0 hN m1
  generalize 32*(6*(2*k+1)+1)=H at *
  have h6:=Rat.mul_le_mul_of_nonneg_right h5 (Rat.le_of_lt (bw H))
  have e7:twP (H+237)=twP 236*twP H+twP 236*twP H:=by
   rw[←dS,←bP]
   congr 1;omega
  rw[e7] at m2
  grind
theorem Kp{f:List Rat}{lo hi x0:Rat}(A:dH f lo hi){s:Int}(h:xv f lo hi [-x0,1] s):s=aK f lo hi x0:=by
 have ev:∀x,evalL [-x0,1] x=x-x0:=fun x=>by show(0*x+1)*x + -x0=_;grind
 refine h.uniq A ?_
 rcases A.three x0 with k|k|k
 ·obtain⟨y,y1,y2⟩:=A.zc k
  obtain⟨n1,n2⟩:=A.Wy
  have hl:=A.qo y2 n2
  refine Or.inr ⟨Or.inl k,y,hi+1,y2,n2,⟨y-x0,by grind,fun x a b => ?_⟩,?_⟩
  ·rw[ev];have:=ke (x-x0);grind
  ·rw[ev,k];rcases bk (y-x0) with q|q|q<;>first|exact q.2|(exfalso;grind)
 ·refine Or.inl ⟨k,?_⟩
  have:Zr f lo hi [-x0,1]:=(A.ma k).2 (by rw[ev];grind)
  exact this
 ·obtain⟨y,y1,y2⟩:=A.Kj k
  obtain⟨n1,n2⟩:=A.Wy
  have hl:=A.qo n1 y2
  refine Or.inr ⟨Or.inr k,lo-1,y,n1,y2,⟨x0-y,by grind,fun x a b => ?_⟩,?_⟩
  ·rw[ev];have:=dY (x-x0);grind
  ·rw[ev,k];rcases bk (lo-1-x0) with q|q|q<;>first|exact q.2|(exfalso;grind)
theorem dH.meet{f:List Rat}{lo hi u v u' v':Rat}(A:dH f lo hi)(h1:aK f lo hi u=1)(h2:aK f lo hi v = -1)(k1:aK f lo hi u'=1)(k2:aK f lo hi v' = -1):∃a b,aK f lo hi a=1∧aK f lo hi b = -1∧u≤a∧u'≤a∧b≤v∧b≤v':=by
 obtain⟨a,a1,a2,a3⟩:∃a,aK f lo hi a=1∧u≤a∧u'≤a:=by
  by_cases h:u≤u'
  ·exact⟨u',k1,h,Rat.le_refl⟩
  ·exact⟨u,h1,Rat.le_refl,by grind⟩
 obtain⟨b,b1,b2,b3⟩:∃b,aK f lo hi b = -1∧b≤v∧b≤v':=by
  by_cases h:v≤v'
  ·exact⟨v,h2,Rat.le_refl,h⟩
  ·exact⟨v',k2,by grind,Rat.le_refl⟩
 exact⟨a,b,a1,b1,a2,a3,b2,b3⟩
structure Wd (p:List Rat):Prop where
 z:aJ p=false
 l:p.length≤9
 ch:Ch 2000 p
theorem Sm.wd{p:List Rat}(h:Sm p):Wd p:=⟨h.z,by have:=h.l;omega,h.ch.mono (by omega)⟩
theorem Wd.VZ{x0:Rat}(h:ht x0≤900):Wd [-x0,1]:=by
 have hf:Fl 900 [-x0,1]:=fun x hx=>by
  simp at hx
  rcases hx with rfl|rfl
  ·rw[qB];exact h
  ·decide
 exact⟨decide_eq_false (show ¬(1:Rat)=0 by decide),by simp,(Ch.uH hf).mono (by simp)⟩
theorem Wd.fl{p:List Rat}(h:Wd p):Fl 2000 p:=h.ch.fl (by omega)
theorem DD:∀l,l<7→sB (xB 7 2080 (6-l)) l≤1073741824:=by decide +kernel
theorem uZ{p q:List Rat}(P:Wd p)(Q:Sm q)(q0:q≠[]):cH (xB 7 2080 (6-(bF p q).length)) (bF p q).length (bF p q):=by
 have zp:=P.z
 have zq:=Q.z
 have hp:=P.ch
 have hq:=Q.ch
 have lp:=P.l
 have lq:=Q.l
 have D2:=List.length_pos_iff.2 q0
 have zg:=gD p q
 have zF:=kO (q.length+1) p q zp zq
 have g0:bF p q≠[]:=nh zF (tI _ _ _ (Or.inr ⟨q0,by omega⟩))
 have hl:(bF p q).length≤6:=by have:=((gR p q zp zq).2.len zg zq q0).2;omega
 have EA:(bF p q).length=(fa (q.length+1) p q).length:=aY zF
 have hr:Ch 2080 (a7 p q):=(hp.rest hq zq q0).mono (by
  have:(p.length+1-q.length)*(7+1)≤9*(7+1):=Nat.mul_le_mul_right _ (by omega)
  omega)
 have uW:(a7 p q).length<q.length:=(eE p zq q0).1
 have hE:su 7 2080 6 0 1 q (cr (a7 p q)):=⟨hq,hr.dx (by omega) (b8 p q),by omega,by rw[aY (b8 p q)];exact uW,by omega,zq,bO _⟩
 have e1:fa (q.length+1) p q=fa q.length q (cr (a7 p q)):=by
  rw[fa,eL.2 (by omega),cond_false]
 have hc:=mz (a:=7) (b:=2080) (N:=6) (by omega) (by omega) q.length 0 1 q (cr (a7 p q)) hE
 rw[←e1,←EA] at hc
 have h1:1≤xB 7 2080 (6-(bF p q).length):=sw (by omega) (by omega) _
 exact⟨zg,g0,Nat.le_refl _,hc.dx h1 zF,h1,by omega,DD _ (by omega)⟩
theorem V2:4*xB 7 2080 (9+2)+10≤68719476736:=by decide
theorem val_mod{D:Int}(x:Rat):∀(p:List Rat),p≠[]→(∀i,∃n:Int,coef p i*(D:Rat)=(n:Rat))→∃m t:Int,cb p*(D:Rat)=(t:Rat)∧evalL p x*(D:Rat)*((((x.den:Int)^(p.length-1):Int)):Rat)=((t*x.num^(p.length-1)+m*(x.den:Int):Int):Rat)
 |[],h,_=>absurd rfl h
 |[c],_,h=>by
  obtain⟨n,hn⟩:=h 0
  have hn:c*(D:Rat)=(n:Rat):=hn
  refine⟨0,n,hn,?_⟩
  rw[fL]
  show c*(D:Rat)*(((x.den:Int)^0:Int):Rat)=((n*x.num^0+0*(x.den:Int):Int):Rat)
  rw[Int.pow_zero,Int.pow_zero,Int.mul_one,Int.zero_mul,Int.add_zero,hn]
  show(n:Rat)*1=_
  rw[Rat.mul_one]
 |c::b::r,_,h=>by
  obtain⟨m,t,h1,h2⟩:=val_mod x (b::r) (by simp) (fun i=>h (i+1))
  obtain⟨n,hn⟩:=h 0
  have hn:c*(D:Rat)=(n:Rat):=hn
  refine⟨m*x.num+n*(x.den:Int)^(b::r).length.pred,t,h1,?_⟩
  have e1:(c::b::r).length-1=(b::r).length.pred+1:=by simp
  have e2:(b::r).length-1=(b::r).length.pred:=rfl
  rw[e2] at h2
  rw[e1]
  generalize (b::r).length.pred=k at *
  have hx:=LN x
  have ev:evalL (c::b::r) x=evalL (b::r) x*x+c:=rfl
  rw[ev,Int.pow_succ,Int.pow_succ]
  have e3:(((x.den:Int)^k*(x.den:Int):Int):Rat)=(((x.den:Int)^k:Int):Rat)*((x.den:Int):Rat):=Rat.intCast_mul _ _
  rw[e3]
  have e4:((t*(x.num^k*x.num)+(m*x.num+n*(x.den:Int)^k)*(x.den:Int):Int):Rat)=((t*x.num^k+m*(x.den:Int):Int):Rat)*(x.num:Rat)+(n:Rat)*(((x.den:Int)^k:Int):Rat)*((x.den:Int):Rat):=by
   rw[←Rat.intCast_mul,←Rat.intCast_mul,←Rat.intCast_mul,←Rat.intCast_add]
   congr 1
   grind
  rw[e4,←h2,←hx,←hn]
  grind
theorem OW{f:List Rat}(F:Sm f)(f0:f≠[]){x:Rat}(h:evalL f x=0)(hb:ab x≤twP 32):ht x≤8:=by
 obtain⟨D,d1,d2,d3⟩:=F.ch
 obtain⟨m,t,h1,h2⟩:=val_mod x f f0 (fun i=>by obtain⟨n,a,_⟩:=d3 i;exact⟨n,a⟩)
 have Sg:t≠0:=fun e=>by
  rw[e] at h1
  rcases Rat.mul_eq_zero.1 h1 with k|k
  ·exact eH F.z f0 k
  ·exact y0 d1 k
 have hw:wl t≤7:=by
  obtain⟨n,a,b⟩:=d3 (f.length-1)
  have e:cb f*(D:Rat)=(n:Rat):=a
  have:t=n:=Rat.intCast_inj.1 (by rw[←h1,e])
  rw[this];exact b
 rw[h,Rat.zero_mul,Rat.zero_mul] at h2
 have h3:t*x.num^(f.length-1)+m*(x.den:Int)=0:=(Rat.intCast_inj.1 h2).symm
 have hd:x.den∣t.natAbs*x.num.natAbs^(f.length-1):=by
  have:(x.den:Int)∣t*x.num^(f.length-1):=⟨-m,by grind⟩
  have:=Int.natAbs_dvd_natAbs.2 this
  rwa[Int.natAbs_natCast,Int.natAbs_mul,Int.natAbs_pow] at this
 have hc:Nat.Coprime x.den (x.num.natAbs^(f.length-1)):=Nat.Coprime.pow_right _ x.reduced.symm
 have UA:x.den∣t.natAbs:=hc.dvd_of_dvd_mul_right hd
 have hle:x.den≤t.natAbs:=Nat.le_of_dvd (by omega) UA
 have bH:=Hl t
 have hp:4294967296^wl t≤4294967296^7:=Nat.pow_le_pow_right (by omega) hw
 have Tr:x.den<4294967296^7:=by omega
 have XZ:x.num.natAbs<4294967296^8:=by
  have e1:=LN x
  have e2:ab (x.num:Rat)=ab x*ab ((x.den:Int):Rat):=by rw[←e1,fQ]
  rw[Ev,Ev] at e2
  have e3:=Rat.mul_le_mul_of_nonneg_right hb (show (0:Rat)≤((((x.den:Int).natAbs:Nat):Int):Rat) by
   have:(0:Int)≤(((x.den:Int).natAbs:Nat):Int):=by omega
   exact Rat.intCast_le_intCast.2 this)
  rw[←e2] at e3
  unfold twP at e3
  rw[←Rat.intCast_mul] at e3
  have e4:=Rat.intCast_le_intCast.1 e3
  have e5:4294967296^8=4294967296^7*4294967296:=Nat.pow_succ ..
  have e6:2^32=4294967296:=by decide
  rw[Int.natAbs_natCast,e6] at e4
  generalize 4294967296^7=B at *
  omega
 have w1:wl x.num≤8:=oZ XZ
 have w2:wl (x.den:Int)≤7:=oZ (by rw[Int.natAbs_natCast];exact Tr)
 unfold ht
 omega
theorem R1{f g:List Rat}(hd:Dv g f)(hc:qF f (ar f)):qF g (ar g):=by
 obtain⟨c,CC⟩:=hd
 obtain⟨a,b,dK⟩:=hc
 refine⟨ft (mulL a c) (mulL b (ar c)),mulL b c,fun x=>?_⟩
 have h1:=dK x
 have h3:=CC x
 have h4:dEv f x=dEv c x*evalL g x+evalL c x*dEv g x:=by
  rw[oE (q:=mulL c g) (fun x=>by rw[aO];exact CC x) x,sq]
 rw[dW,h4] at h1
 simp only[cu,aO,dW]
 rw[h3] at h1
 grind
theorem Yx{p:List Rat}(hz:aJ p=false)(h0:p≠[])(hc:qF p (ar p))(x:Rat):fR (aG p) x=cS p x:=by
 have hf:=ue hz h0 hc
 have ht:=eH hz h0
 have xu:(1:Rat)/cb p≠0:=fun e=>by
  have:=Rat.div_mul_cancel (a:=1) ht
  rw[e] at this
  grind
 show cS (aM p) x=cS p x
 rw[hf];exact xc xu p x
theorem TH{f g:List Rat}(F:Sm f)(G:Sm g){u v u' v':Rat}(A1:dH f u v)(B1:dH g u' v')(bu:ab u≤twP 32)(bv:ab v≤twP 32)(RX:ab u'≤twP 32)(RY:ab v'≤twP 32){N:Nat}(hN:1952809344+18373318+437644+2≤N)
  (m1:(v-u)*twP (N+237)≤1) (m2:(v'-u')*twP (N+237)≤1) (o1:u'≤v) (o2:u≤v'):xw f u v g u' v':=by
 refine Classical.byContradiction fun Fx=>?_
 have l1:=A1.le
 have l2:=B1.le
 have z1:0≤v-u:=by grind
 have z2:0≤v'-u':=by grind
 by_cases hz:Zr f u v g
 ·
  have fi:=mB G B1.f0
  have he:=fi.Tt
  obtain⟨s,PF,Me,Kx⟩:∃s,s≤u∧s≤u'∧(s=u∨s=u'):=by
   by_cases h:u≤u'
   ·exact⟨u,Rat.le_refl,h,Or.inl rfl⟩
   ·exact⟨u',by grind,Rat.le_refl,Or.inr rfl⟩
  obtain⟨t,Nu,OV,LU⟩:∃t,v≤t∧v'≤t∧(t=v∨t=v'):=by
   by_cases h:v≤v'
   ·exact⟨v',h,Rat.le_refl,Or.inr rfl⟩
   ·exact⟨v,Rat.le_refl,by grind,Or.inl rfl⟩
  have bs:ab s≤twP 32:=by rcases Kx with e|e<;>rw[e]<;>assumption
  have bt:ab t≤twP 32:=by rcases LU with e|e<;>rw[e]<;>assumption
  have hw:(t-s)*twP 46031≤1:=by
   have q1:t-s≤(v-u)+(v'-u'):=by rcases Kx with e|e<;>rcases LU with e2|e2<;>rw[e,e2]<;>grind
   have q2:twP 46031+twP 46031≤twP (N+237):=by rw[←bP];exact aS (by omega)
   have q3:=Rat.mul_le_mul_of_nonneg_left q2 z1
   have q4:=Rat.mul_le_mul_of_nonneg_left q2 z2
   have q5:=Rat.mul_le_mul_of_nonneg_right q1 (Rat.le_of_lt (bw 46031))
   grind
  have HF:s≤t→cS g s-cS g t≤1∧(evalL g s=0→cS g s-cS g t≤0):=fun bz =>
   oF (a:=7) (N:=6) (r:=32) (m:=46031) (R:=twP 32) (by omega) he B1.f0 B1.zK (Rat.le_of_lt (bw 32)) Rat.le_refl (by omega) bs bt bz (Nat.le_trans (Nat.add_le_add_right (Nat.add_le_add_left (Nat.mul_le_mul_left (32+2) G.l) _) 3) Fb) hw
  have fin:∀(P:s≤t∧(evalL g s≠0→2≤cS g s-cS g t)∧(evalL g s=0→1≤cS g s-cS g t)),False:=fun ⟨p1,p2,p3⟩=>by
   obtain⟨q1,q2⟩:=HF p1
   by_cases h:evalL g s=0
   ·have:=p3 h;have:=q2 h;omega
   ·have:=p2 h;omega
  rcases Nh A1 B1 with h|h|h
  ·exact fin (ks A1 B1 B1.zf B1.f0 B1.zK hz B1.own h (jD A1 PF) (lh B1 OV))
  ·exact Fx h
  ·exact fin (ks B1 A1 B1.zf B1.f0 B1.zK B1.own hz h (jD B1 Me) (lh A1 Nu))
 ·
  obtain⟨x,x1,x2,x3,x4⟩:∃x,u≤x∧x≤v∧u'≤x∧x≤v':=by
   by_cases h:u≤u'
   ·exact⟨u',h,o1,Rat.le_refl,l2⟩
   ·exact⟨u,Rat.le_refl,l1,by grind,o2⟩
  have Bi:=oH F G A1 hz bu bv hN (xr z1 (by omega) m1) x x1 x2
  have zX:=iE RX RY B1.PJ x3 x4
  have By:=pF (Rat.le_of_lt (bw 32)) Rat.le_refl g (qn G.f)
  have By:=Rat.le_trans By (aS (show 32*1+(32+2)*g.length≤236 by have:=G.l;omega))
  have h5:=Rat.le_trans zX (Rat.mul_le_mul_of_nonneg_right By z2)
  have h6:=Rat.mul_le_mul_of_nonneg_right h5 (Rat.le_of_lt (bw N))
  have e7:twP (N+237)=twP 236*twP N+twP 236*twP N:=by
   rw[←dS,←bP]
   congr 1;omega
  rw[e7] at m2
  grind
def LY(f k g:List Rat)(lo hi lo' hi':Rat):Bool:=
 Dx g f lo hi&&(Dx g k lo' hi'&&(decide (fR (aG g) (eZ lo lo')-fR (aG g) (fD hi hi')=1)&&decide (evalL g (eZ lo lo')≠0)))
def Bz(f k g:List Rat):Nat→Rat→Rat→Rat→Rat→Option Int
 |0,_,_,_,_=>none
 |n+1,lo,hi,lo',hi' =>
  if hi<lo' then some (-1) else if hi'<lo then some 1 else if lo'=hi' then some (aK f lo hi lo') else if lo=hi then some (-(aK k lo' hi' lo)) else
  if LY f k g lo hi lo' hi'=true then some 0 else Bz f k g n (c9 f lo hi).1 (c9 f lo hi).2 (c9 k lo' hi').1 (c9 k lo' hi').2
theorem dH.V3{f:List Rat}{lo hi x0:Rat}(A:dH f lo hi)(h:aK f lo hi x0=0)(x:Rat):aK f lo hi x=dz x0 x:=by
 rcases cX x0 x with k|k|k
 ·rw[k.2];exact A.mono k.1 (by omega)
 ·rw[k.2,←k.1];exact h
 ·rw[k.2];exact A.kx k.1 (by omega)
def Cm(s:Int)(f:List Rat)(lo hi:Rat)(k:List Rat)(lo' hi':Rat):Prop:=(s=0∧xw f lo hi k lo' hi')∨(s = -1∧xZ f lo hi k lo' hi')∨(s=1∧xZ k lo' hi' f lo hi)
theorem Cm.uniq{s t:Int}{f k:List Rat}{lo hi lo' hi':Rat}(A:dH f lo hi)(B:dH k lo' hi')(h:Cm s f lo hi k lo' hi')(m:Cm t f lo hi k lo' hi'):s=t:=by
 have sy:xw f lo hi k lo' hi'→xw k lo' hi' f lo hi:=fun e x=>(e x).symm
 rcases h with ⟨a,b⟩|⟨a,b⟩|⟨a,b⟩<;>rcases m with ⟨c,d⟩|⟨c,d⟩|⟨c,d⟩
 ·omega
 ·exact absurd b (w8 A B d)
 ·exact absurd (sy b) (w8 B A d)
 ·exact absurd d (w8 A B b)
 ·omega
 ·exact absurd d (x5 A B b)
 ·exact absurd (sy d) (w8 B A b)
 ·exact absurd d (x5 B A b)
 ·omega
theorem LZ{f k:List Rat}{lo hi lo' hi':Rat}(A:dH f lo hi)(B:dH k lo' hi')(he:lo'=hi'):Cm (aK f lo hi lo') f lo hi k lo' hi':=by
 have e:∀x,aK k lo' hi' x=dz lo' x:=fun x=>by unfold aK;rw[if_pos he]
 have e0:aK k lo' hi' lo'=0:=by rw[e,ix]
 rcases A.three lo' with h|h|h
 ·exact Or.inr (Or.inr ⟨h,Ex B A (x:=lo') (by omega)⟩)
 ·exact Or.inl ⟨h,fun x=>by rw[e,A.V3 h]⟩
 ·exact Or.inr (Or.inl ⟨h,Ex A B (x:=lo') (by omega)⟩)
theorem Cm.swap{s:Int}{f k:List Rat}{lo hi lo' hi':Rat}(h:Cm s f lo hi k lo' hi'):Cm (-s) k lo' hi' f lo hi:=by
 rcases h with ⟨a,b⟩|⟨a,b⟩|⟨a,b⟩
 ·exact Or.inl ⟨by omega,fun x=>(b x).symm⟩
 ·exact Or.inr (Or.inr ⟨by omega,b⟩)
 ·exact Or.inr (Or.inl ⟨by omega,b⟩)
theorem TI{f k g:List Rat}{lo hi lo' hi':Rat}(A:dH f lo hi)(B:dH k lo' hi')(zg:aJ g=false)(g0:g≠[])(cg:qF g (ar g))(h:LY f k g lo hi lo' hi'=true):xw f lo hi k lo' hi':=by
 unfold LY at h
 rw[Bool.and_eq_true,Bool.and_eq_true,Bool.and_eq_true,uc A zg,uc B zg,decide_eq_true_iff,decide_eq_true_iff,Yx zg g0 cg,Yx zg g0 cg] at h
 obtain⟨h1,h2,h3,h4⟩:=h
 rcases Nh A B with m|m|m
 ·have:=(ks A B zg g0 cg h1 h2 m (jD A (jb lo lo')) (lh B (jA hi hi'))).2.1 h4
  omega
 ·exact m
 ·have:=(ks B A zg g0 cg h2 h1 m (jD B (jc lo lo')) (lh A (ie hi hi'))).2.1 h4
  omega
theorem HZ{f k g:List Rat}(zg:aJ g=false)(g0:g≠[])(cg:qF g (ar g)):∀(n:Nat) (lo hi lo' hi':Rat) (s:Int),dH f lo hi→dH k lo' hi'→Bz f k g n lo hi lo' hi'=some s→Cm s f lo hi k lo' hi'
 |0,_,_,_,_,_,_,_,h=>by cases h
 |n+1,lo,hi,lo',hi',s,A,B,h=>by
  rw[Bz] at h
  split at h
  ·rename_i h1
   injection h with h
   subst h
   refine Or.inr (Or.inl ⟨rfl,Ex A B (x:=hi) ?_⟩)
   have:=A.nF
   have:=B.kx h1 B.lR
   omega
  ·split at h
   ·rename_i h1
    injection h with h
    subst h
    refine Or.inr (Or.inr ⟨rfl,Ex B A (x:=hi') ?_⟩)
    have:=B.nF
    have:=A.kx h1 A.lR
    omega
   ·split at h
    ·rename_i he
     injection h with h
     subst h
     exact LZ A B he
    ·split at h
     ·rename_i he
      injection h with h
      subst h
      exact(LZ B A he).swap
     ·split at h
      ·rename_i he
       injection h with h
       subst h
       exact Or.inl ⟨rfl,TI A B zg g0 cg he⟩
      ·have ih:=HZ zg g0 cg n _ _ _ _ s (dD A).1 (dD B).1 h
       unfold Cm xw xZ at ih ⊢
       rw[nv A,nv B] at ih
       exact ih
theorem H0{f k g:List Rat} : ∀(n:Nat) (lo hi lo' hi':Rat),dH f lo hi→dH k lo' hi'→Bz f k g (n+1) lo hi lo' hi'=none →
  ∃u v u' v',dH f u v∧dH k u' v'∧lo≤u∧v≤hi∧lo'≤u'∧v'≤hi'∧(v-u)*twP n≤hi-lo∧(v'-u')*twP n≤hi'-lo'∧u'≤v∧u≤v'∧u≠v∧u'≠v'∧¬LY f k g u v u' v'=true
 |0,lo,hi,lo',hi',A,B,h=>by
  rw[Bz] at h
  split at h
  ·cases h
  ·split at h
   ·cases h
   ·split at h
    ·cases h
    ·split at h
     ·cases h
     ·split at h
      ·cases h
      ·exact⟨lo,hi,lo',hi',A,B,Rat.le_refl,Rat.le_refl,Rat.le_refl,Rat.le_refl,by rw[hO];grind,by rw[hO];grind,by grind,by grind,by assumption,by assumption,by assumption⟩
 |n+1,lo,hi,lo',hi',A,B,h=>by
  rw[Bz] at h
  split at h
  ·cases h
  ·split at h
   ·cases h
   ·split at h
    ·cases h
    ·split at h
     ·cases h
     ·split at h
      ·cases h
      ·obtain⟨a1,a2,a3,a4,a5⟩:=dD A
       obtain⟨b1,b2,b3,b4,b5⟩:=dD B
       obtain⟨u,v,u',v',k1,k2,k5,k6,k7,k8,k9,Ns,Nt⟩:=H0 n _ _ _ _ a1 b1 h
       refine⟨u,v,u',v',k1,k2,by grind,by grind,by grind,by grind,?_,?_,Nt⟩
       ·rw[bP];grind
       ·rw[bP];grind
theorem V4:∀l,l<7→1≤l→(32*(4*xB (xB 7 63 (6-l)) (xB 7 63 (6-l)+1) (l-1))+32*(xB 7 63 (6-l)+1)+(32+2)*l+3≤400000∧(32+1)*(l+2)+1≤64*xB 7 63 (6-l)):=by decide +kernel
theorem NL{f k:List Rat}(F:Sm f)(G:Sm k){lo hi lo' hi':Rat}(A:dH f lo hi)(B:dH k lo' hi')(h1:ab lo≤twP 32)(h2:ab hi≤twP 32)(h3:ab lo'≤twP 32)(h4:ab hi'≤twP 32){N:Nat}(hN:1952809344+18373318+437644+2≤N) :
  ∃s,Bz f k (bF f k) (N+237+33+1) lo hi lo' hi'=some s:=by
 cases hr:Bz f k (bF f k) (N+237+33+1) lo hi lo' hi' with
 |some s=>exact⟨s,rfl⟩
 |none =>
  exfalso
  obtain⟨u,v,u',v',A1,B1,k5,k6,k7,k8,k9,Ns,Nt,PH,n1,n2,XN⟩:=H0 (N+237+33) lo hi lo' hi' A B hr
  have CA:twP 32+twP 32=twP 33:=(bP 32).symm
  have w1:hi-lo≤twP 33:=by have:=ke hi;have:=dY lo;grind
  have w2:hi'-lo'≤twP 33:=by have:=ke hi';have:=dY lo';grind
  have l1:u<v:=by have:=A1.le;grind
  have l2:u'<v':=by have:=B1.le;grind
  have z1:0≤v-u:=by grind
  have z2:0≤v'-u':=by grind
  have m1:=kG z1 w1 k9
  have m2:=kG z2 w2 Ns
  have bu:=a8 k5 (show u≤hi by grind) h1 h2
  have bv:=a8 (show lo≤v by grind) k6 h1 h2
  have RX:=a8 k7 (show u'≤hi' by grind) h3 h4
  have RY:=a8 (show lo'≤v' by grind) k8 h3 h4
  have he:=TH F G A1 B1 bu bv RX RY hN m1 m2 Nt PH
  obtain⟨d1,d2⟩:=gR f k F.z G.z
  have fi:=mA F.z G.z F.l G.l F.ch G.ch B.f0
  have zg:=fi.zp
  have g0:=fi.ne
  have cg:=R1 d1 A.zK
  obtain⟨U,V,hb⟩:=tZ f k F.z G.z
  have zA:Zr f u v (bF f k):=A1.comb (U:=V) (V:=U) (p:=k) (fun x=>by rw[hb x];grind) ((A7 A1 B1).1 he).1
  have zB:Zr k u' v' (bF f k):=B1.comb hb ((A7 B1 A1).1 (fun x=>(he x).symm)).1
  have nz:∀x,evalL f x≠0∨evalL k x≠0→evalL (bF f k) x≠0:=fun x hx e=>by
   obtain⟨c,hc⟩:=d1
   obtain⟨d,hd⟩:=d2
   rcases hx with hx|hx
   ·exact hx (by rw[hc,e,Rat.mul_zero])
   ·exact hx (by rw[hd,e,Rat.mul_zero])
  refine XN ?_
  obtain⟨PF,Me,Kx⟩:eZ u u'≤u∧eZ u u'≤u'∧(eZ u u'=u∨eZ u u'=u'):=⟨jb _ _,jc _ _,Ov.min_mem _ _⟩
  obtain⟨Nu,OV,LU⟩:v≤fD v v'∧v'≤fD v v'∧(fD v v'=v∨fD v v'=v'):=⟨ie _ _,jA _ _,Ov.max_mem _ _⟩
  unfold LY
  generalize eZ u u'=s at *
  generalize fD v v'=t at *
  have bs:ab s≤twP 32:=by rcases Kx with e|e<;>rw[e]<;>assumption
  have bt:ab t≤twP 32:=by rcases LU with e|e<;>rw[e]<;>assumption
  have MD:evalL (bF f k) s≠0:=by
   rcases Kx with e|e
   ·rw[e];exact nz u (Or.inl (A1.ends l1).1)
   ·rw[e];exact nz u' (Or.inr (B1.ends l2).1)
  have bz:s≤t:=by grind
  have hw:(t-s)*twP 400000≤1:=by
   have q1:t-s≤(v-u)+(v'-u'):=by rcases Kx with e|e<;>rcases LU with e2|e2<;>rw[e,e2]<;>grind
   have q2:twP 400000+twP 400000≤twP (N+237):=by rw[←bP];exact aS (by omega)
   have q3:=Rat.mul_le_mul_of_nonneg_left q2 z1
   have q4:=Rat.mul_le_mul_of_nonneg_left q2 z2
   have q5:=Rat.mul_le_mul_of_nonneg_right q1 (Rat.le_of_lt (bw 400000))
   grind
  have gl:=(d2.len zg G.z B.f0).2
  have gp:=List.length_pos_iff.2 g0
  have gk:=G.l
  obtain⟨wm,ws⟩:=V4 (bF f k).length (by omega) gp
  have HF:=oF (a:=xB 7 63 (6-(bF f k).length)) (N:=(bF f k).length) (r:=32) (m:=400000) (R:=twP 32) fi.h1 fi.Tt g0 cg (Rat.le_of_lt (bw 32)) Rat.le_refl ws bs bt bz wm hw
  have Nf:=qW A1 zg g0 cg zA bz (by
   by_cases e:s=u
   ·rw[e];exact A1.low l1 Rat.le_refl
   ·exact A1.low l1 PF) (lh A1 Nu) MD
  rw[Bool.and_eq_true,Bool.and_eq_true,Bool.and_eq_true,uc A1 zg,uc B1 zg,decide_eq_true_iff,decide_eq_true_iff,Yx zg g0 cg,Yx zg g0 cg]
  refine⟨zA,zB,?_,MD⟩
  have:=HF.1
  unfold cS at *
  omega
end Go.Proofs.YtllmkadmohkbfaaGreatDoor.Sym
namespace Go.Proofs.YtllmkadmohkbfaaGreatDoor.Sym.Path
open Go Tryz
namespace bY
theorem e0(a:az)(b:Int)(h1:Cp 83 [ae a.p] (vI b))(h2:b≠0):Cp 24 [a.pv] (vI b):=
 eD func24 90 [1,1] [.q,.h 2 (.pv (vI b)),.q,.t,.q] (y2 h1 (dq h2))
theorem e1(a:az)(b:Int)(c:Rs)(d:Int)(g:Rs)(i:Int)(h1:Cp 83 [ae a.p] (vI b))(h2:b=0)(h3:Cp 84 [ae a.p] (.aB [ae c,vI d]))(h4:Cp 85 [ae a.p,ae c] (.aB [ae g,vI i]))(h5:g.length≠1):Cp 24 [a.pv] (vI 2):=
 eD func24 117 [1,1,1,1,1,1] [.q,.h 2 (.pv (vI b)),.q,.f,.h 2 (.pv (.aB [ae c,vI d])),.h 3 (.pv (.aB [ae g,vI i])),.h 1 (iI (g.length:Int)),.t,.q] (y6 h1 (bZ h2) h3 h4 (au ah.cells g) (nH h5))
theorem e2(a:az)(b:Int)(c:Rs)(d:Int)(g:Rs)(i:Int)(j:Bool)(k:Int)(h1:Cp 83 [ae a.p] (vI b))(h2:b=0)(h3:Cp 84 [ae a.p] (.aB [ae c,vI d]))(h4:Cp 85 [ae a.p,ae c] (.aB [ae g,vI i]))(h5:g.length=1)(h6:Cp 86 [ae a.p,a.rV.pv] (.aB [vB j,vI k]))(h7:j=false):Cp 24 [a.pv] (vI 14):=
 eD func24 138 [1,1,1,1,1,1,1,1] [.q,.h 2 (.pv (vI b)),.q,.f,.h 2 (.pv (.aB [ae c,vI d])),.h 3 (.pv (.aB [ae g,vI i])),.h 1 (iI (g.length:Int)),.f,.h 4 (.pv (.aB [vB j,vI k])),.q,.t,.q] (y8 h1 (bZ h2) h3 h4 (au ah.cells g) (gj h5) h6 (bB h7))
theorem e3(a:az)(b:Int)(c:Rs)(d:Int)(g:Rs)(i:Int)(j:Bool)(k:Int)(h1:Cp 83 [ae a.p] (vI b))(h2:b=0)(h3:Cp 84 [ae a.p] (.aB [ae c,vI d]))(h4:Cp 85 [ae a.p,ae c] (.aB [ae g,vI i]))(h5:g.length=1)(h6:Cp 86 [ae a.p,a.rV.pv] (.aB [vB j,vI k]))(h7:j=true):Cp 24 [a.pv] (vI 0):=
 eD func24 141 [1,1,1,1,1,1,1,1] [.q,.h 2 (.pv (vI b)),.q,.f,.h 2 (.pv (.aB [ae c,vI d])),.h 3 (.pv (.aB [ae g,vI i])),.h 1 (iI (g.length:Int)),.f,.h 4 (.pv (.aB [vB j,vI k])),.q,.f,.q] (y8 h1 (bZ h2) h3 h4 (au ah.cells g) (gj h5) h6 (ay h7))
end bY
namespace iH
theorem e0(x a b of:ah)(h1:Cp 70 [x.pv,(⟨false,[],[]⟩:ah).pv] a.pv)(h2:Cp 88 [a.pv] b.pv)(h3:Cp 89 [vI 1] of.pv):Cp 27 [x.pv] ((⟨[b,of],(⟨a,a⟩:af)⟩:az).pv):=
 eD func27 78 [1,1,1,3] [.q,.h 2 (.pv a.pv),dr 8 1 [.none,(.pv b.pv),(.pv of.pv),(.ja 0 0 (([b,of]:Rs).map ah.cells))]] (y4 h1 h2 h3 (fP bM ([b,of]:Rs)))
end iH
namespace fI
theorem e0(a:az)(b c:ah)(d:Int)(h1:Cp 226 [a.rV.pv] b.pv)(h2:Cp 208 [ae a.p,b.pv] c.pv)(h3:Cp 124 [c.pv] (vI d))(h4:d=0):Cp 142 [a.pv] ((⟨a.p,(⟨b,b⟩:af)⟩:az).pv):=
 eD func142 105 [1,1,1,1] [.q,.h 2 (.pv b.pv),.ba [.o,.o,.o,(.pv c.pv),(.pv (vI d))],.q,.t,.q,.q] (y4 h1 h2 h3 (aF h4))
theorem e1(a:az)(b c:ah)(d:Int)(g:ah)(i:Int)(h1:Cp 226 [a.rV.pv] b.pv)(h2:Cp 208 [ae a.p,b.pv] c.pv)(h3:Cp 124 [c.pv] (vI d))(h4:d≠0)(h5:Cp 208 [ae a.p,a.rV.lo.pv] g.pv)(h6:Cp 124 [g.pv] (vI i))(h7:d=i):Cp 142 [a.pv] ((⟨a.p,(⟨b,a.rV.hi⟩:af)⟩:az).pv):=
 eD func142 114 [1,1,1,1,1,1,1] [.q,.h 2 (.pv b.pv),.ba [.o,.o,.o,(.pv c.pv),(.pv (vI d))],.q,.f,.ba [.o,.o,.o,.o,.o,.o,(.pv g.pv),(.pv (vI i))],.t,.q,.q] (y7 h1 h2 h3 (aN h4) h5 h6 (aF h7))
theorem e2(a:az)(b c:ah)(d:Int)(g:ah)(i:Int)(h1:Cp 226 [a.rV.pv] b.pv)(h2:Cp 208 [ae a.p,b.pv] c.pv)(h3:Cp 124 [c.pv] (vI d))(h4:d≠0)(h5:Cp 208 [ae a.p,a.rV.lo.pv] g.pv)(h6:Cp 124 [g.pv] (vI i))(h7:d≠i):Cp 142 [a.pv] ((⟨a.p,(⟨a.rV.lo,b⟩:af)⟩:az).pv):=
 eD func142 114 [1,1,1,1,1,1,1] [.q,.h 2 (.pv b.pv),.ba [.o,.o,.o,(.pv c.pv),(.pv (vI d))],.q,.f,.ba [.o,.o,.o,.o,.o,.o,(.pv g.pv),(.pv (vI i))],.f,.q,.q] (y7 h1 h2 h3 (aN h4) h5 h6 (aN h7))
end fI
namespace fj
theorem e0(p:Rs)(a:az)(h1:p.length=0):Cp 205 [ae p,a.pv] (vB true):=
 eD func205 84 [1,1] [.q,.h 1 (iI (p.length:Int)),.t,.q] (y2 (au ah.cells p) (aL h1))
theorem e1(p:Rs)(a:az)(b:Int)(c:ah)(d:Int)(h1:p.length≠0)(h2:Cp 69 [a.rV.lo.pv,a.rV.hi.pv] (vI b))(h3:b=0)(h4:Cp 208 [ae p,a.rV.lo.pv] c.pv)(h5:Cp 124 [c.pv] (vI d)):Cp 205 [ae p,a.pv] (vB (d==0)):=
 eD func205 99 [1,1,1,1,1,1] [.q,.h 1 (iI (p.length:Int)),.f,.h 6 (.pv (vI b)),.t,.ba [.o,.o,.o,.o,(.pv c.pv),(.pv (vI d))]] (y6 (au ah.cells p) (aC h1) h2 (aF h3) h4 h5)
theorem e2(p:Rs)(a:az)(b:Int)(c:Rs)(d g i:Int)(h1:p.length≠0)(h2:Cp 69 [a.rV.lo.pv,a.rV.hi.pv] (vI b))(h3:b≠0)(h4:Cp 85 [ae p,ae a.p] (.aB [ae c,vI d]))(h5:Cp 207 [ae c,a.rV.lo.pv,a.rV.hi.pv] (.aB [vI g,vI i])):Cp 205 [ae p,a.pv] (vB (decide (g>0))):=
 eD func205 114 [1,1,1,1,1,1] [.q,.h 1 (iI (p.length:Int)),.f,.h 6 (.pv (vI b)),.f,.h 3 (.pv (.aB [ae c,vI d])),.h 7 (.pv (.aB [vI g,vI i])),.q] (y6 (au ah.cells p) (aC h1) h2 (aN h3) h4 h5)
end fj
namespace dc
@[reducible] def fn:Func:=Tryz.f123
def bK:List gC:=focus [0,2,0,0,2,1,2,0,0] [.code (aA fn)]
def inv1(p:List ah)(dI:az):St:=⟨[(0,(.pv (ae p))),(3,(.ptr 3 0))],[(3,(.lit [(.pv (ae dI.p)),(eB dI.rV.lo.neg),(.pv (ag dI.rV.lo.num)),(.pv (ag dI.rV.lo.den)),(eB dI.rV.hi.neg),(.pv (ag dI.rV.hi.num)),(.pv (ag dI.rV.hi.den))]))]⟩
@[reducible] def aj(p:List ah)(dI:az)(r:PV):Prop:=L bT fn bK (inv1 p dI) r
theorem e0(p:Rs)(a:az)(b:Bool)(h1:Cp 205 [ae p,a.pv] (vB b))(h2:b=true):Cp 123 [ae p,a.pv] (vI 0):=
 eD func123 84 [1,1] [.q,.h 2 (.pv (vB b)),.t,.q] (y2 h1 h2)
theorem e1(p:Rs)(a:az)(b:Bool){r:PV}(h1:Cp 205 [ae p,a.pv] (vB b))(h2:b=false)(hL:aj p a r):Cp 123 [ae p,a.pv] r:=
 eG func123 87 [1,1] [.q,.h 2 (.pv (vB b)),.f,.aP [0,3]] (y2 h1 h2) hL
theorem l10(p:Rs)(b:az)(c:af)(d g:Int)(i:Bool)(h1:Cp 209 [ae p,b.rV.pv] (.aB [c.pv,vI d]))(h2:Cp 210 [c.pv] (.aB [vI g,vB i]))(h3:i=true):aj p b (vI g):=
 lD 123 [1,1,1] [.a,.h 3 (.pv (.aB [c.pv,vI d])),.h 1 (.pv (.aB [vI g,vB i])),.q,.t,.q] (y3 h1 h2 h3)
theorem dw(p:Rs)(b:az)(c:af)(d g:Int)(i:Bool)(j:az){r:PV}(h1:Cp 209 [ae p,b.rV.pv] (.aB [c.pv,vI d]))(h2:Cp 210 [c.pv] (.aB [vI g,vB i]))(h3:i=false)(h4:Cp 142 [b.pv] j.pv)(hL:aj p j r):aj p b r:=
 lG 126 [1,1,1,1] [.a,.h 3 (.pv (.aB [c.pv,vI d])),.h 1 (.pv (.aB [vI g,vB i])),.q,.f,.h 1 (.pv j.pv),.aP [0,3],.drop [5]] (y4 h1 h2 h3 h4) hL
end dc
namespace mC
theorem e0(p:Rs)(a:az)(b:Int)(h1:Cp 24 [a.pv] (vI b))(h2:b≠0):Cp 55 [ae p,a.pv] (.aB [vI 0,vI b]):=
 eD func55 90 [1,1] [.q,.h 1 (.pv (vI b)),.q,.t,.q] (y2 h1 (dq h2))
theorem e1(p:Rs)(a:az)(b c:Int)(h1:Cp 24 [a.pv] (vI b))(h2:b=0)(h3:Cp 56 [ae p] (vI c))(h4:c≠0):Cp 55 [ae p,a.pv] (.aB [vI 0,vI c]):=
 eD func55 111 [1,1,1,1] [.q,.h 1 (.pv (vI b)),.q,.f,.h 1 (.pv (vI c)),.q,.t,.q] (y4 h1 (bZ h2) h3 (dq h4))
theorem e2(p:Rs)(a:az)(b c d:Int)(h1:Cp 24 [a.pv] (vI b))(h2:b=0)(h3:Cp 56 [ae p] (vI c))(h4:c=0)(h5:Cp 123 [ae p,a.pv] (vI d)):Cp 55 [ae p,a.pv] (.aB [vI d,vI 0]):=
 eD func55 114 [1,1,1,1,1] [.q,.h 1 (.pv (vI b)),.q,.f,.h 1 (.pv (vI c)),.q,.f,.h 2 (.pv (vI d))] (y5 h1 (bZ h2) h3 (bZ h4) h5)
end mC
namespace kH
theorem e0(a:az)(x:ah)(of:az)(b:Int)(h1:Cp 27 [x.pv] of.pv)(h2:Cp 123 [ae of.p,a.pv] (vI b)):Cp 72 [a.pv,x.pv] (vI b):=
 eD func72 72 [1,1] [.q,dr 5 1 [.none,(.pv of.pv),.none,.none,(.pv (vI b))]] (y2 h1 h2)
end kH
namespace pQ
theorem e0(a:az)(x:ah)(b:Int)(h1:Cp 24 [a.pv] (vI b))(h2:b≠0):Cp 54 [a.pv,x.pv] (.aB [vI 0,vI b]):=
 eD func54 90 [1,1] [.q,.h 1 (.pv (vI b)),.q,.t,.q] (y2 h1 (dq h2))
theorem e1(a:az)(x:ah)(b c:Int)(h1:Cp 24 [a.pv] (vI b))(h2:b=0)(h3:Cp 72 [a.pv,x.pv] (vI c)):Cp 54 [a.pv,x.pv] (.aB [vI c,vI 0]):=
 eD func54 93 [1,1,1] [.q,.h 1 (.pv (vI b)),.q,.f,.h 2 (.pv (vI c))] (y3 h1 (bZ h2) h3)
end pQ
namespace fE
@[reducible] def fn:Func:=Tryz.f122
def bK:List gC:=focus [0,2,0,2,0,0] [.code (aA fn)]
def inv1(gcd:List ah)(iu dI:az):St:=⟨[(2,(.ptr 2 0)),(3,(.ptr 3 0)),(5,(.pv (ae gcd)))],[(2,(.lit [(.pv (ae iu.p)),(eB iu.rV.lo.neg),(.pv (ag iu.rV.lo.num)),(.pv (ag iu.rV.lo.den)),(eB iu.rV.hi.neg),(.pv (ag iu.rV.hi.num)),(.pv (ag iu.rV.hi.den))])),(3,(.lit [(.pv (ae dI.p)),(eB dI.rV.lo.neg),(.pv (ag dI.rV.lo.num)),(.pv (ag dI.rV.lo.den)),(eB dI.rV.hi.neg),(.pv (ag dI.rV.hi.num)),(.pv (ag dI.rV.hi.den))]))]⟩
@[reducible] def aj(gcd:List ah)(iu dI:az)(r:PV):Prop:=L bT fn bK (inv1 gcd iu dI) r
theorem e0(a b:az)(c:Rs)(d:Int){r:PV}(h1:Cp 85 [ae a.p,ae b.p] (.aB [ae c,vI d]))(hL:aj c a b r):Cp 122 [a.pv,b.pv] r:=
 eG func122 78 [1] [.q,.h 4 (.pv (.aB [ae c,vI d])),.aP [2,3,5],.ord [2,3]] (y1 h1) hL
theorem l10(b:Rs)(c d:az)(g:Int)(h1:Cp 69 [c.rV.hi.pv,d.rV.lo.pv] (vI g))(h2:g<0):aj b c d (vI (-1)):=
 lD 102 [1,1] [.a,.h 6 (.pv (vI g)),.t,.q] (y2 h1 (dJ h2))
theorem dw(b:Rs)(c d:az)(g i:Int)(h1:Cp 69 [c.rV.hi.pv,d.rV.lo.pv] (vI g))(h2:0≤g)(h3:Cp 69 [d.rV.hi.pv,c.rV.lo.pv] (vI i))(h4:i<0):aj b c d (vI 1):=
 lD 117 [1,1,1,1] [.a,.h 6 (.pv (vI g)),.f,.h 6 (.pv (vI i)),.t,.q] (y4 h1 (bQ h2) h3 (dJ h4))
theorem ji(b:Rs)(c d:az)(g i j k:Int)(h1:Cp 69 [c.rV.hi.pv,d.rV.lo.pv] (vI g))(h2:0≤g)(h3:Cp 69 [d.rV.hi.pv,c.rV.lo.pv] (vI i))(h4:0≤i)(h5:Cp 69 [d.rV.lo.pv,d.rV.hi.pv] (vI j))(h6:j=0)(h7:Cp 72 [c.pv,d.rV.lo.pv] (vI k)):aj b c d (vI k):=
 lD 132 [1,1,1,1,1,1,1] [.a,.h 6 (.pv (vI g)),.f,.h 6 (.pv (vI i)),.f,.h 6 (.pv (vI j)),.t,.h 4 (.pv (vI k))] (y7 h1 (bQ h2) h3 (bQ h4) h5 (aF h6) h7)
theorem oK(b:Rs)(c d:az)(g i j k l:Int)(h1:Cp 69 [c.rV.hi.pv,d.rV.lo.pv] (vI g))(h2:0≤g)(h3:Cp 69 [d.rV.hi.pv,c.rV.lo.pv] (vI i))(h4:0≤i)(h5:Cp 69 [d.rV.lo.pv,d.rV.hi.pv] (vI j))(h6:j≠0)(h7:Cp 69 [c.rV.lo.pv,c.rV.hi.pv] (vI k))(h8:k=0)(h9:Cp 72 [d.pv,c.rV.lo.pv] (vI l))(dM:aw (-l)):aj b c d (vI (-l)):=
 lD 147 [1,1,1,1,1,1,1,1,1,1] [.a,.h 6 (.pv (vI g)),.f,.h 6 (.pv (vI i)),.f,.h 6 (.pv (vI j)),.f,.h 6 (.pv (vI k)),.t,.ba [.o,.o,.o,.o,(.pv (vI l)),(iI (-l))]] (Iu h1 (bQ h2) h3 (bQ h4) h5 (aN h6) h7 (aF h8) h9 (oI dM))
theorem AS(b:Rs)(c d:az)(g i j k:Int)(l m:Bool)(n:af)(p s:Int)(u:ah)(v:Int)(h1:Cp 69 [c.rV.hi.pv,d.rV.lo.pv] (vI g))(h2:0≤g)(h3:Cp 69 [d.rV.hi.pv,c.rV.lo.pv] (vI i))(h4:0≤i)(h5:Cp 69 [d.rV.lo.pv,d.rV.hi.pv] (vI j))(h6:j≠0)(h7:Cp 69 [c.rV.lo.pv,c.rV.hi.pv] (vI k))(h8:k≠0)(h9:Cp 205 [ae b,c.pv] (vB l))(dM:l=true)(gy:Cp 205 [ae b,d.pv] (vB m))(j8:m=true)(nK:Cp 206 [c.rV.pv,d.rV.pv] n.pv)(l9:Cp 207 [ae b,n.lo.pv,n.hi.pv] (.aB [vI p,vI s]))(om:p=1)(sR:Cp 208 [ae b,n.lo.pv] u.pv)(o5:Cp 124 [u.pv] (vI v))(pT:v≠0):aj b c d (vI 0):=
 lD 183 [1,1,1,1,1,1,1,1,1,1,1,1,1,1,1,1,1,1,1,1,1,1,1,1,1,1,1] [.a,.h 6 (.pv (vI g)),.f,.h 6 (.pv (vI i)),.f,.h 6 (.pv (vI j)),.f,.h 6 (.pv (vI k)),.f,.ba [.o,.o,(.pv (vB l)),.o,.o,.o,(.pv (vB m)),(.dec true)],.t,.h 4 (.pv n.pv),.h 5 (.pv (.aB [vI p,vI s])),.ba [.o,.o,.o,.o,.o,.o,(.pv u.pv),(.pv (vI v)),.o,(.dec true)],.t,.q] (y27 h1 (bQ h2) h3 (bQ h4) h5 (aN h6) h7 (aN h8) h9 dM dM dM gy dM j8 nK l9 (aF om) (aF om) (aF om) (aF om) sR (aF om) o5 (aF om) (aF om) (dq pT))
theorem T2(b:Rs)(c d:az)(g i j k:Int)(l m:Bool)(n:af)(p q:Int)(s:ah)(u:Int)(v w:az){r:PV}(h1:Cp 69 [c.rV.hi.pv,d.rV.lo.pv] (vI g))(h2:0≤g)(h3:Cp 69 [d.rV.hi.pv,c.rV.lo.pv] (vI i))(h4:0≤i)(h5:Cp 69 [d.rV.lo.pv,d.rV.hi.pv] (vI j))(h6:j≠0)(h7:Cp 69 [c.rV.lo.pv,c.rV.hi.pv] (vI k))(h8:k≠0)(h9:Cp 205 [ae b,c.pv] (vB l))(dM:l=true)(gy:Cp 205 [ae b,d.pv] (vB m))(j8:m=true)(nK:Cp 206 [c.rV.pv,d.rV.pv] n.pv)(l9:Cp 207 [ae b,n.lo.pv,n.hi.pv] (.aB [vI p,vI q]))(om:p=1)(sR:Cp 208 [ae b,n.lo.pv] s.pv)(o5:Cp 124 [s.pv] (vI u))(pT:u=0)(oL:Cp 142 [c.pv] v.pv)(xm:Cp 142 [d.pv] w.pv)(hL:aj b v w r):aj b c d r:=
 lG 186 [1,1,1,1,1,1,1,1,1,1,1,1,1,1,1,1,1,1,1,1,1,1,1,1,1,1,1,1,1] [.a,.h 6 (.pv (vI g)),.f,.h 6 (.pv (vI i)),.f,.h 6 (.pv (vI j)),.f,.h 6 (.pv (vI k)),.f,.ba [.o,.o,(.pv (vB l)),.o,.o,.o,(.pv (vB m)),(.dec true)],.t,.h 4 (.pv n.pv),.h 5 (.pv (.aB [vI p,vI q])),.ba [.o,.o,.o,.o,.o,.o,(.pv s.pv),(.pv (vI u)),.o,(.dec true)],.f,dr 4 2 [.none,(.pv v.pv),.none,(.pv w.pv)],.aP [2,3,5],.drop [7]] (y29 h1 (bQ h2) h3 (bQ h4) h5 (aN h6) h7 (aN h8) h9 dM dM dM gy dM j8 nK l9 (aF om) (aF om) (aF om) (aF om) sR (aF om) o5 (aF om) (aF om) (bZ pT) oL xm) hL
theorem Wr(b:Rs)(c d:az)(g i j k:Int)(l m:Bool)(n:af)(p q:Int)(s u:az){r:PV}(h1:Cp 69 [c.rV.hi.pv,d.rV.lo.pv] (vI g))(h2:0≤g)(h3:Cp 69 [d.rV.hi.pv,c.rV.lo.pv] (vI i))(h4:0≤i)(h5:Cp 69 [d.rV.lo.pv,d.rV.hi.pv] (vI j))(h6:j≠0)(h7:Cp 69 [c.rV.lo.pv,c.rV.hi.pv] (vI k))(h8:k≠0)(h9:Cp 205 [ae b,c.pv] (vB l))(dM:l=true)(gy:Cp 205 [ae b,d.pv] (vB m))(j8:m=true)(nK:Cp 206 [c.rV.pv,d.rV.pv] n.pv)(l9:Cp 207 [ae b,n.lo.pv,n.hi.pv] (.aB [vI p,vI q]))(om:p≠1)(sR:Cp 142 [c.pv] s.pv)(o5:Cp 142 [d.pv] u.pv)(hL:aj b s u r):aj b c d r:=
 lG 186 [1,1,1,1,1,1,1,1,1,1,1,1,1,1,1,1,1,1,1,1,1,1,1,1,1,1] [.a,.h 6 (.pv (vI g)),.f,.h 6 (.pv (vI i)),.f,.h 6 (.pv (vI j)),.f,.h 6 (.pv (vI k)),.f,.ba [.o,.o,(.pv (vB l)),.o,.o,.o,(.pv (vB m)),(.dec true)],.t,.h 4 (.pv n.pv),.h 5 (.pv (.aB [vI p,vI q])),.ba [.o,.o,.o,.skip,.skip,.skip,.skip,.skip,.skip,(.dec false)],.a,dr 4 2 [.none,(.pv s.pv),.none,(.pv u.pv)],.aP [2,3,5],.drop [7]] (ZB h1 (bQ h2) h3 (bQ h4) h5 (aN h6) h7 (aN h8) h9 dM dM dM gy dM j8 nK l9 (aN om) (aN om) (aN om) (aN om) (aN om) (aN om) (aN om) sR o5) hL
theorem l17(b:Rs)(c d:az)(g i j k:Int)(l m:Bool)(n p:az){r:PV}(h1:Cp 69 [c.rV.hi.pv,d.rV.lo.pv] (vI g))(h2:0≤g)(h3:Cp 69 [d.rV.hi.pv,c.rV.lo.pv] (vI i))(h4:0≤i)(h5:Cp 69 [d.rV.lo.pv,d.rV.hi.pv] (vI j))(h6:j≠0)(h7:Cp 69 [c.rV.lo.pv,c.rV.hi.pv] (vI k))(h8:k≠0)(h9:Cp 205 [ae b,c.pv] (vB l))(dM:l=true)(gy:Cp 205 [ae b,d.pv] (vB m))(j8:m=false)(nK:Cp 142 [c.pv] n.pv)(l9:Cp 142 [d.pv] p.pv)(hL:aj b n p r):aj b c d r:=
 lG 165 [1,1,1,1,1,1,1,1,1,1,1,1,1,1,1,1,1] [.a,.h 6 (.pv (vI g)),.f,.h 6 (.pv (vI i)),.f,.h 6 (.pv (vI j)),.f,.h 6 (.pv (vI k)),.f,.ba [.o,.o,(.pv (vB l)),.o,.o,.o,(.pv (vB m)),(.dec true)],.f,dr 4 2 [.none,(.pv n.pv),.none,(.pv p.pv)],.aP [2,3,5]] (Pq h1 (bQ h2) h3 (bQ h4) h5 (aN h6) h7 (aN h8) h9 dM dM dM gy dM j8 nK l9) hL
theorem l18(b:Rs)(c d:az)(g i j k:Int)(l:Bool)(m n:az){r:PV}(h1:Cp 69 [c.rV.hi.pv,d.rV.lo.pv] (vI g))(h2:0≤g)(h3:Cp 69 [d.rV.hi.pv,c.rV.lo.pv] (vI i))(h4:0≤i)(h5:Cp 69 [d.rV.lo.pv,d.rV.hi.pv] (vI j))(h6:j≠0)(h7:Cp 69 [c.rV.lo.pv,c.rV.hi.pv] (vI k))(h8:k≠0)(h9:Cp 205 [ae b,c.pv] (vB l))(dM:l=false)(gy:Cp 142 [c.pv] m.pv)(j8:Cp 142 [d.pv] n.pv)(hL:aj b m n r):aj b c d r:=
 lG 165 [1,1,1,1,1,1,1,1,1,1,1,1,1,1,1] [.a,.h 6 (.pv (vI g)),.f,.h 6 (.pv (vI i)),.f,.h 6 (.pv (vI j)),.f,.h 6 (.pv (vI k)),.f,.ba [.o,.o,(.pv (vB l)),.o,.skip,.skip,.skip,(.dec false)],.a,dr 4 2 [.none,(.pv m.pv),.none,(.pv n.pv)],.aP [2,3,5]] (Cy h1 (bQ h2) h3 (bQ h4) h5 (aN h6) h7 (aN h8) h9 dM dM dM dM gy j8) hL
end fE
namespace o4
theorem e0(a b:az)(c:Int)(h1:Cp 24 [a.pv] (vI c))(h2:c≠0):Cp 53 [a.pv,b.pv] (.aB [vI 0,vI c]):=
 eD func53 90 [1,1] [.q,.h 1 (.pv (vI c)),.q,.t,.q] (y2 h1 (dq h2))
theorem e1(a b:az)(c d:Int)(h1:Cp 24 [a.pv] (vI c))(h2:c=0)(h3:Cp 24 [b.pv] (vI d))(h4:d≠0):Cp 53 [a.pv,b.pv] (.aB [vI 0,vI d]):=
 eD func53 111 [1,1,1,1] [.q,.h 1 (.pv (vI c)),.q,.f,.h 1 (.pv (vI d)),.q,.t,.q] (y4 h1 (bZ h2) h3 (dq h4))
theorem e2(a b:az)(c d g:Int)(h1:Cp 24 [a.pv] (vI c))(h2:c=0)(h3:Cp 24 [b.pv] (vI d))(h4:d=0)(h5:Cp 122 [a.pv,b.pv] (vI g)):Cp 53 [a.pv,b.pv] (.aB [vI g,vI 0]):=
 eD func53 114 [1,1,1,1,1] [.q,.h 1 (.pv (vI c)),.q,.f,.h 1 (.pv (vI d)),.q,.f,.h 2 (.pv (vI g))] (y5 h1 (bZ h2) h3 (bZ h4) h5)
end o4
end Go.Proofs.YtllmkadmohkbfaaGreatDoor.Sym.Path
namespace Go.Proofs.YtllmkadmohkbfaaGreatDoor.Sym
open Go Path dE
structure Sh (a:az):Prop where
 l:a.p.length≤6
 fp:iN 1 a.p
 g:gx 1 a.rV
def fw(a:az):Int:=if iO a.p≠0 then iO a.p else if (bF (aT a.p) (ar (aT a.p))).length≠1 then 2 else if fX (aT a.p) a.rV then 0 else 14
theorem Sh.sm{a:az}(h:Sh a)(hc:iO a.p=0):Sm (aT a.p)∧aT a.p≠[]∧pq (aT a.p)=ae a.p∧a.p.length≠0∧kN a.p=0:=by
 unfold iO at hc
 by_cases h0:kN a.p=0
 ·rw[if_pos h0] at hc
  have hn:a.p.length≠0:=fun e=>by rw[if_pos e] at hc;exact absurd hc (by decide)
  have pl:(aT a.p).length=a.p.length:=by unfold aT;rw[List.length_map]
  have hl:=h.l
  exact⟨⟨vD h0,by omega,qg h.fp (by omega)⟩,fun e=>hn (by rw[←pl,e];rfl),by unfold pq;rw[sk (nd h0)],hn,h0⟩
 ·rw[if_neg h0] at hc;exact absurd hc h0
theorem pO{k m:Nat}{p:List ah}(h:iN k p)(hk:k≤m):iN m p:=fun a ha=>⟨Nat.le_trans (h a ha).1 hk,Nat.le_trans (h a ha).2 hk⟩
theorem sA{k m:Nat}{r:af}(h:gx k r)(hk:k≤m):gx m r:=⟨⟨Nat.le_trans h.1.1 hk,Nat.le_trans h.1.2 hk⟩,⟨Nat.le_trans h.2.1 hk,Nat.le_trans h.2.2 hk⟩⟩
theorem AD:4*xB 8 70 (6+2)+10≤68719476736:=by decide
theorem hX.Check{a:az}(h:Sh a):Cp 23 [a.pv] (bC (l6 (fw a))):=by
 have hc:=uh.Check a.p (pO h.fp (by omega))
 unfold fw
 by_cases he:iO a.p=0
 ·rw[if_neg (by omega)]
  obtain⟨S,p0,ep,hn,h0⟩:=h.sm he
  rw[h0] at hc
  have hl:=S.l
  have hd:=PQ.iS (aT a.p) S.z (by omega) S.f (by omega)
  have cd:Ch 8 (ar (aT a.p)):=S.ch.derive (by omega)
  have Tl:=nB (aT a.p)
  have hg:=PQ.Gcd (h:=7) (b:=8) (c:=70) (L:=6) (by omega) (by omega) (by omega) (by omega) (by omega) AD (aT a.p) (ar (aT a.p)) S.z (bc _) S.l (by omega) S.ch cd
  rw[ep] at hd hg
  by_cases o9:(bF (aT a.p) (ar (aT a.p))).length≠1
  ·rw[if_pos o9]
   exact df.e1 a _ _ hc hn hd hg (by rw[bf];exact o9)
  ·rw[if_neg o9]
   have hi:=o7.kr (mB S p0) a.rV (sA h.g (by omega))
   rw[ep] at hi
   cases hb:fX (aT a.p) a.rV with
   |true =>
    rw[hb] at hi
    exact df.e3 a _ _ _ hc hn hd hg (by rw[bf];omega) hi rfl
   |false =>
    rw[hb] at hi
    exact df.e2 a _ _ _ hc hn hd hg (by rw[bf];omega) hi rfl
 ·rw[if_pos he,gw he]
  unfold iO at he ⊢
  by_cases h0:kN a.p=0
  ·rw[if_pos h0] at he ⊢
   rw[h0] at hc
   have hn:a.p.length=0:=Classical.byContradiction fun e=>he (if_neg e)
   rw[if_pos hn]
   exact df.e0 a hc hn
  ·rw[if_neg h0]
   rw[gw h0] at hc
   exact df.e7 a _ hc
theorem x9.Check{a:az}(h:Sh a):Cp 24 [a.pv] (vI (fw a)):=by
 have hc:=uN.bad (p:=a.p) (pO h.fp (by omega))
 unfold fw
 by_cases he:iO a.p=0
 ·rw[if_neg (by omega)]
  obtain⟨S,p0,ep,hn,h0⟩:=h.sm he
  have hl:=S.l
  have hd:=RQ.iS (aT a.p) S.z (by omega) S.f (by omega)
  have cd:Ch 8 (ar (aT a.p)):=S.ch.derive (by omega)
  have Tl:=nB (aT a.p)
  have hg:=RQ.Gcd (h:=7) (b:=8) (c:=70) (L:=6) (by omega) (by omega) (by omega) (by omega) (by omega) AD (aT a.p) (ar (aT a.p)) S.z (bc _) S.l (by omega) S.ch cd
  rw[ep] at hd hg
  by_cases o9:(bF (aT a.p) (ar (aT a.p))).length≠1
  ·rw[if_pos o9]
   exact bY.e1 a _ _ _ _ _ hc he hd hg (by rw[bf];exact o9)
  ·rw[if_neg o9]
   have hi:=uN.kr (mB S p0) a.rV (sA h.g (by omega))
   rw[ep] at hi
   cases hb:fX (aT a.p) a.rV with
   |true =>
    rw[hb] at hi
    exact bY.e3 a _ _ _ _ _ _ _ hc he hd hg (by rw[bf];omega) hi rfl
   |false =>
    rw[hb] at hi
    exact bY.e2 a _ _ _ _ _ _ _ hc he hd hg (by rw[bf];omega) hi rfl
 ·rw[if_pos he]
  exact bY.e0 a _ hc he
structure Acc (a:az) (f:List Rat) (lo hi:Rat):Prop where
 e:a=bW f lo hi
 sm:Sm f
 lj:dH f lo hi
 h1:ht lo≤1
 h2:ht hi≤1
theorem Sh.acc{a:az}(h:Sh a)(hc:fw a=0):Acc a (aT a.p) (loG a.rV) (hiG a.rV):=by
 unfold fw at hc
 have he:iO a.p=0:=Classical.byContradiction fun e=>by rw[if_pos e] at hc;exact e hc
 rw[if_neg (by omega)] at hc
 have o9:(bF (aT a.p) (ar (aT a.p))).length=1:=Classical.byContradiction fun e=>by rw[if_pos e] at hc;exact absurd hc (by decide)
 rw[if_neg (by omega)] at hc
 have hb:fX (aT a.p) a.rV=true:=Classical.byContradiction fun e=>by rw[if_neg e] at hc;exact absurd hc (by decide)
 obtain⟨S,p0,ep,hn,h0⟩:=h.sm he
 unfold fX at hb
 rw[Bool.and_eq_true] at hb
 obtain⟨v1,v2,v3⟩:=jT hb.1
 have DK:loG a.rV=a.rV.lo.val:=by unfold loG;rw[hb.1,cond_true]
 have Ot:hiG a.rV=a.rV.hi.val:=by unfold hiG;rw[hb.1,cond_true]
 refine⟨?_,S,rp S.z p0 (tq S.z (bc _) o9) (by rw[DK,Ot];exact v3) hb.2,by rw[DK];exact eQ h.g.1.1 h.g.1.2 (by omega),by rw[Ot];exact eQ h.g.2.1 h.g.2.2 (by omega)⟩
 unfold bW
 rw[mH hb.1,sk (nd h0)]
theorem Acc.bd{a:az}{f:List Rat}{lo hi:Rat}(h:Acc a f lo hi):ab lo≤twP 32∧ab hi≤twP 32:=by
 have b1:=sv lo
 have b2:=sv hi
 exact⟨Rat.le_trans b1 (aS (by have:=h.h1;omega)),Rat.le_trans b2 (aS (by have:=h.h2;omega))⟩
theorem vQ{f g:List Rat}{lo hi lo' hi':Rat}{a b:az}(A:Acc a f lo hi)(B:Acc b g lo' hi'){N:Nat}(hN:1952809344+18373318+437644+2≤N):∃s,tv f g (N+237+33+1) lo hi lo' hi'=some s:=by
 unfold tv
 cases he:hX.AB f lo hi g lo' hi' with
 |true=>exact⟨0,rfl⟩
 |false =>
  rw[cond_false]
  have dk:¬xw f lo hi g lo' hi':=fun e=>by rw[(hX.nZ A.lj B.lj).2 e] at he;cases he
  obtain⟨r,hr⟩:=rn A.sm B.sm A.lj B.lj dk A.bd.1 A.bd.2 B.bd.1 B.bd.2 hN
  rw[hr]
  exact⟨_,rfl⟩
theorem zj{N:Nat}(hN:N=2000000000):1952809344+18373318+437644+2≤N∧(N+237+33)/32≤70000000:=by omega
theorem hX.Cf{f g:List Rat}{lo hi lo' hi':Rat}{a b:az}(A:Acc a f lo hi)(B:Acc b g lo' hi'):∃s,Cp 96 [a.pv,b.pv] (.aB [vI s,.aq])∧((s=0∧xw f lo hi g lo' hi')∨(s = -1∧xZ f lo hi g lo' hi')∨(s=1∧xZ g lo' hi' f lo hi)):=by
 obtain⟨N,hN⟩:∃N:Nat,N=2000000000:=⟨_,rfl⟩
 obtain⟨n1,n2⟩:=zj hN
 obtain⟨s,hs⟩:=vQ A B n1
 have s1:=oN hi lo
 have s2:=oN hi' lo'
 have a1:=A.h1
 have a2:=A.h2
 have b1:=B.h1
 have b2:=B.h2
 refine⟨s,?_,tx A.lj B.lj hs⟩
 rw[A.e,B.e]
 exact hX.cmp (K:=N+237+33) A.sm B.sm A.lj B.lj (by omega) (by omega) hs
theorem hX.jN{a b:az}(ha:Sh a)(hb:Sh b)(h1:fw a=0)(h2:fw b=0):∃s,Cp 35 [a.pv,b.pv] (.aB [vI s,.aq])∧((s=0∧xw (aT a.p) (loG a.rV) (hiG a.rV) (aT b.p) (loG b.rV) (hiG b.rV))∨(s = -1∧xZ (aT a.p) (loG a.rV) (hiG a.rV) (aT b.p) (loG b.rV) (hiG b.rV))∨(s=1∧xZ (aT b.p) (loG b.rV) (hiG b.rV) (aT a.p) (loG a.rV) (hiG a.rV))):=by
 obtain⟨s,hs,hm⟩:=hX.Cf (ha.acc h1) (hb.acc h2)
 have c1:=hX.Check ha
 have c2:=hX.Check hb
 rw[h1] at c1
 rw[h2] at c2
 exact⟨s,dL.e0 a b (dL.l10 0 a b a (by omega) rfl c1 (by omega) (dL.l10 1 a b b (by omega) rfl c2 (by omega) (dL.ji 2 a b s none (by omega) hs))),hm⟩
theorem hX.V5{a b:az}(ha:Sh a)(hb:Sh b)(h:(if fw a≠0 then fw a else fw b)≠0):Cp 35 [a.pv,b.pv] (.aB [vI 0,bC (some (if fw a≠0 then fw a else fw b))]):=by
 have c1:=hX.Check ha
 have c2:=hX.Check hb
 by_cases h1:fw a=0
 ·rw[if_neg (by omega)] at h ⊢
  rw[h1] at c1
  rw[gw h] at c2
  exact dL.e0 a b (dL.l10 0 a b a (by omega) rfl c1 (by omega) (dL.dw 1 a b b _ (by omega) rfl c2))
 ·rw[if_pos h1]
  rw[gw h1] at c1
  exact dL.e0 a b (dL.dw 0 a b a _ (by omega) rfl c1)
theorem Cu{k:Nat}{q:List Rat}{c d:Rat}(hl:q.length≤10)(hq:Fl k q)(hc:ht c≤k)(hd:ht d≤k)(hk:k≤536870912)(t:Nat):ht (aQ (q.drop t) c d).1≤17179869184∧ht (aQ (q.drop t) c d).2≤17179869184:=by
 obtain⟨g1,g2⟩:=nu (k:=k) (m:=k) (q.drop t) c d (fun x hx=>hq x (List.mem_of_mem_drop hx)) hc hd
 have e:(q.drop t).length*(k+k+1)≤10*(k+k+1):=Nat.mul_le_mul_right _ (by rw[List.length_drop];omega)
 omega
theorem uh.NM(q:List Rat)(r:af)(hl:q.length≤10)(hc:kN (q.map aE)=0)(hq:Fl 536870912 q)(hr:gx 536870912 r):Cp 202 [ae (q.map aE),r.pv] (.aB [(cY (aQ q (loG r) (hiG r)).1 (aQ q (loG r) (hiG r)).2).pv,.aq]):=by
 have T4:(q.map aE).length=q.length:=List.length_map ..
 have kJ:=uh.Check (q.map aE) (wX (fun x hx=>Nat.le_trans (hq x hx) (by omega)))
 rw[hc] at kJ
 have r1:=iT hr (by omega)
 have r2:=iV hr (by omega)
 have fr:gx 34359738368 r:=⟨by have:=hr.1;omega,by have:=hr.2;omega⟩
 have loop:∀(n:Nat) (s:af),n≤q.length→(n<q.length→s=cY (aQ (q.drop n) (loG r) (hiG r)).1 (aQ (q.drop n) (loG r) (hiG r)).2)→(n=q.length→s=cY 0 0)→mV.aj (q.map aE) ((n:Int)-1) r s (.aB [(cY (aQ q (loG r) (hiG r)).1 (aQ q (loG r) (hiG r)).2).pv,.aq]):=by
  intro n
  induction n with
  |zero =>
   intro s _ h1 h2
   have e:s=cY (aQ q (loG r) (hiG r)).1 (aQ q (loG r) (hiG r)).2:=by
    by_cases h0:q.length=0
    ·rw[h2 h0.symm,List.eq_nil_of_length_eq_zero h0];rfl
    ·have:=h1 (by omega);rwa[List.drop_zero] at this
   rw[←e]
   exact mV.ji _ _ r s (by omega)
  |succ n ih =>
   intro s hn h1 h2
   obtain⟨v,hv⟩:∃v,q[n]? = some v:=⟨_,List.getElem?_eq_getElem (by omega)⟩
   have hvk:=hq v (List.mem_of_getElem? hv)
   have hd:=drop_cons hv
   obtain⟨o1,o2⟩:=Cu hl hq r1 r2 (by omega) (n+1)
   by_cases hlast:n+1=q.length
   ·refine mV.l10 _ _ r s n (aE v) _ (by omega) (by unfold aw;omega) (by omega) (by omega) (LW hv) (uA.pH v (by omega)) (by unfold aw;omega) ?_
    have:=ih (cY v v) (by omega) (fun _=>by rw[hd,List.drop_of_length_le (by omega),uY]) (by omega)
    rwa[show ((n+1:Nat):Int)-1-1=(n:Int)-1 from by omega]
   ·have es:=h1 (by omega)
    have ho:=ow (q.drop (n+1)) (loG r) (hiG r)
    have m:=uA.Mul s r (by rw[es];exact fO (by omega) (by omega)) fr
    have Nu:=sH o1 o2 r1 r2
    have OV:=sI o1 o2 r1 r2
    rw[es,fe ho,fg ho] at m
    have hm:=sG (aQ (q.drop (n+1)) (loG r) (hiG r)).1 (aQ (q.drop (n+1)) (loG r) (hiG r)).2 (loG r) (hiG r)
    have a:=uA.Add (cY (fy (aQ (q.drop (n+1)) (loG r) (hiG r)).1 (aQ (q.drop (n+1)) (loG r) (hiG r)).2 (loG r) (hiG r)) (fz (aQ (q.drop (n+1)) (loG r) (hiG r)).1 (aQ (q.drop (n+1)) (loG r) (hiG r)).2 (loG r) (hiG r))) (cY v v) (fO (by omega) (by omega)) (fO (by omega) (by omega))
    rw[fe hm,fg hm,fe Rat.le_refl,fg Rat.le_refl] at a
    rw[←es] at m
    refine mV.dw _ _ r s _ n (aE v) _ _ (by omega) (by unfold aw;omega) (by omega) m (by omega) (LW hv) (uA.pH v (by omega)) a (by unfold aw;omega) ?_
    have:=ih _ (by omega) (fun _=>by rw[hd]) (by omega)
    rwa[show ((n+1:Nat):Int)-1-1=(n:Int)-1 from by omega]
 have:=loop q.length (cY 0 0) (Nat.le_refl _) (by omega) (fun _=>rfl)
 refine mV.e0 _ r kJ (by unfold aw;omega) ?_
 rw[T4];exact this
namespace uA
theorem yc(a b:Rat)(h:a≤b)(h1:ht a≤68719476736)(h2:ht b≤68719476736)(he:dz a 0=dz b 0):Cp 203 [(cY a b).pv] (.aB [vI (dz a 0),vB true]):=by
 have hc:=clean (cY a b) (fO h1 h2)
 rw[fe h,fg h] at hc
 exact qN.e0 (cY a b) (cY a b) _ _ hc (QF.Sign a (by omega)) (QF.Sign b (by omega)) he
theorem H2(a b:Rat)(h:a≤b)(h1:ht a≤68719476736)(h2:ht b≤68719476736)(he:dz a 0≠dz b 0):Cp 203 [(cY a b).pv] (.aB [vI 0,vB false]):=by
 have hc:=clean (cY a b) (fO h1 h2)
 rw[fe h,fg h] at hc
 exact qN.e1 (cY a b) (cY a b) _ _ hc (QF.Sign a (by omega)) (QF.Sign b (by omega)) he
end uA
theorem Wd.NN{p:List Rat}(P:Wd p):kN (p.map aE)=0:=cE P.z (by have:=P.l;omega)
namespace hX
theorem Kq{p f:List Rat}{lo hi:Rat}(P:Wd p)(F:Sm f)(f0:f≠[])(hle:lo≤hi)(h1:ht lo≤1073741824)(h2:ht hi≤1073741824):Cp 201 [pq p,(bW f lo hi).pv] (.aB [vB (ua p f lo hi),.aq]):=by
 unfold ua
 by_cases h0:p.length=0
 ·rw[if_pos h0]
  exact bV.e0 _ (bW f lo hi) (by rw[bf];exact h0)
 ·rw[if_neg h0]
  have fi:=uZ P F f0
  have lg:(bF p f).length≤6:=by have:=((gR p f P.z F.z).2.len fi.zp F.z f0).2;have:=F.l;omega
  have hg:=PQ.Gcd (h:=2000) (b:=7) (c:=2080) (L:=9) (by omega) (by omega) (by omega) (by omega) (by omega) V2 p f P.z F.z P.l (by have:=F.l;omega) P.ch F.ch
  have c1:=QF.jN lo hi (by omega) (by omega)
  by_cases hl:(bF p f).length<2
  ·rw[if_pos hl]
   exact bV.e1 _ (bW f lo hi) _ (by rw[bf];exact h0) hg (by rw[bf];exact hl)
  ·rw[if_neg hl]
   by_cases he:lo=hi
   ·rw[if_pos he]
    have fl:=fi.wk
    have e1:=PQ.Eval (bF p f) lo fi.zp (by omega) fl h1 (by omega)
    have w1:=fN (bF p f) lo _ fl h1
    have hm:(bF p f).length*(2*1073741824+1)≤6*(2*1073741824+1):=Nat.mul_le_mul_right _ lg
    have:=bV.e2 _ (bW f lo hi) _ _ _ none _ (by rw[bf];exact h0) hg (by rw[bf];omega) c1 (dm.2 he) e1 (QF.Sign _ (by omega))
    rw[iG (q:=evalL (bF p f) lo=0) dm] at this
    exact this
   ·rw[if_neg he]
    have cn:=o7.Count fi lo hi hle h1 h2
    exact bV.e3 _ (bW f lo hi) _ _ _ none (by rw[bf];exact h0) hg (by rw[bf];omega) c1 (cR he) cn
theorem pR{p f:List Rat}{a w:Rat}{K:Nat}(P:Wd p)(F:Sm f)(hh:ht a+ht w+K/32+4≤536870912):∀(n k:Nat) (lo hi:Rat) (s:Int),n+k≤K+1→dH f lo hi→Dy a w k lo hi→yb p f n lo hi=some s→ek.aj (p.map aE) (bW f lo hi) (.aB [vI s,.aq])
 |0,_,_,_,_,_,_,_,h=>by cases h
 |n+1,k,lo,hi,s,hn,A,D,h=>by
  obtain⟨d1,d2⟩:=D.ht
  have hle:=A.le
  have IE:=uh.NM p (cY lo hi) (by have:=P.l;omega) P.NN (cL P.fl (by omega)) (fO (by omega) (by omega))
  rw[fe hle,fg hle] at IE
  have ho:=ow p lo hi
  obtain⟨t1,t2⟩:=nu (k:=2000) (m:=536870912) p lo hi P.fl (by omega) (by omega)
  have hm:p.length*(2000+536870912+1)≤9*(2000+536870912+1):=Nat.mul_le_mul_right _ P.l
  rw[yb] at h
  by_cases k1:0<(aQ p lo hi).1
  ·rw[if_pos k1] at h
   injection h with h
   subst h
   have e1:dz (aQ p lo hi).1 0=1:=fG k1
   have e2:dz (aQ p lo hi).2 0=1:=fG (by grind)
   have hs:=uA.yc _ _ ho (by omega) (by omega) (by rw[e1,e2])
   rw[e1] at hs
   exact ek.l10 _ (bW f lo hi) _ _ _ IE hs rfl (by omega)
  ·rw[if_neg k1] at h
   by_cases k2:(aQ p lo hi).2<0
   ·rw[if_pos k2] at h
    injection h with h
    subst h
    have e1:dz (aQ p lo hi).1 0 = -1:=gN (by grind)
    have e2:dz (aQ p lo hi).2 0 = -1:=gN k2
    have hs:=uA.yc _ _ ho (by omega) (by omega) (by rw[e1,e2])
    rw[e1] at hs
    exact ek.l10 _ (bW f lo hi) _ _ _ IE hs rfl (by omega)
   ·rw[if_neg k2] at h
    match n,h with
    |0,h=>cases h
    |n+1,h =>
     have ih:=pR P F hh (n+1) (k+1) _ _ s (by omega) (dD A).1 (D.half f) h
     have hv:=tz F A D (by omega)
     by_cases he:dz (aQ p lo hi).1 0=dz (aQ p lo hi).2 0
     ·have hs:=uA.yc _ _ ho (by omega) (by omega) he
      have h0:dz (aQ p lo hi).1 0=0:=by
       rcases cX (aQ p lo hi).1 0 with q|q|q
       ·rcases cX (aQ p lo hi).2 0 with r|r|r
        ·exact absurd r.1 k2
        ·omega
        ·omega
       ·exact q.2
       ·exact absurd q.1 k1
      exact ek.dw _ (bW f lo hi) _ _ _ _ IE hs rfl h0 hv ih
     ·have hs:=uA.H2 _ _ ho (by omega) (by omega) he
      exact ek.oK _ (bW f lo hi) _ _ _ _ IE hs rfl hv ih
theorem NO{p f:List Rat}{lo hi:Rat}{K:Nat}(P:Wd p)(F:Sm f)(A:dH f lo hi)(hh:ht lo+ht (hi-lo)+K/32+4≤536870912)(hs:¬Zr f lo hi p→∃s,yb p f (K+1) lo hi=some s) :
  ∃s,xv f lo hi p s∧(s=0∨s=1∨s = -1)∧Cp 121 [pq p,(bW f lo hi).pv] (.aB [vI s,.aq]):=by
 obtain⟨d1,d2⟩:=(Dy.start lo hi).ht
 have hv:=Kq P F A.f0 A.le (lo:=lo) (hi:=hi) (by omega) (by omega)
 by_cases hz:Zr f lo hi p
 ·refine⟨0,Or.inl ⟨rfl,hz⟩,Or.inl rfl,?_⟩
  exact ek.e0 _ (bW f lo hi) _ hv ((ub A P.z).2 hz)
 ·obtain⟨s,h⟩:=hs hz
  obtain⟨k1,k2⟩:=sJ _ _ _ s A h
  refine⟨s,k1,Or.inr k2,?_⟩
  have hb:ua p f lo hi=false:=by
   cases hb:ua p f lo hi with
   |false=>rfl
   |true=>exact absurd ((ub A P.z).1 hb) hz
  exact ek.e1 _ (bW f lo hi) _ hv hb (pR P F hh (K+1) 0 lo hi s (by omega) A (Dy.start lo hi) h)
theorem R2{f:List Rat}{lo hi:Rat}(O:Mg f lo hi)(hle:lo≤hi){x:ah}(h1:x.num.length≤1)(h2:x.den.length≤1):Cp 64 [(bW f lo hi).pv,x.pv] (.aB [vI (aK f lo hi x.val),.aq]):=by
 have b1:=O.h1
 have b2:=O.h2
 have hx:ht x.val≤1:=eQ h1 h2 (by omega)
 have fx:nR x:=⟨by omega,by omega⟩
 have c1:=QF.jN lo hi (by omega) (by omega)
 have c2:=qC.jN (aE lo) x (B6 (by omega)) fx
 have c3:=qC.jN x (aE lo) fx (B6 (by omega))
 have c4:=qC.jN x (aE hi) fx (B6 (by omega))
 rw[bS] at c2 c3 c4
 unfold aK
 by_cases he:lo=hi
 ·rw[if_pos he]
  exact cK.e0 (bW f lo hi) x _ _ c1 (dm.2 he) c2
 ·rw[if_neg he]
  by_cases k1:x.val≤lo
  ·rw[if_pos k1]
   exact cK.e1 (bW f lo hi) x _ _ c1 (cR he) c3 (by rcases cX x.val lo with k|k|k<;>first|omega|(exfalso;grind))
  ·rw[if_neg k1]
   have OU:0<dz x.val lo:=by rw[fG (by grind)];omega
   by_cases k2:hi≤x.val
   ·rw[if_pos k2]
    exact cK.e2 (bW f lo hi) x _ _ _ c1 (cR he) c3 OU c4 (by rcases cX x.val hi with k|k|k<;>first|omega|(exfalso;grind))
   ·rw[if_neg k2]
    have hl:=O.ln
    have e1:=uh.Eval (f.map aE) x (cE O.zf (by omega)) (db O.fl) ⟨by omega,by omega⟩
    rw[cO] at e1
    have e2:=PQ.Eval f lo O.zf (by omega) O.fl O.h1 (by omega)
    have w1:=fN f x.val _ O.fl (Nat.le_trans hx (by omega))
    have w2:=fN f lo _ O.fl O.h1
    have hm:f.length*(2*1073741824+1)≤10*(2*1073741824+1):=Nat.mul_le_mul_right _ hl
    exact cK.e3 (bW f lo hi) x _ _ _ _ _ _ _ c1 (cR he) c3 OU c4 (by rw[gN (by grind)];omega) e1 e2 (QF.Sign _ (by omega)) (QF.Sign _ (by omega)) (fh _ _)
end hX
end Go.Proofs.YtllmkadmohkbfaaGreatDoor.Sym
namespace Go.Proofs.YtllmkadmohkbfaaGreatDoor.Sym.Path
open Go Tryz
namespace cG
@[reducible] def fn:Func:=Tryz.f59
def bK:List gC:=focus [0,2,0,2,0,0,2,0,0] [.code (aA fn)]
def inv1(iC:List ah)(l:List Int)(uE:Nat):St:=⟨[(3,(.row 16 0 iC.length 3)),(6,(.pv (bq cJ l))),(7,(eI (l.length:Int))),(8,(eI (uE:Int)))],[(16,(.pure ((iC:List ah).map ah.cells).flatten))]⟩
@[reducible] def aj(iC:List ah)(l:List Int)(uE:Nat)(r:PV):Prop:=L bT fn bK (inv1 iC l uE) r
theorem e0 (l : List Int) {r : PV}  (hL : aj [] l 0 r) : Cp 59 [bq cJ l] r:=
 eG func59 87 [1] [.q,.h 0 .nil,.ju 3 16 3,.h 1 (iI (l.length:Int)),.aP [3,6,7,8]] (y1 (au cJ l)) hL
theorem l10(b:Rs)(l:List Int)(c:Nat)(v:Int)(of:ah){r:PV}(h1:c<l.length)(h2:l[c]? = some v)(h3:Cp 89 [vI v] of.pv)(h4:((b++[of]):Rs).length*56≤140737488355328)(h5:(c+1)<9223372036854775808)(hL:aj (b++[of]) l (c+1) r):aj b l c r:=
 lG 126 [1,3,1,6,1] [.a,.q,.t,.h 0 (.row c (cJ v)),.ba [.o,.o,(.pv of.pv),.o,(.app ((b++[of]):Rs).length (((b++[of]):Rs).map ah.cells).flatten)],.h 0 (iI (((c+1):Nat):Int)),.aP [3,6,7,8],.drop [15]] (y5 (ak h1) (bU cJ (Eq.refl (((c:Nat):Int):Int)) h2) h3 (gm bM (b:Rs) ([of]:Rs) 56 (Eq.refl (b:Rs).length) (Eq.refl ([of]:Rs).length) h4 rfl) (aR h5)) hL
theorem dw(b:Rs)(l:List Int)(c:Nat)(h1:l.length≤c):aj b l c (ae b):=
 lD 120 [1,3] [.a,.q,.f,.q,.iZ 2 ((b:Rs).map ah.cells)] (y2 (ax h1) (eR bM (b:Rs) (Eq.refl (b:Rs).length)))
end cG
namespace eV
theorem e2(of:Rs)(a:List az)(b:Rs)(c:List az)(d g i:Rs)(v v1:az)(j:Int)(k:af)(l:ah)(m n:ByteArray)(p:Rs)(s:Bool)(h1:Cp 59 [(bq cJ [(-2),0,1])] (ae of))(h2:Cp 21 [ae of] (.aB [bq az.cells a,.aq]))(h3:Cp 59 [(bq cJ [(-3),0,1])] (ae b))(h4:Cp 21 [ae b] (.aB [bq az.cells c,.aq]))(h5:Cp 59 [(bq cJ [2])] (ae d))(h6:Cp 59 [(bq cJ [1,1])] (ae g))(h7:Cp 38 [(⟨[d]⟩:cD).pv,ae g] (.aB [ae i,.aq]))(h8:a.length=2)(h9:c.length=2)(dM:a[1]? = some v)(gy:c[1]? = some v1)(j8:Cp 35 [v.pv,v1.pv] (.aB [vI j,.aq]))(nK:Cp 13 [v.pv,vI 1] (.aB [k.pv,.aq]))(l9:Cp 14 [v.pv,v1.pv] (.aB [l.pv,.aq]))(om:j=(-1))(sR:Cp 60 [k.pv] (.str m))(o5:m=(ByteArray.mk #[49,46,46,51,47,50]))(pT:Cp 61 [l.pv] (.str n))(oL:n=(ByteArray.mk #[51,47,50]))(xm:Cp 59 [(bq cJ [(-1),(-2),1])] (ae p))(BY:Cp 42 [ae i,ae p] (vB s)):Cp 12 [] (vB s):=
 eD func12 123 [3,1,1,3,1,1,3,1,3,3,1,1,1,1,1,1,1,1,1,1,1,1,1,1,1,1,3,3,1,3,1,3,3,1,1,1,1,1,1,1,1,1,1,1,1,1,1,1,1,1,1,1,3,1,1,1,1,1] [.q,.ba [(.ja 0 0 (([(-2),0,1]:List Int).map cJ)),(.pv (ae of)),(.pv (.aB [bq az.cells a,.aq]))],.ba [(.ja 0 0 (([(-3),0,1]:List Int).map cJ)),(.pv (ae b)),(.pv (.aB [bq az.cells c,.aq]))],.ba [(.ja 0 0 (([2]:List Int).map cJ)),(.pv (ae d)),(.ja 0 0 (([d]:List (Rs)).map (an ah.cells))),.o,(.ja 0 0 (([1,1]:List Int).map cJ)),(.pv (ae g)),(.pv (.aB [ae i,.aq]))],.ba [.o,.o,.o,.o,.o,.o,.o,.o,.o,.o,.o,.o,(iI (a.length:Int)),.o,.o,.o,.o,(iI (c.length:Int)),.o,(.dec false)],.f,dr 11 1 [.none,(.row 1 (az.cells v)),.none,.none,(.row 1 (az.cells v1)),.none,(.pv (.aB [vI j,.aq]))],.ba [.o,(.row 1 (az.cells v)),.o,(.pv (.aB [k.pv,.aq]))],dr 12 1 [.none,(.row 1 (az.cells v)),.none,.none,(.row 1 (az.cells v1)),.none,(.pv (.aB [l.pv,.aq]))],.ba [.o,.o,.o,.o,.o,.o,.o,.o,.o,.o,.o,.o,.o,.o,.o,.o,(.pv (.str m)),.o,(.dec true),.o,.o,(.pv (.str n)),.o,(.dec true),.o,.o,(.ja 0 0 (([(-1),(-2),1]:List Int).map cJ)),(.pv (ae p)),(.pv (vB s)),(.dec true)]] (cj (fP mS ([(-2),0,1]:List Int)) (cj h1 (cj h2 (cj (fP mS ([(-3),0,1]:List Int)) (cj h3 (cj h4 (cj (fP mS ([2]:List Int)) (cj h5 (cj (fP (og ah.cells) ([d]:List (Rs))) (cj (fP mS ([1,1]:List Int)) (cj h6 (cj h7 (cj (Eq.refl false) (cj (Eq.refl false) (cj (Eq.refl false) (cj (Eq.refl false) (cj (Eq.refl false) (cj (Eq.refl false) (Pr (au az.cells a) (Eq.refl false) (gj h8) (gj h8) (au az.cells c) (gj h8) (gj h8) (gj h9) (bU az.cells (Eq.refl (1:Int)) dM) (bU az.cells (Eq.refl (1:Int)) gy) j8 (bU az.cells (Eq.refl (1:Int)) dM) nK (bU az.cells (Eq.refl (1:Int)) dM) (bU az.cells (Eq.refl (1:Int)) gy) l9 (Eq.refl true) (Eq.refl true) (Eq.refl true) (Eq.refl true) (Eq.refl true) (Eq.refl true) (aF om) (aF om) sR (aF om) (aF om) (ia o5) (ia o5) pT (ia o5) (ia o5) (ia oL) (ia oL) (fP mS ([(-1),(-2),1]:List Int)) (ia oL) xm (ia oL) BY (ia oL))))))))))))))))))))
end eV
namespace bg
@[reducible] def fn:Func:=Tryz.f20
def bK:List gC:=focus [0,2,0,0,2,1,2,0,0,2,0,0] [.code (aA fn)]
def inv1(l:List ah)(vr:Nat):St:=⟨[(8,(.pv (ae l))),(9,(eI (l.length:Int))),(10,(eI (vr:Int)))],[]⟩
@[reducible] def aj(l:List ah)(vr:Nat)(r:PV):Prop:=L bT fn bK (inv1 l vr) r
theorem e0(l:Rs)(h1:6<l.length):Cp 20 [ae l] (vB false):=
 eD func20 84 [1,1] [.q,.h 1 (iI (l.length:Int)),.t,.q] (y2 (au ah.cells l) (ak h1))
theorem e1(l:Rs){r:PV}(h1:l.length≤6)(hL:aj l 0 r):Cp 20 [ae l] r:=
 eG func20 96 [1,1,1] [.q,.h 1 (iI (l.length:Int)),.f,.h 1 (iI (l.length:Int)),.aP [8,9,10]] (y3 (au ah.cells l) (ax h1) (au ah.cells l)) hL
theorem l10(l:Rs)(b:Nat)(v:ah)(c:Bool)(h1:b<l.length)(h2:l[b]? = some v)(h3:Cp 74 [v.pv,(vW (1000:UInt32)),(vW (1000:UInt32))] (vB c))(h4:c=false):aj l b (vB false):=
 lD 141 [1,3,1,1] [.a,.q,.t,.h 0 (.row b (ah.cells v)),.h 1 (.pv (vB c)),.t,.q] (y4 (ak h1) (bU ah.cells (Eq.refl (((b:Nat):Int):Int)) h2) h3 (bB h4))
theorem dw(l:Rs)(b:Nat)(v:ah)(c:Bool){r:PV}(h1:b<l.length)(h2:l[b]? = some v)(h3:Cp 74 [v.pv,(vW (1000:UInt32)),(vW (1000:UInt32))] (vB c))(h4:c=true)(h5:(b+1)<9223372036854775808)(hL:aj l (b+1) r):aj l b r:=
 lG 144 [1,3,1,1,1] [.a,.q,.t,.h 0 (.row b (ah.cells v)),.h 1 (.pv (vB c)),.f,.h 0 (iI (((b+1):Nat):Int)),.aP [8,9,10],.drop [4]] (y5 (ak h1) (bU ah.cells (Eq.refl (((b:Nat):Int):Int)) h2) h3 (ay h4) (aR h5)) hL
theorem ji(l:Rs)(b:Nat)(h1:l.length≤b):aj l b (vB true):=
 lD 129 [1] [.a,.q,.f,.q] (y1 (ax h1))
end bg
namespace bh
@[reducible] def fn:Func:=Tryz.f11
def bK:List gC:=focus [0,2,0,0,2,0,0] [.code (aA fn)]
def inv1(l:List az)(BX:Nat):St:=⟨[(5,(.pv (bq az.cells l))),(6,(eI (l.length:Int))),(7,(eI (BX:Int)))],[]⟩
@[reducible] def aj(l:List az)(BX:Nat)(r:PV):Prop:=L bT fn bK (inv1 l BX) r
theorem e0 (l : List az) {r : PV}  (hL : aj l 0 r) : Cp 11 [bq az.cells l] r:=
 eG func11 81 [1] [.q,.h 1 (iI (l.length:Int)),.aP [5,6,7]] (y1 (au az.cells l)) hL
theorem l10(l:List az)(b:Nat)(v:az)(c:Bool)(h1:b<l.length)(h2:l[b]? = some v)(h3:Cp 20 [ae v.p] (vB c))(h4:c=false):aj l b (vB false):=
 lD 126 [1,3,1,1,1,1,1,1,1,1,1,1,1] [.a,.q,.t,.h 0 (.row b (az.cells v)),.ba [.o,.o,(.pv (vB c)),.o,.o,.skip,.skip,.skip,.skip,.skip,.skip,.skip,.skip,.skip,(.dec true)],.a,.q] (Fz (ak h1) (bU az.cells (Eq.refl (((b:Nat):Int):Int)) h2) h3 (bB h4) (bB h4) (bB h4) (bB h4) (bB h4) (bB h4) (bB h4) (bB h4) (bB h4) (bB h4))
theorem dw(l:List az)(b:Nat)(v:az)(c d:Bool)(h1:b<l.length)(h2:l[b]? = some v)(h3:Cp 20 [ae v.p] (vB c))(h4:c=true)(h5:Cp 20 [(ae [v.rV.lo,v.rV.hi])] (vB d))(h6:d=false):aj l b (vB false):=
 lD 126 [1,3,1,1,1,1,1,1,1,1,3,1,1,1,1,1] [.a,.q,.t,.h 0 (.row b (az.cells v)),.ba [.o,.o,(.pv (vB c)),.o,.o,.o,.o,.o,.o,.o,.o,(.ja 0 0 (([v.rV.lo,v.rV.hi]:Rs).map ah.cells)),(.pv (vB d)),.o,(.dec false)],.t,.q] (Cz (ak h1) (bU az.cells (Eq.refl (((b:Nat):Int):Int)) h2) h3 (ay h4) (ay h4) (ay h4) (ay h4) (ay h4) (ay h4) (ay h4) (fP bM ([v.rV.lo,v.rV.hi]:Rs)) (ay h4) h5 (ay h4) (ay h4) (bB h6))
theorem ji(l:List az)(b:Nat)(v:az)(c d:Bool){r:PV}(h1:b<l.length)(h2:l[b]? = some v)(h3:Cp 20 [ae v.p] (vB c))(h4:c=true)(h5:Cp 20 [(ae [v.rV.lo,v.rV.hi])] (vB d))(h6:d=true)(h7:(b+1)<9223372036854775808)(hL:aj l (b+1) r):aj l b r:=
 lG 129 [1,3,1,1,1,1,1,1,1,1,3,1,1,1,1,1,1] [.a,.q,.t,.h 0 (.row b (az.cells v)),.ba [.o,.o,(.pv (vB c)),.o,.o,.o,.o,.o,.o,.o,.o,(.ja 0 0 (([v.rV.lo,v.rV.hi]:Rs).map ah.cells)),(.pv (vB d)),.o,(.dec false)],.f,.h 0 (iI (((b+1):Nat):Int)),.aP [5,6,7],.drop [4]] (Pq (ak h1) (bU az.cells (Eq.refl (((b:Nat):Int):Int)) h2) h3 (ay h4) (ay h4) (ay h4) (ay h4) (ay h4) (ay h4) (ay h4) (fP bM ([v.rV.lo,v.rV.hi]:Rs)) (ay h4) h5 (ay h4) (ay h4) (ay h6) (aR h7)) hL
theorem oK(l:List az)(b:Nat)(h1:l.length≤b):aj l b (vB true):=
 lD 114 [1] [.a,.q,.f,.q] (y1 (ax h1))
end bh
namespace bl
theorem e0(x:ah)(a b:UInt32)(h1:x.num.length<2)(h2:x.den.length<2)(h3:x.num.length=0)(h4:x.den.length=0):Cp 74 [x.pv,vW a,vW b] (vB true):=
 eD func74 72 [1,1,1,1,1,1,1,1,1,1,1,1,1,1,1,1,1,1,1,1,1,1,1,1,1,1,1,1,1,1,1,1,1,1,1,1] [.q,.ba [.o,.o,(iI (x.num.length:Int)),.o,.o,.o,.o,(iI (x.den.length:Int)),.o,(.dec true),.o,.o,.o,(iI (x.num.length:Int)),.o,.o,.skip,.skip,.skip,.skip,.skip,.skip,(.dec true),(.dec true),.o,.o,.o,(iI (x.den.length:Int)),.o,.o,.skip,.skip,.skip,.skip,.skip,.skip,(.dec true)]] (Xo (au ai x.num) (ak h1) (ak h1) (ak h1) (au ai x.den) (ak h1) (ak h1) (ak h2) (ak h2) (ak h2) (au ai x.num) (ak h2) (ak h2) (aL h3) (aL h3) (aL h3) (aL h3) (aL h3) (aL h3) (ak h2) (aL h3) (ak h2) (Eq.refl true) (Eq.refl true) (Eq.refl true) (au ai x.den) (Eq.refl true) (Eq.refl true) (aL h4) (aL h4) (aL h4) (aL h4) (aL h4) (aL h4) (Eq.refl true) (aL h4))
theorem e1(x:ah)(a b v:UInt32)(h1:x.num.length<2)(h2:x.den.length<2)(h3:x.num.length=0)(h4:x.den.length≠0)(h5:x.den[0]? = some v):Cp 74 [x.pv,vW a,vW b] (vB (decide ((v.toNat:Int)≤(b.toNat:Int)))):=
 eD func74 72 [1,1,1,1,1,1,1,1,1,1,1,1,1,1,1,1,1,1,1,1,1,1,1,1,1,1,1,1,1,1,1,3,1,1,1,1,1] [.q,.ba [.o,.o,(iI (x.num.length:Int)),.o,.o,.o,.o,(iI (x.den.length:Int)),.o,(.dec true),.o,.o,.o,(iI (x.num.length:Int)),.o,.o,.skip,.skip,.skip,.skip,.skip,.skip,(.dec true),(.dec true),.o,.o,.o,(iI (x.den.length:Int)),.o,.o,.o,.o,(.row 0 (ai v)),.o,.o,.o,(.dec false)]] (Xp (au ai x.num) (ak h1) (ak h1) (ak h1) (au ai x.den) (ak h1) (ak h1) (ak h2) (ak h2) (ak h2) (au ai x.num) (ak h2) (ak h2) (aL h3) (aL h3) (aL h3) (aL h3) (aL h3) (aL h3) (ak h2) (aL h3) (ak h2) (Eq.refl true) (Eq.refl true) (Eq.refl true) (au ai x.den) (Eq.refl true) (Eq.refl true) (aC h4) (aC h4) (aC h4) (bU ai (Eq.refl (0:Int)) h5) (aC h4) (aC h4) (aC h4) (Eq.refl true) (aC h4))
theorem e2(x:ah)(a b v:UInt32)(h1:x.num.length<2)(h2:x.den.length<2)(h3:x.num.length≠0)(h4:x.num[0]? = some v)(h5:v.toNat≤a.toNat)(h6:x.den.length=0):Cp 74 [x.pv,vW a,vW b] (vB true):=
 eD func74 72 [1,1,1,1,1,1,1,1,1,1,1,1,1,1,1,1,3,1,1,1,1,1,1,1,1,1,1,1,1,1,1,1,1,1,1,1,1,1] [.q,.ba [.o,.o,(iI (x.num.length:Int)),.o,.o,.o,.o,(iI (x.den.length:Int)),.o,(.dec true),.o,.o,.o,(iI (x.num.length:Int)),.o,.o,.o,.o,(.row 0 (ai v)),.o,.o,.o,(.dec false),(.dec true),.o,.o,.o,(iI (x.den.length:Int)),.o,.o,.skip,.skip,.skip,.skip,.skip,.skip,(.dec true),(.dec true)]] (Yk (au ai x.num) (ak h1) (ak h1) (ak h1) (au ai x.den) (ak h1) (ak h1) (ak h2) (ak h2) (ak h2) (au ai x.num) (ak h2) (ak h2) (aC h3) (aC h3) (aC h3) (bU ai (Eq.refl (0:Int)) h4) (aC h3) (aC h3) (aC h3) (ak h2) (aC h3) (ak h2) (cP h5) (cP h5) (cP h5) (au ai x.den) (cP h5) (cP h5) (aL h6) (aL h6) (aL h6) (aL h6) (aL h6) (aL h6) (cP h5) (aL h6) (cP h5))
theorem e3(x:ah)(a b v v1:UInt32)(h1:x.num.length<2)(h2:x.den.length<2)(h3:x.num.length≠0)(h4:x.num[0]? = some v)(h5:v.toNat≤a.toNat)(h6:x.den.length≠0)(h7:x.den[0]? = some v1):Cp 74 [x.pv,vW a,vW b] (vB (decide ((v1.toNat:Int)≤(b.toNat:Int)))):=
 eD func74 72 [1,1,1,1,1,1,1,1,1,1,1,1,1,1,1,1,3,1,1,1,1,1,1,1,1,1,1,1,1,1,1,1,3,1,1,1,1,1,1] [.q,.ba [.o,.o,(iI (x.num.length:Int)),.o,.o,.o,.o,(iI (x.den.length:Int)),.o,(.dec true),.o,.o,.o,(iI (x.num.length:Int)),.o,.o,.o,.o,(.row 0 (ai v)),.o,.o,.o,(.dec false),(.dec true),.o,.o,.o,(iI (x.den.length:Int)),.o,.o,.o,.o,(.row 0 (ai v1)),.o,.o,.o,(.dec false),(.dec true)]] (Yl (au ai x.num) (ak h1) (ak h1) (ak h1) (au ai x.den) (ak h1) (ak h1) (ak h2) (ak h2) (ak h2) (au ai x.num) (ak h2) (ak h2) (aC h3) (aC h3) (aC h3) (bU ai (Eq.refl (0:Int)) h4) (aC h3) (aC h3) (aC h3) (ak h2) (aC h3) (ak h2) (cP h5) (cP h5) (cP h5) (au ai x.den) (cP h5) (cP h5) (aC h6) (aC h6) (aC h6) (bU ai (Eq.refl (0:Int)) h7) (aC h6) (aC h6) (aC h6) (cP h5) (aC h6) (cP h5))
theorem e4(x:ah)(a b v:UInt32)(h1:x.num.length<2)(h2:x.den.length<2)(h3:x.num.length≠0)(h4:x.num[0]? = some v)(h5:a.toNat<v.toNat):Cp 74 [x.pv,vW a,vW b] (vB false):=
 eD func74 72 [1,1,1,1,1,1,1,1,1,1,1,1,1,1,1,1,3,1,1,1,1,1,1,1,1,1,1,1,1,1] [.q,.ba [.o,.o,(iI (x.num.length:Int)),.o,.o,.o,.o,(iI (x.den.length:Int)),.o,(.dec true),.o,.o,.o,(iI (x.num.length:Int)),.o,.o,.o,.o,(.row 0 (ai v)),.o,.o,.o,(.dec false),(.dec true),.o,.skip,.skip,.skip,.skip,.skip,.skip,.skip,.skip,.skip,.skip,.skip,.skip,(.dec false)]] (Xn (au ai x.num) (ak h1) (ak h1) (ak h1) (au ai x.den) (ak h1) (ak h1) (ak h2) (ak h2) (ak h2) (au ai x.num) (ak h2) (ak h2) (aC h3) (aC h3) (aC h3) (bU ai (Eq.refl (0:Int)) h4) (aC h3) (aC h3) (aC h3) (ak h2) (aC h3) (ak h2) (cN h5) (cN h5) (cN h5) (cN h5) (cN h5) (cN h5) (cN h5))
theorem e5(x:ah)(a b:UInt32)(h1:x.num.length<2)(h2:2≤x.den.length):Cp 74 [x.pv,vW a,vW b] (vB false):=
 eD func74 72 [1,1,1,1,1,1,1,1,1,1,1,1,1,1,1,1,1,1,1,1] [.q,.ba [.o,.o,(iI (x.num.length:Int)),.o,.o,.o,.o,(iI (x.den.length:Int)),.o,(.dec true),.o,.skip,.skip,.skip,.skip,.skip,.skip,.skip,.skip,.skip,.skip,.skip,.skip,(.dec false),.o,.skip,.skip,.skip,.skip,.skip,.skip,.skip,.skip,.skip,.skip,.skip,.skip]] (S4 (au ai x.num) (ak h1) (ak h1) (ak h1) (au ai x.den) (ak h1) (ak h1) (ax h2) (ax h2) (ax h2) (ax h2) (ax h2) (ax h2) (ax h2) (Eq.refl false) (Eq.refl false) (Eq.refl false) (Eq.refl false) (Eq.refl false) (Eq.refl false))
theorem e6(x:ah)(a b:UInt32)(h1:2≤x.num.length):Cp 74 [x.pv,vW a,vW b] (vB false):=
 eD func74 72 [1,1,1,1,1,1,1,1,1,1,1,1,1,1,1,1,1,1] [.q,.ba [.o,.o,(iI (x.num.length:Int)),.o,.o,.skip,.skip,.skip,.skip,(.dec false),.o,.skip,.skip,.skip,.skip,.skip,.skip,.skip,.skip,.skip,.skip,.skip,.skip,.o,.o,.skip,.skip,.skip,.skip,.skip,.skip,.skip,.skip,.skip,.skip,.skip,.skip]] (PU (au ai x.num) (ax h1) (ax h1) (ax h1) (ax h1) (ax h1) (Eq.refl false) (Eq.refl false) (Eq.refl false) (Eq.refl false) (Eq.refl false) (Eq.refl false) (Eq.refl false) (Eq.refl false) (Eq.refl false) (Eq.refl false) (Eq.refl false) (Eq.refl false))
end bl
namespace il
theorem e0(a b:az)(p:Rs)(c d:Bool)(h1:Cp 11 [(bq az.cells [a,b])] (vB c))(h2:c=false)(h3:Cp 12 [] (vB d)):Cp 9 [a.pv,b.pv,ae p] (vB d):=
 eD func9 84 [3,1,1,1,1,1,1,1,1] [.q,.ba [.o,.o,(.ja 0 0 (([a,b]:List az).map az.cells)),(.pv (vB c)),.o,.o,.skip,.skip,.skip,(.dec true),.o,.skip,.skip],.a,.h 0 (.pv (vB d))] (y9 (fP fY ([a,b]:List az)) h1 (bB h2) (bB h2) (bB h2) (bB h2) (Eq.refl true) (Eq.refl true) h3)
theorem e1(a b:az)(p:Rs)(c d g:Bool)(h1:Cp 11 [(bq az.cells [a,b])] (vB c))(h2:c=true)(h3:Cp 20 [ae p] (vB d))(h4:d=false)(h5:Cp 12 [] (vB g)):Cp 9 [a.pv,b.pv,ae p] (vB g):=
 eD func9 84 [3,1,1,1,1,1,1,1,1,1,1] [.q,.ba [.o,.o,(.ja 0 0 (([a,b]:List az).map az.cells)),(.pv (vB c)),.o,.o,.o,(.pv (vB d)),.o,(.dec false),.o,.skip,.skip,(.dec true)],.a,.h 0 (.pv (vB g))] (FO (fP fY ([a,b]:List az)) h1 (ay h2) (ay h2) h3 (ay h2) (ay h2) (bB h4) (bB h4) (bB h4) h5)
theorem e3(a b:az)(p:Rs)(c d g:Bool)(i:Int)(j:Option Int)(k:Int)(l:Option Int)(m:Int)(n:Option Int)(s t u v w x y z aa:Int)(h1:Cp 11 [(bq az.cells [a,b])] (vB c))(h2:c=true)(h3:Cp 20 [ae p] (vB d))(h4:d=true)(h5:Cp 12 [] (vB g))(h6:g=true)(h7:Cp 35 [a.pv,b.pv] (.aB [vI i,bC j]))(h8:Cp 30 [a.pv,b.rV.lo.pv] (.aB [vI k,bC l]))(h9:Cp 52 [ae p,a.pv] (.aB [vI m,bC n]))(dM:Cp 53 [a.pv,b.pv] (.aB [vI s,vI t]))(gy:Cp 54 [a.pv,b.rV.lo.pv] (.aB [vI u,vI v]))(j8:Cp 55 [ae p,a.pv] (.aB [vI w,vI x]))(nK:Cp 17 [bC j] (vI y))(l9:y=t)(om:i=s)(sR:Cp 17 [bC l] (vI z))(o5:z=v)(pT:k=u)(oL:Cp 17 [bC n] (vI aa))(xm:aa=x):Cp 9 [a.pv,b.pv,ae p] (vB (m==w)):=
 eD func9 123 [3,1,1,1,1,1,1,1,1,1,1,1,1,1,1,1,1,1,1,1,1,1,1,1,1,1,1,1,1,1,1,1,1,1,1,1,1,1,1,1,1,1,1] [.q,.ba [.o,.o,(.ja 0 0 (([a,b]:List az).map az.cells)),(.pv (vB c)),.o,.o,.o,(.pv (vB d)),.o,(.dec false),.o,(.pv (vB g)),.o,(.dec false)],.f,.h 2 (.pv (.aB [vI i,bC j])),.h 4 (.pv (.aB [vI k,bC l])),.h 2 (.pv (.aB [vI m,bC n])),.h 2 (.pv (.aB [vI s,vI t])),.h 4 (.pv (.aB [vI u,vI v])),.h 2 (.pv (.aB [vI w,vI x])),.ba [.o,(.pv (vI y)),.o,.o,.o,.o,.o,.o,(.dec true),.o,.o,(.pv (vI z)),.o,.o,(.dec true),.o,.o,.o,.o,(.dec true),.o,.o,(.pv (vI aa)),.o,.o,(.dec true),.o,.o,.o,.o,(.dec true)]] (cj (fP fY ([a,b]:List az)) (cj h1 (cj (ay h2) (Pr (ay h2) h3 (ay h2) (ay h2) (ay h4) h5 (ay h4) (ay h4) (ay h6) h7 h8 h9 dM gy j8 nK (aF l9) (aF l9) (aF l9) (aF l9) (aF om) (aF om) sR (aF om) (aF om) (aF om) (aF o5) (aF o5) (aF o5) (aF o5) (aF pT) (aF pT) oL (aF pT) (aF pT) (aF pT) (aF xm) (aF xm) (aF xm) (aF xm)))))
end il
end Go.Proofs.YtllmkadmohkbfaaGreatDoor.Sym.Path
namespace Go.Proofs.YtllmkadmohkbfaaGreatDoor.Sym
open Go Path dE
namespace zI
theorem of(l:List Int)(h:∀n∈l,aw n)(hl:l.length≤1000):Cp 59 [bq cJ l] (pq (l.map (fun n=>((n:Int):Rat)))):=by
 have loop:∀d t:Nat,l.length-t=d→t≤l.length→cG.aj (((l.take t).map (fun n=>((n:Int):Rat))).map aE) l t (pq (l.map (fun n=>((n:Int):Rat)))):=by
  intro d
  induction d with
  |zero =>
   intro t hd ht
   have:t=l.length:=by omega
   subst this
   rw[List.take_length]
   exact cG.dw _ _ _ (Nat.le_refl _)
  |succ d ih =>
   intro t hd ht
   obtain⟨v,hv⟩:∃v,l[t]? = some v:=⟨_,List.getElem?_eq_getElem (by omega)⟩
   have:=ih (t+1) (by omega) (by omega)
   rw[List.take_add_one,hv] at this
   refine cG.l10 _ l t v (aE ((v:Int):Rat)) (by omega) hv (tj.Of v (h v (List.mem_of_getElem? hv))) ?_ (by omega) ?_
   ·rw[List.length_append,List.length_map,List.length_map,List.length_take,List.length_singleton];omega
   ·simpa using this
 exact cG.e0 l (loop _ 0 rfl (by omega))
def Lo(a:ah):Prop:=a.num.length≤1∧a.den.length≤1∧nat a.num≤1000∧nat a.den≤1000
theorem sC{l:Words}{v:UInt32}(hl:l.length<2)(h:l[0]? = some v):nat l=v.toNat:=by
 match l,hl,h with
 |[w],_,h=>simp at h;subst h;simp[nat]
theorem lX{l:Words}(h:l.length=0):nat l=0:=by rw[List.eq_nil_of_length_eq_zero h];rfl
theorem low(x:ah):∃b,Cp 74 [x.pv,vW 1000,vW 1000] (vB b)∧(b=true→Lo x):=by
 have e:(1000:UInt32).toNat=1000:=rfl
 by_cases h1:x.num.length<2
 ·by_cases h2:x.den.length<2
  ·have den:nat x.num≤1000→∀v u:UInt32,x.den[0]? = some u→decide (u.toNat≤(1000:UInt32).toNat)=true→Lo x:=fun h v u hu hd=>⟨by omega,by omega,h,by rw[sC h2 hu];have:=of_decide_eq_true hd;omega⟩
   by_cases h3:x.num.length=0
   ·have hn:nat x.num≤1000:=by rw[lX h3];omega
    by_cases h4:x.den.length=0
    ·exact⟨_,bl.e0 x _ _ h1 h2 h3 h4,fun _=>⟨by omega,by omega,hn,by rw[lX h4];omega⟩⟩
    ·obtain⟨v,hv⟩:∃v,x.den[0]? = some v:=⟨_,List.getElem?_eq_getElem (by omega)⟩
     exact⟨_,bl.e1 x _ _ v h1 h2 h3 h4 hv,fun h=>den hn v v hv (by have h':=of_decide_eq_true h;exact decide_eq_true (by omega))⟩
   ·obtain⟨v,hv⟩:∃v,x.num[0]? = some v:=⟨_,List.getElem?_eq_getElem (by omega)⟩
    by_cases h5:v.toNat≤(1000:UInt32).toNat
    ·have hn:nat x.num≤1000:=by rw[sC h1 hv];omega
     by_cases h4:x.den.length=0
     ·exact⟨_,bl.e2 x _ _ v h1 h2 h3 hv h5 h4,fun _=>⟨by omega,by omega,hn,by rw[lX h4];omega⟩⟩
     ·obtain⟨u,hu⟩:∃v,x.den[0]? = some v:=⟨_,List.getElem?_eq_getElem (by omega)⟩
      exact⟨_,bl.e3 x _ _ v u h1 h2 h3 hv h5 h4 hu,fun h=>den hn v u hu (by have h':=of_decide_eq_true h;exact decide_eq_true (by omega))⟩
    ·exact⟨_,bl.e4 x _ _ v h1 h2 h3 hv (by omega),fun h=>by cases h⟩
  ·exact⟨_,bl.e5 x _ _ h1 (by omega),fun h=>by cases h⟩
 ·exact⟨_,bl.e6 x _ _ (by omega),fun h=>by cases h⟩
theorem short(l:List ah):∃b,Cp 20 [ae l] (vB b)∧(b=true→l.length≤6∧∀a∈l,Lo a):=by
 by_cases h6:l.length≤6
 ·have loop:∀d t:Nat,l.length-t=d→∃b,bg.aj l t (vB b)∧(b=true→∀a∈l.drop t,Lo a):=by
   intro d
   induction d with
   |zero=>intro t hd;exact⟨true,bg.ji l t (by omega),fun _=>by rw[List.drop_of_length_le (by omega)];intro a ha;cases ha⟩
   |succ d ih =>
    intro t hd
    obtain⟨v,hv⟩:∃v,l[t]? = some v:=⟨_,List.getElem?_eq_getElem (by omega)⟩
    obtain⟨b1,h1,h2⟩:=low v
    cases b1 with
    |false=>exact⟨false,bg.l10 l t v _ (by omega) hv h1 rfl,fun h=>by cases h⟩
    |true =>
     obtain⟨b,g1,g2⟩:=ih (t+1) (by omega)
     refine⟨b,bg.dw l t v _ (by omega) hv h1 rfl (by omega) g1,fun h a ha=>?_⟩
     rw[drop_cons hv] at ha
     rcases List.mem_cons.1 ha with rfl|ha
     ·exact h2 rfl
     ·exact g2 h a ha
  obtain⟨b,h1,h2⟩:=loop _ 0 rfl
  rw[List.drop_zero] at h2
  exact⟨b,bg.e1 l h6 h1,fun h=>⟨h6,h2 h⟩⟩
 ·exact⟨false,bg.e0 l (by omega),fun h=>by cases h⟩
theorem small(l:List az)(hl:l.length≤1000):∃b,Cp 11 [bq az.cells l] (vB b)∧(b=true→∀a∈l,Sh a∧(∀x∈a.p,Lo x)∧Lo a.rV.lo∧Lo a.rV.hi):=by
 have loop:∀d t:Nat,l.length-t=d→∃b,bh.aj l t (vB b)∧(b=true→∀a∈l.drop t,Sh a∧(∀x∈a.p,Lo x)∧Lo a.rV.lo∧Lo a.rV.hi):=by
  intro d
  induction d with
  |zero=>intro t hd;exact⟨true,bh.oK l t (by omega),fun _=>by rw[List.drop_of_length_le (by omega)];intro a ha;cases ha⟩
  |succ d ih =>
   intro t hd
   obtain⟨v,hv⟩:∃v,l[t]? = some v:=⟨_,List.getElem?_eq_getElem (by omega)⟩
   obtain⟨b1,h1,h2⟩:=short v.p
   cases b1 with
   |false=>exact⟨false,bh.l10 l t v _ (by omega) hv h1 rfl,fun h=>by cases h⟩
   |true =>
    obtain⟨b2,k1,k2⟩:=short [v.rV.lo,v.rV.hi]
    cases b2 with
    |false=>exact⟨false,bh.dw l t v _ _ (by omega) hv h1 rfl k1 rfl,fun h=>by cases h⟩
    |true =>
     obtain⟨b,g1,g2⟩:=ih (t+1) (by omega)
     refine⟨b,bh.ji l t v _ _ (by omega) hv h1 rfl k1 rfl (by omega) g1,fun h a ha=>?_⟩
     rw[drop_cons hv] at ha
     rcases List.mem_cons.1 ha with rfl|ha
     ·obtain⟨p1,p2⟩:=h2 rfl
      obtain⟨q1,q2⟩:=k2 rfl
      have lo:=q2 a.rV.lo (by simp)
      have hi:=q2 a.rV.hi (by simp)
      exact⟨⟨p1,fun x hx=>⟨(p2 x hx).1,(p2 x hx).2.1⟩,⟨lo.1,lo.2.1⟩,⟨hi.1,hi.2.1⟩⟩,p2,lo,hi⟩
     ·exact g2 h a ha
 obtain⟨b,h1,h2⟩:=loop _ 0 rfl
 rw[List.drop_zero] at h2
 exact⟨b,bh.e0 l h1,h2⟩
end zI
def Nv(v:Rat):az:=bW [-v,1] v v
namespace Cb
theorem yc(a b:Rat)(h:a≤b)(h1:ht a≤68719476736)(h2:ht b≤68719476736)(he:dz a 0=dz b 0):Cp 210 [(cY a b).pv] (.aB [vI (dz a 0),vB true]):=
 lO.e1 (cY a b) (cY a b) _ _ (uN.given a b h1 h2 h) (QR.Sign a (by omega)) (QR.Sign b (by omega)) he
theorem H2(a b:Rat)(h:a≤b)(h1:ht a≤68719476736)(h2:ht b≤68719476736)(he:dz a 0≠dz b 0):Cp 210 [(cY a b).pv] (.aB [vI 0,vB false]):=
 lO.e0 (cY a b) (cY a b) _ _ (uN.given a b h1 h2 h) (QR.Sign a (by omega)) (QR.Sign b (by omega)) he
end Cb
theorem Cv{f p:List Rat}{lo hi:Rat}(A:dH f lo hi)(h1:¬0<(aQ p lo hi).1)(h2:¬(aQ p lo hi).2<0)(he:dz (aQ p lo hi).1 0=dz (aQ p lo hi).2 0):Zr f lo hi p:=by
 have z1:(aQ p lo hi).1=0∧(aQ p lo hi).2=0:=by
  rcases cX (aQ p lo hi).1 0 with q|q|q<;>rcases cX (aQ p lo hi).2 0 with r|r|r
  ·exact absurd r.1 h2
  ·omega
  ·omega
  ·omega
  ·exact⟨q.1,r.1⟩
  ·omega
  ·exact absurd q.1 h1
  ·exact absurd q.1 h1
  ·exact absurd q.1 h1
 have hz:∀x,lo≤x→x≤hi→evalL p x=0:=fun x a b=>by
  obtain⟨o1,o2⟩:=Ov.val a b p
  rw[z1.1] at o1
  rw[z1.2] at o2
  grind
 by_cases bH:lo=hi
 ·exact(A.ma (qT bH)).2 (hz lo Rat.le_refl A.le)
 ·have hl:lo<hi:=by have:=A.le;grind
  intro u v hu hv ha
  obtain⟨a,b,a1,b1,a2,a3,b2,b3⟩:=A.meet hu hv (A.low hl Rat.le_refl) (A.high hl Rat.le_refl)
  have dK:=A.qo a1 b1
  exact ha.ne a2 (by grind) (hz a a3 (by grind))
namespace x9
theorem Of{v:Rat}(h:ht v≤68719476736):Cp 27 [(aE v).pv] (Nv v).pv:=
 iH.e0 (aE v) (aE v) (aE (-v)) (aE 1) (QR.mG v h) (QR.Neg v h) (tj.Of 1 ⟨by decide,by decide⟩)
theorem XU{x:ah}(h1:x.num.length≤1)(h2:x.den.length≤1):Cp 27 [x.pv] (Nv x.val).pv:=by
 have hx:ht x.val≤1:=eQ h1 h2 (by omega)
 have ha:=tj.Add x (⟨false,[],[]⟩:ah) ⟨by omega,by omega⟩ ⟨by decide,by decide⟩
 rw[show (⟨false,[],[]⟩:ah).val=0 from rfl,Rat.add_zero] at ha
 exact iH.e0 x (aE x.val) (aE (-x.val)) (aE 1) ha (QR.Neg _ (by omega)) (tj.Of 1 ⟨by decide,by decide⟩)
theorem half{f:List Rat}{lo hi:Rat}(F:Sm f)(A:dH f lo hi)(h1:ht lo≤1073741824)(h2:ht hi≤1073741824)(h3:ht (midQ lo hi)≤1073741824):Cp 142 [(bW f lo hi).pv] (bW f (c9 f lo hi).1 (c9 f lo hi).2).pv:=by
 have hle:=A.le
 have cm:=uN.FE lo hi h1 h2 hle
 change Cp 226 [(cY lo hi).pv] (aE (midQ lo hi)).pv at cm
 obtain⟨a1,a2⟩:=uN.Mf f (midQ lo hi) (cL F.f (by omega)) (by have:=F.l;omega) h3
 obtain⟨b1,b2⟩:=uN.Mf f lo (cL F.f (by omega)) (by have:=F.l;omega) h1
 have hm:=qj lo hi
 unfold c9
 by_cases he:lo=hi
 ·rw[if_pos he]
  have em:midQ lo hi=lo:=by rw[←he] at hm ⊢;grind
  have ez:evalL f (midQ lo hi)=0:=by
   rw[em]
   rcases A.DN with ⟨_,k⟩|⟨k,_⟩
   ·exact k
   ·grind
  have:=fI.e0 (bW f lo hi) _ _ _ cm a1 a2 (eO.2 ez)
  have e2:(⟨(bW f lo hi).p,⟨aE (midQ lo hi),aE (midQ lo hi)⟩⟩:az)=bW f lo hi:=by rw[em];unfold bW cY;rw[←he]
  rwa[e2] at this
 ·rw[if_neg he]
  have bH:lo<hi:=by grind
  have ec:aK f lo hi (midQ lo hi)=sg (evalL f (midQ lo hi))*sg (evalL f lo):=by
   unfold aK
   rw[if_neg he,if_neg (by grind),if_neg (by grind)]
  have nl:=rC (A.ends bH).1
  rw[ec]
  by_cases k0:sg (evalL f (midQ lo hi))=0
  ·rw[if_pos (by rw[k0];exact Int.zero_mul _)]
   exact fI.e0 (bW f lo hi) _ _ _ cm a1 a2 k0
  ·have n0:sg (evalL f (midQ lo hi))=1∨sg (evalL f (midQ lo hi)) = -1:=by rcases hJ (evalL f (midQ lo hi)) with q|q|q<;>simp[q] at k0 ⊢
   by_cases k1:sg (evalL f (midQ lo hi))=sg (evalL f lo)
   ·rw[if_neg (by rcases n0 with q|q<;>rcases nl with r|r<;>rw[q,r]<;>decide),if_pos (by rcases n0 with q|q<;>rcases nl with r|r<;>rw[q,r]<;>first|decide|(exfalso;omega))]
    exact fI.e1 (bW f lo hi) _ _ _ _ _ cm a1 a2 k0 b1 b2 k1
   ·rw[if_neg (by rcases n0 with q|q<;>rcases nl with r|r<;>rw[q,r]<;>decide),if_neg (by rcases n0 with q|q<;>rcases nl with r|r<;>rw[q,r]<;>first|decide|(exfalso;omega))]
    exact fI.e2 (bW f lo hi) _ _ _ _ _ cm a1 a2 k0 b1 b2 k1
theorem L0{f:List Rat}{lo hi a w:Rat}{k:Nat}(F:Sm f)(A:dH f lo hi)(D:Dy a w k lo hi)(hh:ht a+ht w+(k+1)/32+4≤1073741824):Cp 142 [(bW f lo hi).pv] (bW f (c9 f lo hi).1 (c9 f lo hi).2).pv:=by
 obtain⟨h1,h2⟩:=D.ht
 by_cases he:lo=hi
 ·have hm:=qj lo hi
  have em:midQ lo hi=lo:=by rw[←he] at hm ⊢;grind
  exact half F A (by omega) (by omega) (by rw[em];omega)
 ·exact half F A (by omega) (by omega) (by have:=D.gJ he;omega)
theorem Kq{p f:List Rat}{lo hi:Rat}(P:Wd p)(F:Sm f)(f0:f≠[])(hle:lo≤hi)(h1:ht lo≤1073741824)(h2:ht hi≤1073741824):Cp 205 [pq p,(bW f lo hi).pv] (vB (Dx p f lo hi)):=by
 unfold Dx
 by_cases h0:p.length=0
 ·rw[if_pos h0]
  exact fj.e0 _ (bW f lo hi) (by rw[bf];exact h0)
 ·rw[if_neg h0]
  have c1:=QR.jN lo hi (by omega) (by omega)
  by_cases he:lo=hi
  ·rw[if_pos he]
   obtain⟨a1,a2⟩:=uN.Mf p lo (cL P.fl (by omega)) (by have:=P.l;omega) h1
   have:=fj.e1 _ (bW f lo hi) _ _ _ (by rw[bf];exact h0) c1 (dm.2 he) a1 a2
   rw[iG (q:=evalL p lo=0) eO] at this
   exact this
  ·rw[if_neg he]
   have fi:=uZ P F f0
   have hg:=RQ.Gcd (h:=2000) (b:=7) (c:=2080) (L:=9) (by omega) (by omega) (by omega) (by omega) (by omega) V2 p f P.z F.z P.l (by have:=F.l;omega) P.ch F.ch
   have cn:=uN.Count fi lo hi hle h1 h2
   exact fj.e2 _ (bW f lo hi) _ _ _ _ _ (by rw[bf];exact h0) c1 (cR he) hg cn
theorem pR{p f:List Rat}{a w:Rat}{K:Nat}(P:Wd p)(F:Sm f)(hh:ht a+ht w+K/32+4≤67108864):∀(n k:Nat) (lo hi:Rat) (s:Int),n+k≤K+1→dH f lo hi→¬Zr f lo hi p→Dy a w k lo hi→yb p f n lo hi=some s→dc.aj (p.map aE) (bW f lo hi) (vI s)
 |0,_,_,_,_,_,_,_,_,h=>by cases h
 |n+1,k,lo,hi,s,hn,A,hz,D,h=>by
  obtain⟨d1,d2⟩:=D.ht
  have hle:=A.le
  have IE:=zJ.VY p (cY lo hi) P.NN (cL P.fl (by omega)) (fO (by omega) (by omega))
  rw[fe hle,fg hle] at IE
  have ho:=ow p lo hi
  obtain⟨t1,t2⟩:=nu (k:=2000) (m:=536870912) p lo hi P.fl (by omega) (by omega)
  have hm:p.length*(2000+536870912+1)≤9*(2000+536870912+1):=Nat.mul_le_mul_right _ P.l
  rw[yb] at h
  by_cases k1:0<(aQ p lo hi).1
  ·rw[if_pos k1] at h
   injection h with h
   subst h
   have e1:dz (aQ p lo hi).1 0=1:=fG k1
   have e2:dz (aQ p lo hi).2 0=1:=fG (by grind)
   have hs:=Cb.yc _ _ ho (by omega) (by omega) (by rw[e1,e2])
   rw[e1] at hs
   exact dc.l10 _ (bW f lo hi) _ _ _ _ IE hs rfl
  ·rw[if_neg k1] at h
   by_cases k2:(aQ p lo hi).2<0
   ·rw[if_pos k2] at h
    injection h with h
    subst h
    have e1:dz (aQ p lo hi).1 0 = -1:=gN (by grind)
    have e2:dz (aQ p lo hi).2 0 = -1:=gN k2
    have hs:=Cb.yc _ _ ho (by omega) (by omega) (by rw[e1,e2])
    rw[e1] at hs
    exact dc.l10 _ (bW f lo hi) _ _ _ _ IE hs rfl
   ·rw[if_neg k2] at h
    match n,h with
    |0,h=>cases h
    |n+1,h =>
     have P9:¬Zr f (c9 f lo hi).1 (c9 f lo hi).2 p:=by
      unfold Zr at hz ⊢
      rw[nv A]
      exact hz
     have ih:=pR P F hh (n+1) (k+1) _ _ s (by omega) (dD A).1 P9 (D.half f) h
     have hv:=L0 F A D (by omega)
     by_cases he:dz (aQ p lo hi).1 0=dz (aQ p lo hi).2 0
     ·exact absurd (Cv A k1 k2 he) hz
     ·have hs:=Cb.H2 _ _ ho (by omega) (by omega) he
      exact dc.dw _ (bW f lo hi) _ _ _ _ _ IE hs rfl hv ih
theorem F9{p f:List Rat}{lo hi a w:Rat}{K n k:Nat}(P:Wd p)(F:Sm f)(A:dH f lo hi)(D:Dy a w k lo hi)(hn:n+k≤K+1)(hk:k≤K)(hh:ht a+ht w+K/32+4≤67108864)(hs:¬Zr f lo hi p→∃s,yb p f n lo hi=some s) :
  ∃s,xv f lo hi p s∧(s=0∨s=1∨s = -1)∧Cp 123 [pq p,(bW f lo hi).pv] (vI s):=by
 obtain⟨d1,d2⟩:=D.ht
 have hv:=Kq P F A.f0 A.le (lo:=lo) (hi:=hi) (by omega) (by omega)
 by_cases hz:Zr f lo hi p
 ·refine⟨0,Or.inl ⟨rfl,hz⟩,Or.inl rfl,?_⟩
  exact dc.e0 _ (bW f lo hi) _ hv ((uc A P.z).2 hz)
 ·obtain⟨s,h⟩:=hs hz
  obtain⟨k1,k2⟩:=sJ _ _ _ s A h
  refine⟨s,k1,Or.inr k2,?_⟩
  have hb:Dx p f lo hi=false:=by
   cases hb:Dx p f lo hi with
   |false=>rfl
   |true=>exact absurd ((uc A P.z).1 hb) hz
  exact dc.e1 _ (bW f lo hi) _ hv hb (pR P F hh n k lo hi s hn A hz D h)
theorem A8{f:List Rat}{lo hi a w:Rat}{K k:Nat}(F:Sm f)(A:dH f lo hi)(D:Dy a w k lo hi){x:ah}{x0:Rat}{h:Nat}(hof:Cp 27 [x.pv] (Nv x0).pv)(h1:1≤h)(hx:ht x0≤h)(h9:h≤900)(hn:32*(6*(2*h+1)+1)+237+33+1+k≤K+1)(hh:ht a+ht w+K/32+4≤67108864)(b1:ab lo≤twP 32)(b2:ab hi≤twP 32) :
  Cp 72 [(bW f lo hi).pv,x.pv] (vI (aK f lo hi x0)):=by
 have P:Wd [-x0,1]:=Wd.VZ (by omega)
 obtain⟨s,k1,k2,k3⟩:=F9 P F A D (n:=32*(6*(2*h+1)+1)+237+33+1) (K:=K) hn (by omega) hh (fun hz=>by
  refine Ko F A (fun e=>hz ?_) h1 hx b1 b2 (Nat.le_refl _)
  exact(A.ma e).2 (by show(0*x0+1)*x0 + -x0=0;grind))
 have:=Kp A k1
 subst this
 exact kH.e0 (bW f lo hi) x (Nv x0) _ hof k3
theorem L4 {f k : List Rat} {a w a' w' : Rat} {K : Nat} (F : Sm f) (G : Sm k) (UI : k ≠ []) (hf0 : f ≠ []) (hh : ht a + ht w + (K + 4000) / 32 + 4 ≤ 67108864) (hh' : ht a' + ht w' + (K + 4000) / 32 + 4 ≤ 67108864) : ∀ (n j : Nat) (lo hi lo' hi' : Rat) (s : Int), n + j ≤ K + 1 → dH f lo hi → dH k lo' hi' → Dy a w j lo hi → Dy a' w' j lo' hi' → ab lo ≤ twP 32 → ab hi ≤ twP 32 → ab lo' ≤ twP 32 → ab hi' ≤ twP 32 →
      Bz f k (bF f k) n lo hi lo' hi' = some s → fE.aj ((bF f k).map aE) (bW f lo hi) (bW k lo' hi') (vI s)
  | 0, _, _, _, _, _, _, _, _, _, _, _, _, _, _, _, h => by cases h
  | n + 1, j, lo, hi, lo', hi', s, hn, A, B, D, E, b1, b2, b3, b4, h => by
    obtain ⟨d1, d2⟩ := D.ht
    obtain ⟨e1, e2⟩ := E.ht
    have c1 := QR.jN hi lo' (by omega) (by omega)
    have c2 := QR.jN hi' lo (by omega) (by omega)
    have c3 := QR.jN lo' hi' (by omega) (by omega)
    have c4 := QR.jN lo hi (by omega) (by omega)
    have lA := A.le
    have lB := B.le
    rw [Bz] at h
    by_cases q1 : hi < lo'
    · rw [if_pos q1] at h
      injection h with h
      subst h
      exact fE.l10 _ (bW f lo hi) (bW k lo' hi') _ c1 (by rw [gN q1]; omega)
    · rw [if_neg q1] at h
      have n1 : 0 ≤ dz hi lo' := mr.2 (by grind)
      by_cases q2 : hi' < lo
      · rw [if_pos q2] at h
        injection h with h
        subst h
        exact fE.dw _ (bW f lo hi) (bW k lo' hi') _ _ c1 n1 c2 (by rw [gN q2]; omega)
      · rw [if_neg q2] at h
        have n2 : 0 ≤ dz hi' lo := mr.2 (by grind)
        by_cases q3 : lo' = hi'
        · rw [if_pos q3] at h
          injection h with h
          subst h
          have r0 : evalL k lo' = 0 := (B.Ew (qT q3)).1
          have rh := OW G UI r0 b3
          have hc := A8 (K := K + 4000) F A D (Of (v := lo') (by omega)) (show 1 ≤ 8 by omega) rh (by omega) (by omega) hh b1 b2
          exact fE.ji _ (bW f lo hi) (bW k lo' hi') _ _ _ _ c1 n1 c2 n2 c3 (dm.2 q3) hc
        · rw [if_neg q3] at h
          by_cases q4 : lo = hi
          · rw [if_pos q4] at h
            injection h with h
            subst h
            have r0 : evalL f lo = 0 := (A.Ew (qT q4)).1
            have rh := OW F hf0 r0 b1
            have hc := A8 (K := K + 4000) G B E (Of (v := lo) (by omega)) (show 1 ≤ 8 by omega) rh (by omega) (by omega) hh' b3 b4
            exact fE.oK _ (bW f lo hi) (bW k lo' hi') _ _ _ _ _ c1 n1 c2 n2 c3 (cR q3) c4 (dm.2 q4) hc (by unfold aw; rcases B.three lo with r | r | r <;> rw [r] <;> omega)
          · rw [if_neg q4] at h
            have fi := mA F.z G.z F.l G.l F.ch G.ch UI
            have gk := G.l
            have gl := ((gR f k F.z G.z).2.len fi.zp G.z UI).2
            have gW : Wd (bF f k) := ⟨fi.zp, by omega, fi.ch.mono (by
              have : xB 7 63 (6 - (bF f k).length) ≤ 1951 := by rw [← Uk]; exact cv 7 63 (by omega) (by have := List.length_pos_iff.2 fi.ne; omega)
              omega)⟩
            have v1 := Kq gW F hf0 lA (lo := lo) (hi := hi) (by omega) (by omega)
            have v2 := Kq gW G UI lB (lo := lo') (hi := hi') (by omega) (by omega)
            have hl := Cb.aam (cY lo hi) (cY lo' hi') (fO (by omega) (by omega)) (fO (by omega) (by omega))
            rw [fe lA, fg lA, fe lB, fg lB] at hl
            have hs := qD lo lo' (k := 1073741824) (by omega) (by omega)
            have ht := qE hi hi' (k := 1073741824) (by omega) (by omega)
            have bz : eZ lo lo' ≤ fD hi hi' := by have := jb lo lo'; have := ie hi hi'; grind
            have cn := uN.Count fi (eZ lo lo') (fD hi hi') bz hs ht
            obtain ⟨t1, t2⟩ := uN.Mf (bF f k) (eZ lo lo') fi.wk fi.kz hs
            by_cases q5 : LY f k (bF f k) lo hi lo' hi' = true
            · rw [if_pos q5] at h
              injection h with h
              subst h
              unfold LY at q5
              rw [Bool.and_eq_true, Bool.and_eq_true, Bool.and_eq_true, decide_eq_true_iff, decide_eq_true_iff] at q5
              obtain ⟨u1, u2, u3, u4⟩ := q5
              exact fE.AS _ (bW f lo hi) (bW k lo' hi') _ _ _ _ _ _ (cY (eZ lo lo') (fD hi hi')) _ _ _ _ c1 n1 c2 n2 c3 (cR q3) c4 (cR q4) v1 u1 v2 u2 hl cn u3 t1 t2 (fun e => u4 (eO.1 e))
            · rw [if_neg q5] at h
              match n, h with
              | 0, h => cases h
              | n + 1, h =>
                obtain ⟨g1, g2, g3, g4, g5⟩ := dD A
                obtain ⟨p1, p2, p3, p4, p5⟩ := dD B
                have lg := g1.le
                have lp := p1.le
                have ih := L4 F G UI hf0 hh hh' (n + 1) (j + 1) _ _ _ _ s (by omega) g1 p1 (D.half f) (E.half k) (a8 g3 (by grind) b1 b2) (a8 (by grind) g4 b1 b2) (a8 p3 (by grind) b3 b4) (a8 (by grind) p4 b3 b4) h
                have y1 := L0 F A D (by omega)
                have y2 := L0 G B E (by omega)
                cases u1 : Dx (bF f k) f lo hi with
                | false => exact fE.l18 _ (bW f lo hi) (bW k lo' hi') _ _ _ _ _ _ _ c1 n1 c2 n2 c3 (cR q3) c4 (cR q4) v1 u1 y1 y2 ih
                | true =>
                  cases u2 : Dx (bF f k) k lo' hi' with
                  | false => exact fE.l17 _ (bW f lo hi) (bW k lo' hi') _ _ _ _ _ _ _ _ c1 n1 c2 n2 c3 (cR q3) c4 (cR q4) v1 u1 v2 u2 y1 y2 ih
                  | true =>
                    by_cases u3 : fR (aG (bF f k)) (eZ lo lo') - fR (aG (bF f k)) (fD hi hi') = 1
                    · by_cases u4 : evalL (bF f k) (eZ lo lo') = 0
                      · exact fE.T2 _ (bW f lo hi) (bW k lo' hi') _ _ _ _ _ _ (cY (eZ lo lo') (fD hi hi')) _ _ _ _ _ _ c1 n1 c2 n2 c3 (cR q3) c4 (cR q4) v1 u1 v2 u2 hl cn u3 t1 t2 (eO.2 u4) y1 y2 ih
                      · exfalso
                        refine q5 ?_
                        unfold LY
                        rw [u1, u2, decide_eq_true u3, decide_eq_true u4]
                        rfl
                    · exact fE.Wr _ (bW f lo hi) (bW k lo' hi') _ _ _ _ _ _ (cY (eZ lo lo') (fD hi hi')) _ _ _ _ c1 n1 c2 n2 c3 (cR q3) c4 (cR q4) v1 u1 v2 u2 hl cn u3 y1 y2 ih
theorem cmp{f k:List Rat}{lo hi lo' hi':Rat}(F:Sm f)(G:Sm k)(A:dH f lo hi)(B:dH k lo' hi')(h1:ht lo≤1)(h2:ht hi≤1)(h3:ht lo'≤1)(h4:ht hi'≤1) :
  ∃s,Cm s f lo hi k lo' hi'∧Cp 122 [(bW f lo hi).pv,(bW k lo' hi').pv] (vI s):=by
 have bd:∀x:Rat,ht x≤1→ab x≤twP 32:=fun x hx=>Rat.le_trans (sv x) (aS (by omega))
 have fi:=mA F.z G.z F.l G.l F.ch G.ch B.f0
 obtain⟨N,hN⟩:∃N:Nat,N=1971620308:=⟨_,rfl⟩
 obtain⟨s,hs⟩:=NL F G A B (bd lo h1) (bd hi h2) (bd lo' h3) (bd hi' h4) (N:=N) (by omega)
 have cg:=R1 (gR f k F.z G.z).1 A.zK
 refine⟨s,HZ fi.zp fi.ne cg _ lo hi lo' hi' s A B hs,?_⟩
 have w1:=oN hi lo
 have w2:=oN hi' lo'
 have hg:=RQ.Gcd (h:=2000) (b:=7) (c:=2080) (L:=9) (by omega) (by omega) (by omega) (by omega) (by omega) V2 f k F.z G.z (by have:=F.l;omega) (by have:=G.l;omega) (F.ch.mono (by omega)) G.ch
 exact fE.e0 (bW f lo hi) (bW k lo' hi') _ _ hg (L4 (K:=N+237+33) F G B.f0 A.f0 (by omega) (by omega) _ 0 lo hi lo' hi' s (by omega) A B (Dy.start lo hi) (Dy.start lo' hi') (bd lo h1) (bd hi h2) (bd lo' h3) (bd hi' h4) hs)
end x9
def grQ(n:Int)(b:Nat):Rat:=Rat.divInt n ((2^b:Nat):Int)
theorem two_pos(b:Nat):(0:Int)<((2^b:Nat):Int):=by
 have:=Nat.pow_pos (n:=b) (show 0<2 by omega)
 omega
theorem gL(n:Int)(b:Nat):grQ n b*twP b=(n:Rat):=by
 unfold grQ twP
 rw[Rat.divInt_eq_div]
 exact Rat.div_mul_cancel (vK b)
theorem ly{n:Int}{b:Nat}{x:Rat} : grQ n b≤x↔(n:Rat)≤x*twP b:=by
 rw[←gL n b]
 have p:=bw b
 constructor
 ·intro h;exact Rat.mul_le_mul_of_nonneg_right h (Rat.le_of_lt p)
 ·intro h
  refine Rat.not_lt.1 fun bH=>?_
  have:=Rat.mul_lt_mul_of_pos_right bH p
  grind
theorem zk{n:Int}{b:Nat}{x:Rat} : x<grQ n b↔x*twP b<(n:Rat):=by
 rw[←Rat.not_le,ly,Rat.not_le]
theorem iJ{n:Int}(h:n.natAbs<4294967296^4):wl n≤4:=oZ h
namespace hX
theorem scaled(n:Int)(hn:wl n≤1000){b:Nat}(hb:b≤64):Cp 63 [(Sym.whole n).pv,vI (b:Int)] (.aB [(aE (grQ n b)).pv,.aq]):=by
 have w2:∀t:Nat,t≤64→wl (((2^t:Nat):Int))≤4:=fun t ht=>iJ (by
  rw[Int.natAbs_natCast]
  have:2^t≤2^64:=Nat.pow_le_pow_right (by omega) ht
  omega)
 have loop:∀d t:Nat,t+d=b→dO.aj (b:Int) t (Sym.whole n) (Sym.whole ((2^t:Nat):Int)) (.aB [(aE (grQ n b)).pv,.aq]):=by
  intro d
  induction d with
  |zero =>
   intro t ht
   have:t=b:=by omega
   subst this
   have hf:=qC.Iy (Sym.whole n) (Sym.whole ((2^t:Nat):Int)) (by rw[b7];omega) (by rw[b7];have:=w2 t hb;omega) (by rw[aD];have:=two_pos t;omega)
   rw[aD,aD] at hf
   exact dO.dw _ t _ _ _ none (by omega) hf
  |succ d ih =>
   intro t ht
   have hw:=w2 t (by omega)
   have ha:=dE.Add (Sym.whole ((2^t:Nat):Int)) (Sym.whole ((2^t:Nat):Int)) (by show _≤_;rw[b7];omega) (by show _≤_;rw[b7];omega)
   rw[aD,show((2^t:Nat):Int)+((2^t:Nat):Int)=((2^(t+1):Nat):Int) by rw[Nat.pow_succ];omega] at ha
   exact dO.l10 _ t _ _ _ (by omega) ha (by omega) (ih (t+1) (by omega))
 exact dO.e0 (Sym.whole n) _ (Sym.whole 1) (dE.Of 1 (by unfold aw;omega)) (loop b 0 (by omega))
theorem HG{x:Rat}(hx:ht x≤1000){b:Nat}(hb:b≤64):Cp 130 [(aE x).pv,vI (b:Int)] (Sym.whole (x*twP b).floor).pv:=by
 have Ll:∀t,t≤64→ht (x*twP t)≤2000:=fun t h=>by
  have h1:=dP x (twP t)
  have h2:=jH (j:=t) (by omega)
  omega
 have loop:∀d t:Nat,t+d=b→eF.aj (b:Int) t (aE (x*twP t)) (Sym.whole (x*twP b).floor).pv:=by
  intro d
  induction d with
  |zero =>
   intro t h
   have:t=b:=by omega
   subst this
   have hh:=Ll t hb
   have hf:=aW hh
   have:=qC.OA (aE (x*twP t)) ⟨by omega,by omega⟩
   rw[bS] at this
   exact eF.dw _ t _ _ (by omega) this
  |succ d ih =>
   intro t h
   have hh:=Ll t (by omega)
   have ha:=QF.Add (x*twP t) (x*twP t) (by omega) (by omega)
   rw[show x*twP t+x*twP t=x*twP (t+1) by rw[bP];grind] at ha
   exact eF.l10 _ t _ _ (by omega) ha (by omega) (ih (t+1) (by omega))
 have:=loop b 0 (by omega)
 rw[hO,Rat.mul_one] at this
 exact eF.e0 _ _ this
theorem np(q:Rat):((q.floor:Int):Rat)≤q:=Rat.floor_le q
theorem nq(q:Rat):q<((q.floor+1:Int):Rat):=by
 exact Rat.lt_floor_add_one q
theorem floor{f:List Rat}{lo hi:Rat}(F:Sm f)(A:dH f lo hi)(h1:ht lo≤1)(h2:ht hi≤1){b:Nat}(hb:b≤64):∃n:Int,Cp 62 [(bW f lo hi).pv,vI (b:Int)] (.aB [(Sym.whole n).pv,.aq])∧n.natAbs<2^100∧0≤aK f lo hi (grQ n b)∧aK f lo hi (grQ (n+1) b) = -1:=by
 have O:=F.ok (lo:=lo) (hi:=hi) (by omega) (by omega)
 have g1:=HG (x:=lo) (by omega) hb
 have g2:=HG (x:=hi) (by omega) hb
 have bd:∀x:Rat,ht x≤1→(x*twP b).floor.natAbs<2^98:=by
  intro x hx
  have a1:=sv x
  have a2:=Rat.le_trans a1 (aS (show 32*ht x≤32 by omega))
  have p:=bw b
  have a3:ab (x*twP b)≤twP 96:=by
   rw[fQ]
   have e:ab (twP b)=twP b:=by rcases cf (twP b) with k|k<;>grind
   rw[e]
   have:=cM a2 (aS hb) (bJ x) (Rat.le_of_lt (bw 64))
   rw[←dS] at this
   exact this
  have f1:=np (x*twP b)
  have f2:=nq (x*twP b)
  have l1:=ke (x*twP b)
  have l2:=dY (x*twP b)
  have u1:(((x*twP b).floor:Int):Rat)≤(((2^96:Nat):Int):Rat):=by
   have:twP 96=(((2^96:Nat):Int):Rat):=rfl
   rw[←this];grind
  have u2:((-((2^96:Nat):Int):Int):Rat)<(((x*twP b).floor+1:Int):Rat):=by
   have:twP 96=(((2^96:Nat):Int):Rat):=rfl
   rw[Rat.intCast_neg,←this];grind
  have v1:=Rat.intCast_le_intCast.1 u1
  have v2:=Rat.intCast_lt_intCast.1 u2
  omega
 have b1:=bd lo h1
 have b2:=bd hi h2
 have w:∀n:Int,n.natAbs<2^101→wl n≤4:=fun n hn=>iJ (Nat.lt_of_lt_of_le hn (by decide))
 have s1:0≤aK f lo hi (grQ (lo*twP b).floor b):=jD A (ly.2 (np _))
 have s2:aK f lo hi (grQ ((hi*twP b).floor+1) b) = -1:=A.mono (zk.2 (nq _)) A.nF
 have loop:∀(k:Nat) (u v:Int),(v-u).toNat≤k→u.natAbs<2^99→v.natAbs<2^99→0≤aK f lo hi (grQ u b)→aK f lo hi (grQ v b) = -1 →
   ∃n:Int,dj.aj (b:Int) (bW f lo hi) (Sym.whole u) (Sym.whole v) (.aB [(Sym.whole n).pv,.aq])∧n.natAbs<2^100∧0≤aK f lo hi (grQ n b)∧aK f lo hi (grQ (n+1) b) = -1:=by
  intro k
  induction k with
  |zero =>
   intro u v hk hu hv c1 c2
   exfalso
   have hle:grQ v b≤grQ u b:=by
    rw[ly,gL]
    exact Rat.intCast_le_intCast.2 (by omega)
   by_cases e:grQ v b=grQ u b
   ·rw[e] at c2;omega
   ·have:=A.mono (x:=grQ v b) (y:=grQ u b) (by grind) (by omega);omega
  |succ k ih =>
   intro u v hk hu hv c1 c2
   have rk:u<v:=by
    refine Int.not_le.1 fun hle=>?_
    have TF:grQ v b≤grQ u b:=by
     rw[ly,gL]
     exact Rat.intCast_le_intCast.2 hle
    by_cases e:grQ v b=grQ u b
    ·rw[e] at c2;omega
    ·have:=A.mono (x:=grQ v b) (y:=grQ u b) (by grind) (by omega);omega
   have fu:Fit (Sym.whole u).fS:=by show _≤_;rw[b7];have:=w u (by omega);omega
   have fv:Fit (Sym.whole v).fS:=by show _≤_;rw[b7];have:=w v (by omega);omega
   have q1:=dE.Sub (Sym.whole v) (Sym.whole u) fv fu
   rw[aD,aD] at q1
   have o1:=dE.Of 1 (by unfold aw;omega)
   have o2:=dE.Of 2 (by unfold aw;omega)
   have q2:=dE.jN (Sym.whole (v-u)) (Sym.whole 1) (by show _≤_;rw[b7];have:=w (v-u) (by omega);omega) (by show _≤_;rw[b7];have:=w 1 (by decide);omega)
   rw[aD,aD] at q2
   by_cases hd:1<v-u
   ·have q3:=dE.Add (Sym.whole u) (Sym.whole v) fu fv
    rw[aD,aD] at q3
    have q4:=dE.Div (Sym.whole (u+v)) (Sym.whole 2) (by show _≤_;rw[b7];have:=w (u+v) (by omega);omega) (by show _≤_;rw[b7];have:=w 2 (by decide);omega) (by rw[aD];omega)
    rw[aD,aD] at q4
    have UO:u<(u+v)/2:=by omega
    have SL:(u+v)/2<v:=by omega
    have wm:=w ((u+v)/2) (by omega)
    have q5:=scaled ((u+v)/2) (by omega) hb
    have hg:ht (grQ ((u+v)/2) b)≤1073741824:=by
     unfold grQ
     rw[Rat.divInt_eq_div]
     have x1:=kS (((u+v)/2:Int):Rat) ((((2^b:Nat):Int)):Rat)
     have x2:ht (((u+v)/2:Int):Rat)≤4:=by rw[pz];omega
     have x3:ht ((((2^b:Nat):Int)):Rat)≤3:=jH (j:=b) (by omega)
     omega
    have q6:=compare O A.le hg
    by_cases hc:0≤aK f lo hi (grQ ((u+v)/2) b)
    ·obtain⟨n,n1,n2⟩:=ih ((u+v)/2) v (by omega) (by omega) hv hc c2
     exact⟨n,dj.l10 _ (bW f lo hi) _ _ _ _ _ _ _ _ _ none _ _ q1 o1 q2 (by rw[nQ hd];omega) q3 o2 q4 q5 q6 hc n1,n2⟩
    ·obtain⟨n,n1,n2⟩:=ih u ((u+v)/2) (by omega) hu (by omega) c1 (by rcases A.three (grQ ((u+v)/2) b) with m|m|m<;>omega)
     exact⟨n,dj.dw _ (bW f lo hi) _ _ _ _ _ _ _ _ _ none _ _ q1 o1 q2 (by rw[nQ hd];omega) q3 o2 q4 q5 q6 (by omega) n1,n2⟩
   ·have B0:v=u+1:=by omega
    refine⟨u,dj.AS _ (bW f lo hi) _ _ _ _ _ q1 o1 q2 (by unfold iM;rw[if_neg (by omega),if_pos (by omega)];omega),by omega,c1,by rw[←B0];exact c2⟩
 obtain⟨n,n1,n2⟩:=loop _ _ _ (Nat.le_refl _) (by omega) (by omega) s1 s2
 have o1:=dE.Of 1 (by unfold aw;omega)
 have ad:=dE.Add (Sym.whole (hi*twP b).floor) (Sym.whole 1) (by show _≤_;rw[b7];have:=w (hi*twP b).floor (by omega);omega) (by show _≤_;rw[b7];have:=w 1 (by decide);omega)
 rw[aD,aD] at ad
 exact⟨n,dj.e0 (bW f lo hi) _ _ _ _ _ g1 g2 o1 ad n1,n2⟩
end hX
theorem uf{m n:Int}{b:Nat}(h:m≤n):grQ m b≤grQ n b:=by
 rw[ly,gL]
 exact Rat.intCast_le_intCast.2 h
theorem kT{f:List Rat}{lo hi:Rat}(A:dH f lo hi){m n:Int}{b:Nat}(h1:0≤aK f lo hi (grQ m b))(h2:aK f lo hi (grQ (m+1) b) = -1)(k1:0≤aK f lo hi (grQ n b))(k2:aK f lo hi (grQ (n+1) b) = -1):m=n:=by
 have key:∀{m n:Int},0≤aK f lo hi (grQ n b)→aK f lo hi (grQ (m+1) b) = -1→n≤m:=fun {m n} u v=>by
  refine Int.not_lt.1 fun bH=>?_
  have hle:=uf (b:=b) (show m+1≤n by omega)
  by_cases e:grQ (m+1) b=grQ n b
  ·rw[e] at v;omega
  ·have:=A.mono (x:=grQ (m+1) b) (y:=grQ n b) (by grind) (by omega)
   omega
 have:=key k1 h2
 have:=key h1 k2
 omega
theorem lY{n:Int}(h:n.natAbs<2^101){b:Nat}(hb:b≤64):ht (grQ n b)≤1000:=by
 unfold grQ
 rw[Rat.divInt_eq_div]
 have w:wl n≤4:=iJ (Nat.lt_of_lt_of_le h (by decide))
 have x1:=kS ((n:Int):Rat) ((((2^b:Nat):Int)):Rat)
 have x2:ht ((n:Int):Rat)≤4:=by rw[pz];omega
 have x3:ht ((((2^b:Nat):Int)):Rat)≤3:=jH (j:=b) (by omega)
 omega
namespace hX
theorem AE{f:List Rat}{lo hi:Rat}{n:Int}{b:Nat}(hn:n.natAbs<2^100)(hb:b≤64):Cp 67 [vI 1] (Sym.whole 1).pv∧Cp 66 [(Sym.whole n).pv,(Sym.whole 1).pv] (Sym.whole (n+1)).pv∧Cp 63 [(Sym.whole (n+1)).pv,vI (b:Int)] (.aB [(aE (grQ (n+1) b)).pv,.aq]):=by
 have w1:wl n≤4:=iJ (Nat.lt_of_lt_of_le hn (by decide))
 have w2:wl (n+1)≤4:=iJ (Nat.lt_of_lt_of_le (show (n+1).natAbs<2^101 by omega) (by decide))
 have w3:wl 1≤4:=iJ (by decide)
 have ad:=dE.Add (Sym.whole n) (Sym.whole 1) (by show _≤_;rw[b7];omega) (by show _≤_;rw[b7];omega)
 rw[aD,aD] at ad
 exact⟨dE.Of 1 (by unfold aw;omega),ad,scaled (n+1) (by omega) hb⟩
theorem LV{a:az}(ha:Sh a)(hc:fw a=0){b:Nat}(hb:b≤64):∃n:Int,n.natAbs<2^100∧0≤aK (aT a.p) (loG a.rV) (hiG a.rV) (grQ n b)∧aK (aT a.p) (loG a.rV) (hiG a.rV) (grQ (n+1) b) = -1 ∧
  Cp 13 [a.pv,vI (b:Int)] (.aB [(if aK (aT a.p) (loG a.rV) (hiG a.rV) (grQ n b)=0 then cY (grQ n b) (grQ n b) else cY (grQ n b) (grQ (n+1) b)).pv,.aq]):=by
 have A:=ha.acc hc
 have c1:=hX.Check ha
 rw[hc] at c1
 obtain⟨n,n1,n2,n3,n4⟩:=floor A.sm A.lj A.h1 A.h2 hb
 rw[←A.e] at n1
 refine⟨n,n2,n3,n4,?_⟩
 have w1:wl n≤4:=iJ (Nat.lt_of_lt_of_le n2 (by decide))
 have s1:=scaled n (by omega) hb
 have hh:=lY (b:=b) (show n.natAbs<2^101 by omega) hb
 have k1:=compare (A.sm.ok (lo:=loG a.rV) (hi:=hiG a.rV) (by have:=A.h1;omega) (by have:=A.h2;omega)) A.lj.le (x:=grQ n b) (by omega)
 rw[←A.e] at k1
 obtain⟨o1,o2,o3⟩:=AE (f:=aT a.p) (lo:=loG a.rV) (hi:=hiG a.rV) n2 hb
 by_cases h0:aK (aT a.p) (loG a.rV) (hiG a.rV) (grQ n b)=0
 ·rw[if_pos h0]
  exact jL.e2 a _ _ _ _ (cY (grQ n b) (grQ n b)) c1 (by omega) (by omega) n1 s1 k1 h0 (uA.pH _ (by omega))
 ·rw[if_neg h0]
  exact jL.e3 a _ _ _ _ _ _ _ none c1 (by omega) (by omega) n1 s1 k1 h0 o1 o2 o3
theorem mg{a b:az}{f g:List Rat}{lo hi lo' hi':Rat}(A:Acc a f lo hi)(B:Acc b g lo' hi'){t:Nat}(ht:t≤64){n:Int}(n1:0≤aK f lo hi (grQ n t))(n2:aK f lo hi (grQ (n+1) t) = -1) :
  (aK g lo' hi' (grQ (n+1) t)=1→bR.aj t a b (.aB [(aE (grQ (n+1) t)).pv,.aq]))∧(aK g lo' hi' (grQ (n+1) t)≠1→∀r,bR.aj (t+1) a b r→bR.aj t a b r):=by
 obtain⟨m,m1,m2,m3,m4⟩:=floor A.sm A.lj A.h1 A.h2 ht
 have Nx:m=n:=kT A.lj m3 m4 n1 n2
 subst Nx
 rw[←A.e] at m1
 obtain⟨o1,o2,o3⟩:=AE (f:=f) (lo:=lo) (hi:=hi) m2 ht
 have hh:=lY (b:=t) (show (m+1).natAbs<2^101 by omega) ht
 have k1:=compare (B.sm.ok (lo:=lo') (hi:=hi') (by have:=B.h1;omega) (by have:=B.h2;omega)) B.lj.le (x:=grQ (m+1) t) (by omega)
 rw[←B.e] at k1
 refine⟨fun h => ?_,fun h r hL=>?_⟩
 ·exact bR.l10 t a b _ _ _ _ _ (by omega) m1 o1 o2 o3 k1 (by omega)
 ·exact bR.dw t a b _ _ _ _ _ (by omega) m1 o1 o2 o3 k1 (by rcases B.lj.three (grQ (m+1) t) with q|q|q<;>omega) (by omega) hL
theorem xd{p:List Rat}(f:cH 7 6 p)(h1:Bd p)(ok:jl 7 6):Cp 21 [pq p] (.aB [bq az.cells ((fM 7 6 p).map (fun r=>bW (aM p) r.1 r.2)),.aq]):=by
 have hi:=o7.uP f h1 ok
 have hF:=qG.ud f
 have hlen:=o7.my f h1 ok
 have loop:∀d t:Nat,t+d=(fM 7 6 p).length→dR.aj (p.map aE) (((fM 7 6 p).take t).map (fun r=>bW (aM p) r.1 r.2)) (mkGs (fM 7 6 p)) t (.aB [bq az.cells ((fM 7 6 p).map (fun r=>bW (aM p) r.1 r.2)),.aq]):=by
  intro d
  induction d with
  |zero =>
   intro t h
   rw[show (fM 7 6 p).take t=fM 7 6 p from List.take_of_length_le (by omega)]
   exact dR.ji _ _ _ t (by rw[jV];omega)
  |succ d ih =>
   intro t h
   obtain⟨v,hv⟩:∃v,(fM 7 6 p)[t]? = some v:=⟨_,List.getElem?_eq_getElem (by omega)⟩
   have uy:(mkGs (fM 7 6 p))[t]? = some (cY v.1 v.2):=by unfold mkGs;rw[List.getElem?_map,hv];rfl
   have ih:=ih (t+1) (by omega)
   rw[List.take_add_one,hv,List.map_append] at ih
   exact dR.l10 _ _ _ t (cY v.1 v.2) _ (by rw[jV];omega) uy hF (by rw[List.length_append,List.length_map,List.length_take,List.length_singleton];omega) (by omega) ih
 exact dR.e0 _ _ hi (loop (fM 7 6 p).length 0 (Nat.zero_add _))
end hX
end Go.Proofs.YtllmkadmohkbfaaGreatDoor.Sym
end
