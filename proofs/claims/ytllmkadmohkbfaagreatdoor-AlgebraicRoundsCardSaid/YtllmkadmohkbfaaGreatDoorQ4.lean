/- Lemmas for the statements of this seat. -/
import Derived.Test.YtllmkadmohkbfaaGreatDoorU0
noncomputable section
namespace Go.Proofs.YtllmkadmohkbfaaGreatDoor.Sym.Path
open Go Tryz
set_option maxRecDepth 20000
set_option linter.unusedVariables false
namespace u9
theorem e0(p:Rs)(b:af)(c:List (Rs))(d:af)(z:List ai)(h1:Cp 150 [ae p] (.aB [b.pv,.az]))(h2:Cp 151 [ae p] (.aB [(dj (aC af.cells) c),.az]))(h3:Cp 87 [b.pv] d.pv)(h4:av bp 152 [.pv .dZ,.pv (ae p),.pv (dj (aC af.cells) c),.pv d.pv,.pv b.pv] [] (.row 0 0 z.length 6) [(0,(.pure ((z:List ai).map ai.cells).flatten))]):Cp 75 [ae p] (.aB [dj ai.cells z,.az]) :=
 eD func75 114 [1,1,1,1,3] [.q,.h 1 (.pv (.aB [b.pv,.az])),.q,.a,.h 1 (.pv (.aB [(dj (aC af.cells) c),.az])),.q,.a,dr 5 3 [.none,.none,.none,(.pv d.pv),.none,(.bO [] (some (0,28)) (.row 0 0 z.length 6) [(0,(.pure ((z:List ai).map ai.cells).flatten))])],.fW 2 ((z:List ai).map ai.cells)] (y5 h1 h2 h3 h4 (df qY (z:List ai) (Eq.refl (z:List ai).length)))
end u9
namespace sL
theorem e0(p:Rs)(rV:ai)(b:Bool)(c:Option Int)(h1:Cp 165 [ae p] .az)(h2:Cp 166 [ae p,rV.pv] (.aB [vB b,bw c])):Cp 82 [ae p,rV.pv] (.aB [vB b,bw c]) :=
 eD func82 93 [1,1] [.q,.h 1 (.pv .az),.q,.a,.h 2 (.pv (.aB [vB b,bw c]))] (y2 h1 h2)
end sL
namespace ie
theorem e0(p:Rs)(a:Int)(h1:Cp 56 [ae p] (vI a))(h2:a≠0):Cp 83 [ae p] (vI a) :=
 eD func83 90 [1,1] [.q,.h 1 (.pv (vI a)),.q,.t,.q] (y2 h1 (lx h2))
theorem e1(p:Rs)(a:Int)(h1:Cp 56 [ae p] (vI a))(h2:a=0)(h3:p.length=0):Cp 83 [ae p] (vI 8) :=
 eD func83 105 [1,1,1,1] [.q,.h 1 (.pv (vI a)),.q,.f,.h 1 (iI (p.length:Int)),.t,.q] (y4 h1 (gf h2) (an af.cells p) (aN h3))
theorem e2(p:Rs)(a:Int)(h1:Cp 56 [ae p] (vI a))(h2:a=0)(h3:p.length≠0):Cp 83 [ae p] (vI 0) :=
 eD func83 108 [1,1,1,1] [.q,.h 1 (.pv (vI a)),.q,.f,.h 1 (iI (p.length:Int)),.f,.q] (y4 h1 (gf h2) (an af.cells p) (aA h3))
end ie
namespace lC
theorem e1(p:Rs)(rV:ai)(a:Int)(b:Bool)(h1:Cp 83 [ae p] (vI a))(h2:a=0)(h3:Cp 168 [ae p,rV.pv] (vB b)):Cp 86 [ae p,rV.pv] (.aB [vB b,vI 0]) :=
 eD func86 93 [1,1,1] [.q,.h 1 (.pv (vI a)),.q,.f,.h 2 (.pv (vB b))] (y3 h1 (gf h2) h3)
end lC
namespace iD
@[reducible] def fn:Func:=Tryz.f150
def a7:List eH:=focus [0,2,0,0,2,0,2,1,2,0,2,0,0,2,0,0] [.code (ay fn)]
def inv1(p:List af)(rU:Nat)(jI:af):St:=⟨[(0,(.pv (ae p))),(2,(.ptr 2 0)),(5,(.ptr 5 0)),(17,(.pv (ae p))),(18,(eI (p.length:Int))),(19,(eI (rU:Int)))],[(2,(.lit [(eB false),(.pv (.list [])),(.pv (.list []))])),(5,(.lit [(eB jI.neg),(.pv (aa jI.num)),(.pv (aa jI.den))]))]⟩
@[reducible] def ah(p:List af)(rU:Nat)(jI:af)(r:PV):Prop:=L bp fn a7 (inv1 p rU jI) r
def oN:List eH:=focus [0,2,0,0,2,0,2,1,2,0,2,0,0,2,0,0,0,0,2,0,0,2,0,0,0,2,0,2,0,0,2,1,2,0,0] [.code (ay fn)]
def inv2(p:List af)(rU:Nat)(jI div:af):St:=⟨[(0,(.pv (ae p))),(2,(.ptr 2 0)),(5,(.ptr 5 0)),(8,(.ptr 8 0)),(17,(.pv (ae p))),(18,(eI (p.length:Int))),(19,(eI (rU:Int)))],[(2,(.lit [(eB false),(.pv (.list [])),(.pv (.list []))])),(5,(.lit [(eB jI.neg),(.pv (aa jI.num)),(.pv (aa jI.den))])),(8,(.lit [(eB div.neg),(.pv (aa div.num)),(.pv (aa div.den))]))]⟩
@[reducible] def bK(p:List af)(rU:Nat)(jI div:af)(r:PV):Prop:=L bp fn oN (inv2 p rU jI div) r
theorem e0(p:Rs)(of:af){r:PV}(h1:Cp 165 [ae p] .az)(h2:Cp 46 [vI 1] of.pv)(hL:ah p 0 of r):Cp 150 [ae p] r :=
 eG func150 108 [1,1,1] [.q,.h 1 (.pv .az),.q,.a,.h 0 (.pv of.pv),.h 1 (iI (p.length:Int)),.aF [0,2,5,17,18,19],.ord [2,5]] (y3 h1 h2 (an af.cells p)) hL
theorem l10(p:Rs)(b:Nat)(c v:af)(k:Nat)(v1 d:af){r:PV}(h1:b<p.length)(h2:p[b]? = some v)(h3:ax ((p.length:Int)-1))(h4:((p.length:Int)-1)=(k:Int))(h5:p[k]? = some v1)(h6:Cp 234 [v.pv,v1.pv] (.aB [d.pv,.az]))(hL:bK p b c d r):ah p b c r :=
 lG 165 [1,3,1,1,3,1] [.a,.q,.t,.h 0 (.row b (af.cells v)),dr 13 1 [.none,.none,.none,(iI (p.length:Int)),(iI ((p.length:Int)-1)),(.row k (af.cells v1)),.none,(.pv (.aB [d.pv,.az]))],.q,.a,.aF [0,2,5,8,17,18,19],.drop [7],.ord [2,5,8]] (y6 (aj h1) (bT af.cells (Eq.refl (((b:Nat):Int):Int)) h2) (an af.cells p) (aT h3) (bT af.cells h4 h5) h6) hL
theorem kM(p:Rs)(b:Nat)(c:af)(h1:p.length≤b):ah p b c (.aB [c.pv,.az]) :=
 lD 141 [1] [.a,.q,.f,.q] (y1 (ar h1))
theorem Ac(p:Rs)(b:Nat)(c d of g i:af)(j:Int)(k:af){r:PV}(h1:Cp 46 [vI 1] of.pv)(h2:Cp 235 [d.pv] g.pv)(h3:Cp 91 [of.pv,g.pv] i.pv)(h4:Cp 34 [c.pv,i.pv] (vI j))(h5:j<0)(h6:Cp 91 [c.pv,c.pv] k.pv)(hL:bK p b k d r):bK p b c d r :=
 lG 192 [1,1,1,1,1,1] [.a,dr 7 0 [.none,(.pv of.pv),.none,(.pv g.pv),(.pv i.pv),(.pv (vI j))],.t,.h 2 (.pv k.pv),.aF [0,2,5,8,17,18,19]] (y6 h1 h2 h3 h4 (bR h5) h6) hL
theorem CN(p:Rs)(b:Nat)(c d of g i:af)(j:Int){r:PV}(h1:Cp 46 [vI 1] of.pv)(h2:Cp 235 [d.pv] g.pv)(h3:Cp 91 [of.pv,g.pv] i.pv)(h4:Cp 34 [c.pv,i.pv] (vI j))(h5:0≤j)(h6:(b+1)<9223372036854775808)(hL:ah p (b+1) c r):bK p b c d r :=
 lG 198 [1,1,1,1,1,1] [.a,dr 7 0 [.none,(.pv of.pv),.none,(.pv g.pv),(.pv i.pv),(.pv (vI j))],.f,.h 0 (iI (((b+1):Nat):Int)),.aF [0,2,5,17,18,19],.drop [8]] (y6 h1 h2 h3 h4 (bf h5) (aM h6)) hL
end iD
namespace nB
@[reducible] def fn:Func:=Tryz.f151
def a7:List eH:=focus [0,2,0,2,0,0,2,1,2,0,2,0,0,2,1,2,0,2,0,0,0] [.code (ay fn)]
def inv1(WK:List af)(om:List (List af)):St:=⟨[(6,(.pv (ae WK))),(7,(.row 28 0 om.length 1))],[(28,(.pure ((om:List (List af)).map (aC af.cells)).flatten))]⟩
@[reducible] def ah(WK:List af)(om:List (List af))(r:PV):Prop:=L bp fn a7 (inv1 WK om) r
theorem e0(p b c:Rs){r:PV}(h1:Cp 76 [ae p] (.aB [ae b,.az]))(h2:Cp 80 [ae b] (.aB [ae c,.az]))(hL:ah c [b] r):Cp 151 [ae p] r :=
 eG func151 123 [1,1] [.q,.h 1 (.pv (.aB [ae b,.az])),.q,.a,.h 1 (.pv (.aB [ae c,.az])),.q,.a,.q,.aF [6,7]] (y2 h1 h2) hL
theorem l10(b:Rs)(c:List (Rs))(k:Nat)(v d g:Rs)(of:af)(i:Rs){r:PV}(h1:0<b.length)(h2:((c++[b]):List (Rs)).length*24≤140737488355328)(h3:ax ((((c++[b]).length:Nat):Int)-2))(h4:((((c++[b]).length:Nat):Int)-2)=(k:Int))(h5:k<(c++[b]).length)(h6:(c++[b])[k]? = some v)(h7:Cp 236 [ae v,ae b] (.aB [ae d,ae g,.az]))(h8:Cp 46 [(vI (-1))] of.pv)(h9:Cp 237 [ae g,of.pv] (.aB [ae i,.az]))(hL:ah i (c++[b]) r):ah b c r :=
 lG 192 [1,1,6,1,2,1,1,1,1] [.a,.h 1 (iI (b.length:Int)),.t,.h 3 (.app ((c++[b]):List (Rs)).length (((c++[b]):List (Rs)).map (aC af.cells)).flatten),.aR [.o,.o,.o,(iI ((((c++[b]).length:Nat):Int)-2)),(.nat k),(.ev (.pv (ae v))),.o,(.pv (.aB [ae d,ae g,.az]))],.q,.a,.aR [.o,(.pv of.pv),(.pv (.aB [ae i,.az]))],.q,.a,.aF [6,7],.drop [34],.sV 35 28] (y9 (an af.cells b) (aj h1) (iK (rO af.cells) (c:List (Rs)) ([b]:List (Rs)) 24 (Eq.refl (c:List (Rs)).length) (Eq.refl ([b]:List (Rs)).length) h2 rfl) (aT h3) (cj h4 h5) (gg (enc:=(aC af.cells)) (f:=fun a=>(ae a)) (fun _=>rfl) h6) h7 h8 h9) hL
theorem tq(b:Rs)(c:List (Rs))(h1:b.length≤0):ah b c (.aB [(dj (aC af.cells) c),.az]) :=
 lD 156 [1,1,3] [.a,.h 1 (iI (b.length:Int)),.f,.q,.fW 2 ((c:List (Rs)).map (aC af.cells))] (y3 (an af.cells b) (ar h1) (df (rO af.cells) (c:List (Rs)) (Eq.refl (c:List (Rs)).length)))
end nB
namespace jm
@[reducible] def fn:Func:=Tryz.f152
theorem e0(p:Rs)(l:List (Rs))(lo hi:af)(a b:Int)(h1:Cp 238 [(dj (aC af.cells) l),lo.pv] (vI a))(h2:Cp 238 [(dj (aC af.cells) l),hi.pv] (vI b))(h3:ax (a-b))(h4:(a-b)=0):av bp 152 [(.pv .dZ),(.pv (ae p)),(.pv (dj (aC af.cells) l)),(.pv lo.pv),(.pv hi.pv)] [] (.row 0 0 0 6) [(0,(.pure (([]:List ai).map ai.cells).flatten))] :=
 KJ func152 90 [1,1,1,1] [.kx 0 1 6,.q,dr 7 1 [.none,.none,(.pv (vI a)),.none,.none,(.pv (vI b)),(iI (a-b))],.q,.t,.q,.sV 1 0,.drop [9,8],.ord [0]] (y4 h1 h2 (aT h3) (a8 h4))
theorem e1(p:Rs)(l:List (Rs))(lo hi:af)(a b c d:Int)(g:ai)(h1:Cp 238 [(dj (aC af.cells) l),lo.pv] (vI a))(h2:Cp 238 [(dj (aC af.cells) l),hi.pv] (vI b))(h3:ax (a-b))(h4:(a-b)≠0)(h5:(a-b)=1)(h6:Cp 239 [ae p,lo.pv] (vI c))(h7:c≠0)(h8:Cp 239 [ae p,hi.pv] (vI d))(h9:d=0)(dh:Cp 65 [hi.pv] g.pv)(gb:(([]:List ai)++[g]:List ai).length*112≤140737488355328):av bp 152 [(.pv .dZ),(.pv (ae p)),(.pv (dj (aC af.cells) l)),(.pv lo.pv),(.pv hi.pv)] [] (.row 0 0 ([g].length) 6) [(0,(.pure (([g]:List ai).map ai.cells).flatten))] :=
 KJ func152 117 [1,1,1,1,1,1,1,1,1,1,1,1,1,1,6] [.kx 0 1 6,.q,dr 7 1 [.none,.none,(.pv (vI a)),.none,.none,(.pv (vI b)),(iI (a-b))],.q,.f,.aR [.o,.o,.o,.o,.o,(.pv (vI c)),.o,(.dec true)],.t,.h 2 (.pv (vI d)),.t,.aR [.o,.o,(.pv g.pv),.o,(.app ([g]:List ai).length (([g]:List ai).map ai.cells).flatten)],.sV 39 0,.drop [38,9,8],.ord [0]] (KL h1 h2 (aT h3) (bg h4) (a8 h5) (a8 h5) (a8 h5) h6 (a8 h5) (a8 h5) (lx h7) h8 (a8 h9) dh (iK qY ([]:List ai) ([g]:List ai) 112 (Eq.refl ([]:List ai).length) (Eq.refl ([g]:List ai).length) gb rfl))
theorem e2(p:Rs)(l:List (Rs))(lo hi:af)(a b c d:Int)(g i:af)(h1:Cp 238 [(dj (aC af.cells) l),lo.pv] (vI a))(h2:Cp 238 [(dj (aC af.cells) l),hi.pv] (vI b))(h3:ax (a-b))(h4:(a-b)≠0)(h5:(a-b)=1)(h6:Cp 239 [ae p,lo.pv] (vI c))(h7:c≠0)(h8:Cp 239 [ae p,hi.pv] (vI d))(h9:d≠0)(dh:Cp 91 [lo.pv,(⟨false,[],[]⟩:af).pv] g.pv)(gb:Cp 91 [hi.pv,(⟨false,[],[]⟩:af).pv] i.pv)(kh:(([]:List ai)++[(⟨g,i⟩:ai)]:List ai).length*112≤140737488355328):av bp 152 [(.pv .dZ),(.pv (ae p)),(.pv (dj (aC af.cells) l)),(.pv lo.pv),(.pv hi.pv)] [] (.row 0 0 ([(⟨g,i⟩:ai)].length) 6) [(0,(.pure (([(⟨g,i⟩:ai)]:List ai).map ai.cells).flatten))] :=
 KJ func152 120 [1,1,1,1,1,1,1,1,1,1,1,1,1,1,1,6] [.kx 0 1 6,.q,dr 7 1 [.none,.none,(.pv (vI a)),.none,.none,(.pv (vI b)),(iI (a-b))],.q,.f,.aR [.o,.o,.o,.o,.o,(.pv (vI c)),.o,(.dec true)],.t,.h 2 (.pv (vI d)),.f,dr 9 2 [.none,.none,.none,(.pv g.pv),.none,.none,(.pv i.pv),.none,.none,(.app ([(⟨g,i⟩:ai)]:List ai).length (([(⟨g,i⟩:ai)]:List ai).map ai.cells).flatten)],.sV 49 0,.drop [48,9,8],.ord [0]] (Hq h1 h2 (aT h3) (bg h4) (a8 h5) (a8 h5) (a8 h5) h6 (a8 h5) (a8 h5) (lx h7) h8 (bg h9) dh gb (iK qY ([]:List ai) ([(⟨g,i⟩:ai)]:List ai) 112 (Eq.refl ([]:List ai).length) (Eq.refl ([(⟨g,i⟩:ai)]:List ai).length) kh rfl))
theorem Ez(p:List af)(l:List (List af))(lo hi kt:af)(z z1:List ai):xZ bp oh fn.ntmps (bM (focus [0,2,0,2,0,0,2,1,2,0,0,2,1,2,0,2,0] [.code (ay fn)])) (np (bM (focus [0,2,0,2,0,0,2,1,2,0,0,2,1,2,0,2,0] [.code (ay fn)])) [0,1,2,6,7]) (ky (bM (focus [0,2,0,2,0,0,2,1,2,0,0,2,1,2,0,2,0] [.code (ay fn)])) [0,1,2,6,7]) [.none,.none,.none,.none,.none,(.bO [(1,200000)] (some (0,59)) (.row 0 0 z.length 6) [(0,(.pure ((z:List ai).map ai.cells).flatten))]),.none,.none,.none,.none,(.bO [(59,200000)] (some (0,64)) (.row 0 0 z1.length 6) [(0,(.pure ((z1:List ai).map ai.cells).flatten))]),.none] (Dd oh fn.ntmps (bM (focus [0,2,0,2,0,0,2,1,2,0,0,2,1,2,0,2,0] [.code (ay fn)])) [0,1,2,6,7] ⟨[(0,(.row 1 0 0 6)),(1,(.pv (ae p))),(2,(.pv (dj (aC af.cells) l))),(8,(.ptr 8 0)),(9,(.ptr 9 0)),(12,(.ptr 12 0))],[(12,(.lit [(eB kt.neg),(.pv (aa kt.num)),(.pv (aa kt.den))])),(9,(.lit [(eB hi.neg),(.pv (aa hi.num)),(.pv (aa hi.den))])),(8,(.lit [(eB lo.neg),(.pv (aa lo.num)),(.pv (aa lo.den))])),(1,(.pure (([]:List ai).map ai.cells).flatten))]⟩)=x5 bp oh fn.ntmps (bM (focus [0,2,0,2,0,0,2,1,2,0,0,2,1,2,0,2,0] [.code (ay fn)])) (np (bM (focus [0,2,0,2,0,0,2,1,2,0,0,2,1,2,0,2,0] [.code (ay fn)])) [0,1,2,6,7]) (ky (bM (focus [0,2,0,2,0,0,2,1,2,0,0,2,1,2,0,2,0] [.code (ay fn)])) [0,1,2,6,7]) [.none,.none,.none,.none,.none,(.bO [(1,200000)] (some (0,59)) (.row 0 0 z.length 6) [(0,(.pure ((z:List ai).map ai.cells).flatten))]),.none,.none,.none,.none,(.bO [(59,200000)] (some (0,64)) (.row 0 0 z1.length 6) [(0,(.pure ((z1:List ai).map ai.cells).flatten))]),.none] (Dd oh fn.ntmps (bM (focus [0,2,0,2,0,0,2,1,2,0,0,2,1,2,0,2,0] [.code (ay fn)])) [0,1,2,6,7] ⟨[(0,(.row 1 0 0 6)),(1,(.pv (ae p))),(2,(.pv (dj (aC af.cells) l))),(8,(.ptr 8 0)),(9,(.ptr 9 0)),(12,(.ptr 12 0))],[(12,(.lit [(eB kt.neg),(.pv (aa kt.num)),(.pv (aa kt.den))])),(9,(.lit [(eB hi.neg),(.pv (aa hi.num)),(.pv (aa hi.den))])),(8,(.lit [(eB lo.neg),(.pv (aa lo.num)),(.pv (aa lo.den))])),(1,(.pure (([]:List ai).map ai.cells).flatten))]⟩):=by kernel_rfl
theorem e3(p:Rs)(l:List (Rs))(lo hi:af)(a b c:Int)(d:af)(z z1:List ai)(h1:Cp 238 [(dj (aC af.cells) l),lo.pv] (vI a))(h2:Cp 238 [(dj (aC af.cells) l),hi.pv] (vI b))(h3:ax (a-b))(h4:(a-b)≠0)(h5:(a-b)=1)(h6:Cp 239 [ae p,lo.pv] (vI c))(h7:c=0)(h8:Cp 176 [(⟨lo,hi⟩:ai).pv] d.pv)(h9:av bp 152 [.row 200000 0 0 6,.pv (ae p),.pv (dj (aC af.cells) l),.pv lo.pv,.pv d.pv] [(200000,(.pure (([]:List ai).map ai.cells).flatten))] (.row 0 0 z.length 6) [(0,(.pure ((z:List ai).map ai.cells).flatten))])(dh:av bp 152 [.row 200000 0 z.length 6,.pv (ae p),.pv (dj (aC af.cells) l),.pv d.pv,.pv hi.pv] [(200000,(.pure ((z:List ai).map ai.cells).flatten))] (.row 0 0 z1.length 6) [(0,(.pure ((z1:List ai).map ai.cells).flatten))]):av bp 152 [(.pv .dZ),(.pv (ae p)),(.pv (dj (aC af.cells) l)),(.pv lo.pv),(.pv hi.pv)] [] (.row 0 0 z1.length 6) [(0,(.pure ((z1:List ai).map ai.cells).flatten))] :=
 KJ func152 114 [1,1,1,1,1,1,1,1,1,1,1,1,1,1,1] [.kx 0 1 6,.q,dr 7 1 [.none,.none,(.pv (vI a)),.none,.none,(.pv (vI b)),(iI (a-b))],.q,.f,.aR [.o,.o,.o,.o,.o,(.pv (vI c)),.o,(.dec true)],.f,.h 3 (.pv d.pv),.aF [0,1,2,8,9,12],.any [0,1,2,6,7] [.none,.none,.none,.none,.none,(.bO [(1,200000)] (some (0,59)) (.row 0 0 z.length 6) [(0,(.pure ((z:List ai).map ai.cells).flatten))]),.none,.none,.none,.none,(.bO [(59,200000)] (some (0,64)) (.row 0 0 z1.length 6) [(0,(.pure ((z1:List ai).map ai.cells).flatten))]),.none],.sV 64 0,.drop [12,9,8],.ord [0]] (KL h1 h2 (aT h3) (bg h4) (a8 h5) (a8 h5) (a8 h5) h6 (a8 h5) (a8 h5) (gf h7) h8 h9 dh (Ez p l lo hi d z z1))
theorem EA(p:List af)(l:List (List af))(lo hi kt:af)(z z1:List ai):xZ bp oh fn.ntmps (bM (focus [0,2,0,2,0,0,2,1,2,0,0,2,1,2,0,2,0] [.code (ay fn)])) (np (bM (focus [0,2,0,2,0,0,2,1,2,0,0,2,1,2,0,2,0] [.code (ay fn)])) [0,1,2,6,7]) (ky (bM (focus [0,2,0,2,0,0,2,1,2,0,0,2,1,2,0,2,0] [.code (ay fn)])) [0,1,2,6,7]) [.none,.none,.none,.none,.none,(.bO [(1,200000)] (some (0,59)) (.row 0 0 z.length 6) [(0,(.pure ((z:List ai).map ai.cells).flatten))]),.none,.none,.none,.none,(.bO [(59,200000)] (some (0,64)) (.row 0 0 z1.length 6) [(0,(.pure ((z1:List ai).map ai.cells).flatten))]),.none] (Dd oh fn.ntmps (bM (focus [0,2,0,2,0,0,2,1,2,0,0,2,1,2,0,2,0] [.code (ay fn)])) [0,1,2,6,7] ⟨[(0,(.row 1 0 0 6)),(1,(.pv (ae p))),(2,(.pv (dj (aC af.cells) l))),(8,(.ptr 8 0)),(9,(.ptr 9 0)),(12,(.ptr 12 0))],[(12,(.lit [(eB kt.neg),(.pv (aa kt.num)),(.pv (aa kt.den))])),(9,(.lit [(eB hi.neg),(.pv (aa hi.num)),(.pv (aa hi.den))])),(8,(.lit [(eB lo.neg),(.pv (aa lo.num)),(.pv (aa lo.den))])),(1,(.pure (([]:List ai).map ai.cells).flatten))]⟩)=x5 bp oh fn.ntmps (bM (focus [0,2,0,2,0,0,2,1,2,0,0,2,1,2,0,2,0] [.code (ay fn)])) (np (bM (focus [0,2,0,2,0,0,2,1,2,0,0,2,1,2,0,2,0] [.code (ay fn)])) [0,1,2,6,7]) (ky (bM (focus [0,2,0,2,0,0,2,1,2,0,0,2,1,2,0,2,0] [.code (ay fn)])) [0,1,2,6,7]) [.none,.none,.none,.none,.none,(.bO [(1,200000)] (some (0,59)) (.row 0 0 z.length 6) [(0,(.pure ((z:List ai).map ai.cells).flatten))]),.none,.none,.none,.none,(.bO [(59,200000)] (some (0,64)) (.row 0 0 z1.length 6) [(0,(.pure ((z1:List ai).map ai.cells).flatten))]),.none] (Dd oh fn.ntmps (bM (focus [0,2,0,2,0,0,2,1,2,0,0,2,1,2,0,2,0] [.code (ay fn)])) [0,1,2,6,7] ⟨[(0,(.row 1 0 0 6)),(1,(.pv (ae p))),(2,(.pv (dj (aC af.cells) l))),(8,(.ptr 8 0)),(9,(.ptr 9 0)),(12,(.ptr 12 0))],[(12,(.lit [(eB kt.neg),(.pv (aa kt.num)),(.pv (aa kt.den))])),(9,(.lit [(eB hi.neg),(.pv (aa hi.num)),(.pv (aa hi.den))])),(8,(.lit [(eB lo.neg),(.pv (aa lo.num)),(.pv (aa lo.den))])),(1,(.pure (([]:List ai).map ai.cells).flatten))]⟩):=by kernel_rfl
theorem e4(p:Rs)(l:List (Rs))(lo hi:af)(b c:Int)(d:af)(z z1:List ai)(h1:Cp 238 [(dj (aC af.cells) l),lo.pv] (vI b))(h2:Cp 238 [(dj (aC af.cells) l),hi.pv] (vI c))(h3:ax (b-c))(h4:(b-c)≠0)(h5:(b-c)≠1)(h6:Cp 176 [(⟨lo,hi⟩:ai).pv] d.pv)(h7:av bp 152 [.row 200000 0 0 6,.pv (ae p),.pv (dj (aC af.cells) l),.pv lo.pv,.pv d.pv] [(200000,(.pure (([]:List ai).map ai.cells).flatten))] (.row 0 0 z.length 6) [(0,(.pure ((z:List ai).map ai.cells).flatten))])(h8:av bp 152 [.row 200000 0 z.length 6,.pv (ae p),.pv (dj (aC af.cells) l),.pv d.pv,.pv hi.pv] [(200000,(.pure ((z:List ai).map ai.cells).flatten))] (.row 0 0 z1.length 6) [(0,(.pure ((z1:List ai).map ai.cells).flatten))]):av bp 152 [(.pv .dZ),(.pv (ae p)),(.pv (dj (aC af.cells) l)),(.pv lo.pv),(.pv hi.pv)] [] (.row 0 0 z1.length 6) [(0,(.pure ((z1:List ai).map ai.cells).flatten))] :=
 KJ func152 114 [1,1,1,1,1,1,1,1,1,1,1,1,1] [.kx 0 1 6,.q,dr 7 1 [.none,.none,(.pv (vI b)),.none,.none,(.pv (vI c)),(iI (b-c))],.q,.f,.aR [.o,.o,.o,.skip,.skip,.skip,.skip,(.dec false)],.a,.h 3 (.pv d.pv),.aF [0,1,2,8,9,12],.any [0,1,2,6,7] [.none,.none,.none,.none,.none,(.bO [(1,200000)] (some (0,59)) (.row 0 0 z.length 6) [(0,(.pure ((z:List ai).map ai.cells).flatten))]),.none,.none,.none,.none,(.bO [(59,200000)] (some (0,64)) (.row 0 0 z1.length 6) [(0,(.pure ((z1:List ai).map ai.cells).flatten))]),.none],.sV 64 0,.drop [12,9,8],.ord [0]] (Js h1 h2 (aT h3) (bg h4) (bg h5) (bg h5) (bg h5) (bg h5) (bg h5) h6 h7 h8 (EA p l lo hi d z z1))
end jm
namespace jn
@[reducible] def fn:Func:=Tryz.f152
theorem e0(a:List ai)(p:Rs)(l:List (Rs))(lo hi:af)(b c:Int)(h1:Cp 238 [(dj (aC af.cells) l),lo.pv] (vI b))(h2:Cp 238 [(dj (aC af.cells) l),hi.pv] (vI c))(h3:ax (b-c))(h4:(b-c)=0):av bp 152 [(.row 200000 0 a.length 6),(.pv (ae p)),(.pv (dj (aC af.cells) l)),(.pv lo.pv),(.pv hi.pv)] [(200000,(.pure ((a:List ai).map ai.cells).flatten))] (.row 0 0 a.length 6) [(0,(.pure ((a:List ai).map ai.cells).flatten))] :=
 KJ func152 90 [1,1,1,1] [.sV 200000 1,.q,dr 7 1 [.none,.none,(.pv (vI b)),.none,.none,(.pv (vI c)),(iI (b-c))],.q,.t,.q,.sV 1 0,.drop [9,8],.ord [0]] (y4 h1 h2 (aT h3) (a8 h4))
theorem e1(a:List ai)(p:Rs)(l:List (Rs))(lo hi:af)(b c d g:Int)(i:ai)(h1:Cp 238 [(dj (aC af.cells) l),lo.pv] (vI b))(h2:Cp 238 [(dj (aC af.cells) l),hi.pv] (vI c))(h3:ax (b-c))(h4:(b-c)≠0)(h5:(b-c)=1)(h6:Cp 239 [ae p,lo.pv] (vI d))(h7:d≠0)(h8:Cp 239 [ae p,hi.pv] (vI g))(h9:g=0)(dh:Cp 65 [hi.pv] i.pv)(gb:((a++[i]):List ai).length*112≤140737488355328):av bp 152 [(.row 200000 0 a.length 6),(.pv (ae p)),(.pv (dj (aC af.cells) l)),(.pv lo.pv),(.pv hi.pv)] [(200000,(.pure ((a:List ai).map ai.cells).flatten))] (.row 0 0 ((a++[i]).length) 6) [(0,(.pure (((a++[i]):List ai).map ai.cells).flatten))] :=
 KJ func152 117 [1,1,1,1,1,1,1,1,1,1,1,1,1,1,6] [.sV 200000 1,.q,dr 7 1 [.none,.none,(.pv (vI b)),.none,.none,(.pv (vI c)),(iI (b-c))],.q,.f,.aR [.o,.o,.o,.o,.o,(.pv (vI d)),.o,(.dec true)],.t,.h 2 (.pv (vI g)),.t,.aR [.o,.o,(.pv i.pv),.o,(.app ((a++[i]):List ai).length (((a++[i]):List ai).map ai.cells).flatten)],.sV 39 0,.drop [38,9,8],.ord [0]] (KL h1 h2 (aT h3) (bg h4) (a8 h5) (a8 h5) (a8 h5) h6 (a8 h5) (a8 h5) (lx h7) h8 (a8 h9) dh (iK qY (a:List ai) ([i]:List ai) 112 (Eq.refl (a:List ai).length) (Eq.refl ([i]:List ai).length) gb rfl))
theorem e2(a:List ai)(p:Rs)(l:List (Rs))(lo hi:af)(b c d g:Int)(i j:af)(h1:Cp 238 [(dj (aC af.cells) l),lo.pv] (vI b))(h2:Cp 238 [(dj (aC af.cells) l),hi.pv] (vI c))(h3:ax (b-c))(h4:(b-c)≠0)(h5:(b-c)=1)(h6:Cp 239 [ae p,lo.pv] (vI d))(h7:d≠0)(h8:Cp 239 [ae p,hi.pv] (vI g))(h9:g≠0)(dh:Cp 91 [lo.pv,(⟨false,[],[]⟩:af).pv] i.pv)(gb:Cp 91 [hi.pv,(⟨false,[],[]⟩:af).pv] j.pv)(kh:((a++[(⟨i,j⟩:ai)]):List ai).length*112≤140737488355328):av bp 152 [(.row 200000 0 a.length 6),(.pv (ae p)),(.pv (dj (aC af.cells) l)),(.pv lo.pv),(.pv hi.pv)] [(200000,(.pure ((a:List ai).map ai.cells).flatten))] (.row 0 0 ((a++[(⟨i,j⟩:ai)]).length) 6) [(0,(.pure (((a++[(⟨i,j⟩:ai)]):List ai).map ai.cells).flatten))] :=
 KJ func152 120 [1,1,1,1,1,1,1,1,1,1,1,1,1,1,1,6] [.sV 200000 1,.q,dr 7 1 [.none,.none,(.pv (vI b)),.none,.none,(.pv (vI c)),(iI (b-c))],.q,.f,.aR [.o,.o,.o,.o,.o,(.pv (vI d)),.o,(.dec true)],.t,.h 2 (.pv (vI g)),.f,dr 9 2 [.none,.none,.none,(.pv i.pv),.none,.none,(.pv j.pv),.none,.none,(.app ((a++[(⟨i,j⟩:ai)]):List ai).length (((a++[(⟨i,j⟩:ai)]):List ai).map ai.cells).flatten)],.sV 49 0,.drop [48,9,8],.ord [0]] (Hq h1 h2 (aT h3) (bg h4) (a8 h5) (a8 h5) (a8 h5) h6 (a8 h5) (a8 h5) (lx h7) h8 (bg h9) dh gb (iK qY (a:List ai) ([(⟨i,j⟩:ai)]:List ai) 112 (Eq.refl (a:List ai).length) (Eq.refl ([(⟨i,j⟩:ai)]:List ai).length) kh rfl))
theorem Ez(out:List ai)(p:List af)(l:List (List af))(lo hi kt:af)(z z1:List ai):xZ bp oh fn.ntmps (bM (focus [0,2,0,2,0,0,2,1,2,0,0,2,1,2,0,2,0] [.code (ay fn)])) (np (bM (focus [0,2,0,2,0,0,2,1,2,0,0,2,1,2,0,2,0] [.code (ay fn)])) [0,1,2,6,7]) (ky (bM (focus [0,2,0,2,0,0,2,1,2,0,0,2,1,2,0,2,0] [.code (ay fn)])) [0,1,2,6,7]) [.none,.none,.none,.none,.none,(.bO [(1,200000)] (some (0,59)) (.row 0 0 z.length 6) [(0,(.pure ((z:List ai).map ai.cells).flatten))]),.none,.none,.none,.none,(.bO [(59,200000)] (some (0,64)) (.row 0 0 z1.length 6) [(0,(.pure ((z1:List ai).map ai.cells).flatten))]),.none] (Dd oh fn.ntmps (bM (focus [0,2,0,2,0,0,2,1,2,0,0,2,1,2,0,2,0] [.code (ay fn)])) [0,1,2,6,7] ⟨[(0,(.row 1 0 out.length 6)),(1,(.pv (ae p))),(2,(.pv (dj (aC af.cells) l))),(8,(.ptr 8 0)),(9,(.ptr 9 0)),(12,(.ptr 12 0))],[(12,(.lit [(eB kt.neg),(.pv (aa kt.num)),(.pv (aa kt.den))])),(9,(.lit [(eB hi.neg),(.pv (aa hi.num)),(.pv (aa hi.den))])),(8,(.lit [(eB lo.neg),(.pv (aa lo.num)),(.pv (aa lo.den))])),(1,(.pure ((out:List ai).map ai.cells).flatten))]⟩)=x5 bp oh fn.ntmps (bM (focus [0,2,0,2,0,0,2,1,2,0,0,2,1,2,0,2,0] [.code (ay fn)])) (np (bM (focus [0,2,0,2,0,0,2,1,2,0,0,2,1,2,0,2,0] [.code (ay fn)])) [0,1,2,6,7]) (ky (bM (focus [0,2,0,2,0,0,2,1,2,0,0,2,1,2,0,2,0] [.code (ay fn)])) [0,1,2,6,7]) [.none,.none,.none,.none,.none,(.bO [(1,200000)] (some (0,59)) (.row 0 0 z.length 6) [(0,(.pure ((z:List ai).map ai.cells).flatten))]),.none,.none,.none,.none,(.bO [(59,200000)] (some (0,64)) (.row 0 0 z1.length 6) [(0,(.pure ((z1:List ai).map ai.cells).flatten))]),.none] (Dd oh fn.ntmps (bM (focus [0,2,0,2,0,0,2,1,2,0,0,2,1,2,0,2,0] [.code (ay fn)])) [0,1,2,6,7] ⟨[(0,(.row 1 0 out.length 6)),(1,(.pv (ae p))),(2,(.pv (dj (aC af.cells) l))),(8,(.ptr 8 0)),(9,(.ptr 9 0)),(12,(.ptr 12 0))],[(12,(.lit [(eB kt.neg),(.pv (aa kt.num)),(.pv (aa kt.den))])),(9,(.lit [(eB hi.neg),(.pv (aa hi.num)),(.pv (aa hi.den))])),(8,(.lit [(eB lo.neg),(.pv (aa lo.num)),(.pv (aa lo.den))])),(1,(.pure ((out:List ai).map ai.cells).flatten))]⟩):=by kernel_rfl
theorem e3(a:List ai)(p:Rs)(l:List (Rs))(lo hi:af)(b c d:Int)(g:af)(z z1:List ai)(h1:Cp 238 [(dj (aC af.cells) l),lo.pv] (vI b))(h2:Cp 238 [(dj (aC af.cells) l),hi.pv] (vI c))(h3:ax (b-c))(h4:(b-c)≠0)(h5:(b-c)=1)(h6:Cp 239 [ae p,lo.pv] (vI d))(h7:d=0)(h8:Cp 176 [(⟨lo,hi⟩:ai).pv] g.pv)(h9:av bp 152 [.row 200000 0 a.length 6,.pv (ae p),.pv (dj (aC af.cells) l),.pv lo.pv,.pv g.pv] [(200000,(.pure ((a:List ai).map ai.cells).flatten))] (.row 0 0 z.length 6) [(0,(.pure ((z:List ai).map ai.cells).flatten))])(dh:av bp 152 [.row 200000 0 z.length 6,.pv (ae p),.pv (dj (aC af.cells) l),.pv g.pv,.pv hi.pv] [(200000,(.pure ((z:List ai).map ai.cells).flatten))] (.row 0 0 z1.length 6) [(0,(.pure ((z1:List ai).map ai.cells).flatten))]):av bp 152 [(.row 200000 0 a.length 6),(.pv (ae p)),(.pv (dj (aC af.cells) l)),(.pv lo.pv),(.pv hi.pv)] [(200000,(.pure ((a:List ai).map ai.cells).flatten))] (.row 0 0 z1.length 6) [(0,(.pure ((z1:List ai).map ai.cells).flatten))] :=
 KJ func152 114 [1,1,1,1,1,1,1,1,1,1,1,1,1,1,1] [.sV 200000 1,.q,dr 7 1 [.none,.none,(.pv (vI b)),.none,.none,(.pv (vI c)),(iI (b-c))],.q,.f,.aR [.o,.o,.o,.o,.o,(.pv (vI d)),.o,(.dec true)],.f,.h 3 (.pv g.pv),.aF [0,1,2,8,9,12],.any [0,1,2,6,7] [.none,.none,.none,.none,.none,(.bO [(1,200000)] (some (0,59)) (.row 0 0 z.length 6) [(0,(.pure ((z:List ai).map ai.cells).flatten))]),.none,.none,.none,.none,(.bO [(59,200000)] (some (0,64)) (.row 0 0 z1.length 6) [(0,(.pure ((z1:List ai).map ai.cells).flatten))]),.none],.sV 64 0,.drop [12,9,8],.ord [0]] (KL h1 h2 (aT h3) (bg h4) (a8 h5) (a8 h5) (a8 h5) h6 (a8 h5) (a8 h5) (gf h7) h8 h9 dh (Ez a p l lo hi g z z1))
theorem EA(out:List ai)(p:List af)(l:List (List af))(lo hi kt:af)(z z1:List ai):xZ bp oh fn.ntmps (bM (focus [0,2,0,2,0,0,2,1,2,0,0,2,1,2,0,2,0] [.code (ay fn)])) (np (bM (focus [0,2,0,2,0,0,2,1,2,0,0,2,1,2,0,2,0] [.code (ay fn)])) [0,1,2,6,7]) (ky (bM (focus [0,2,0,2,0,0,2,1,2,0,0,2,1,2,0,2,0] [.code (ay fn)])) [0,1,2,6,7]) [.none,.none,.none,.none,.none,(.bO [(1,200000)] (some (0,59)) (.row 0 0 z.length 6) [(0,(.pure ((z:List ai).map ai.cells).flatten))]),.none,.none,.none,.none,(.bO [(59,200000)] (some (0,64)) (.row 0 0 z1.length 6) [(0,(.pure ((z1:List ai).map ai.cells).flatten))]),.none] (Dd oh fn.ntmps (bM (focus [0,2,0,2,0,0,2,1,2,0,0,2,1,2,0,2,0] [.code (ay fn)])) [0,1,2,6,7] ⟨[(0,(.row 1 0 out.length 6)),(1,(.pv (ae p))),(2,(.pv (dj (aC af.cells) l))),(8,(.ptr 8 0)),(9,(.ptr 9 0)),(12,(.ptr 12 0))],[(12,(.lit [(eB kt.neg),(.pv (aa kt.num)),(.pv (aa kt.den))])),(9,(.lit [(eB hi.neg),(.pv (aa hi.num)),(.pv (aa hi.den))])),(8,(.lit [(eB lo.neg),(.pv (aa lo.num)),(.pv (aa lo.den))])),(1,(.pure ((out:List ai).map ai.cells).flatten))]⟩)=x5 bp oh fn.ntmps (bM (focus [0,2,0,2,0,0,2,1,2,0,0,2,1,2,0,2,0] [.code (ay fn)])) (np (bM (focus [0,2,0,2,0,0,2,1,2,0,0,2,1,2,0,2,0] [.code (ay fn)])) [0,1,2,6,7]) (ky (bM (focus [0,2,0,2,0,0,2,1,2,0,0,2,1,2,0,2,0] [.code (ay fn)])) [0,1,2,6,7]) [.none,.none,.none,.none,.none,(.bO [(1,200000)] (some (0,59)) (.row 0 0 z.length 6) [(0,(.pure ((z:List ai).map ai.cells).flatten))]),.none,.none,.none,.none,(.bO [(59,200000)] (some (0,64)) (.row 0 0 z1.length 6) [(0,(.pure ((z1:List ai).map ai.cells).flatten))]),.none] (Dd oh fn.ntmps (bM (focus [0,2,0,2,0,0,2,1,2,0,0,2,1,2,0,2,0] [.code (ay fn)])) [0,1,2,6,7] ⟨[(0,(.row 1 0 out.length 6)),(1,(.pv (ae p))),(2,(.pv (dj (aC af.cells) l))),(8,(.ptr 8 0)),(9,(.ptr 9 0)),(12,(.ptr 12 0))],[(12,(.lit [(eB kt.neg),(.pv (aa kt.num)),(.pv (aa kt.den))])),(9,(.lit [(eB hi.neg),(.pv (aa hi.num)),(.pv (aa hi.den))])),(8,(.lit [(eB lo.neg),(.pv (aa lo.num)),(.pv (aa lo.den))])),(1,(.pure ((out:List ai).map ai.cells).flatten))]⟩):=by kernel_rfl
theorem e4(b:List ai)(p:Rs)(l:List (Rs))(lo hi:af)(c d:Int)(g:af)(z z1:List ai)(h1:Cp 238 [(dj (aC af.cells) l),lo.pv] (vI c))(h2:Cp 238 [(dj (aC af.cells) l),hi.pv] (vI d))(h3:ax (c-d))(h4:(c-d)≠0)(h5:(c-d)≠1)(h6:Cp 176 [(⟨lo,hi⟩:ai).pv] g.pv)(h7:av bp 152 [.row 200000 0 b.length 6,.pv (ae p),.pv (dj (aC af.cells) l),.pv lo.pv,.pv g.pv] [(200000,(.pure ((b:List ai).map ai.cells).flatten))] (.row 0 0 z.length 6) [(0,(.pure ((z:List ai).map ai.cells).flatten))])(h8:av bp 152 [.row 200000 0 z.length 6,.pv (ae p),.pv (dj (aC af.cells) l),.pv g.pv,.pv hi.pv] [(200000,(.pure ((z:List ai).map ai.cells).flatten))] (.row 0 0 z1.length 6) [(0,(.pure ((z1:List ai).map ai.cells).flatten))]):av bp 152 [(.row 200000 0 b.length 6),(.pv (ae p)),(.pv (dj (aC af.cells) l)),(.pv lo.pv),(.pv hi.pv)] [(200000,(.pure ((b:List ai).map ai.cells).flatten))] (.row 0 0 z1.length 6) [(0,(.pure ((z1:List ai).map ai.cells).flatten))] :=
 KJ func152 114 [1,1,1,1,1,1,1,1,1,1,1,1,1] [.sV 200000 1,.q,dr 7 1 [.none,.none,(.pv (vI c)),.none,.none,(.pv (vI d)),(iI (c-d))],.q,.f,.aR [.o,.o,.o,.skip,.skip,.skip,.skip,(.dec false)],.a,.h 3 (.pv g.pv),.aF [0,1,2,8,9,12],.any [0,1,2,6,7] [.none,.none,.none,.none,.none,(.bO [(1,200000)] (some (0,59)) (.row 0 0 z.length 6) [(0,(.pure ((z:List ai).map ai.cells).flatten))]),.none,.none,.none,.none,(.bO [(59,200000)] (some (0,64)) (.row 0 0 z1.length 6) [(0,(.pure ((z1:List ai).map ai.cells).flatten))]),.none],.sV 64 0,.drop [12,9,8],.ord [0]] (Js h1 h2 (aT h3) (bg h4) (bg h5) (bg h5) (bg h5) (bg h5) (bg h5) h6 h7 h8 (EA b p l lo hi g z z1))
end jn
namespace fL
@[reducible] def fn:Func:=Tryz.f159
def a7:List eH:=focus [0,2,0,2,0,2,0,2,0,0,0] [.code (ay fn)]
def inv1(WL:List af)(Ah:List (List af)):St:=⟨[(5,(.pv (ae WL))),(7,(.row 22 0 Ah.length 1))],[(22,(.pure ((Ah:List (List af)).map (aC af.cells)).flatten))]⟩
@[reducible] def ah(WL:List af)(Ah:List (List af))(r:PV):Prop:=L bp fn a7 (inv1 WL Ah) r
theorem e0(p a:Rs)(b:Int)(c:Rs)(d:Int){r:PV}(h1:Cp 78 [ae p] (.aB [ae a,vI b]))(h2:Cp 84 [ae a] (.aB [ae c,vI d]))(hL:ah c [a] r):Cp 159 [ae p] r :=
 eG func159 93 [1,1] [.q,.h 1 (.pv (.aB [ae a,vI b])),.h 1 (.pv (.aB [ae c,vI d])),.q,.aF [5,7]] (y2 h1 h2) hL
theorem l10(b:Rs)(c:List (Rs))(k:Nat)(v d g:Rs)(i:Int)(of:af)(j:Rs)(l:Int){r:PV}(h1:0<b.length)(h2:((c++[b]):List (Rs)).length*24≤140737488355328)(h3:ax ((((c++[b]).length:Nat):Int)-2))(h4:((((c++[b]).length:Nat):Int)-2)=(k:Int))(h5:k<(c++[b]).length)(h6:(c++[b])[k]? = some v)(h7:Cp 242 [ae v,ae b] (.aB [ae d,ae g,vI i]))(h8:Cp 89 [(vI (-1))] of.pv)(h9:Cp 243 [ae g,of.pv] (.aB [ae j,vI l]))(hL:ah j (c++[b]) r):ah b c r :=
 lG 132 [1,1,6,1,2,1,1,1,1] [.a,.h 1 (iI (b.length:Int)),.t,.h 3 (.app ((c++[b]):List (Rs)).length (((c++[b]):List (Rs)).map (aC af.cells)).flatten),.aR [.o,.o,.o,(iI ((((c++[b]).length:Nat):Int)-2)),(.nat k),(.ev (.pv (ae v))),.o,(.pv (.aB [ae d,ae g,vI i]))],.aR [.o,(.pv of.pv),(.pv (.aB [ae j,vI l]))],.aF [5,7],.drop [28],.sV 29 22] (y9 (an af.cells b) (aj h1) (iK (rO af.cells) (c:List (Rs)) ([b]:List (Rs)) 24 (Eq.refl (c:List (Rs)).length) (Eq.refl ([b]:List (Rs)).length) h2 rfl) (aT h3) (cj h4 h5) (gg (enc:=(aC af.cells)) (f:=fun a=>(ae a)) (fun _=>rfl) h6) h7 h8 h9) hL
theorem cR(b:Rs)(c:List (Rs))(h1:b.length≤0):ah b c (dj (aC af.cells) c) :=
 lD 126 [1,1,3] [.a,.h 1 (iI (b.length:Int)),.f,.q,.fW 2 ((c:List (Rs)).map (aC af.cells))] (y3 (an af.cells b) (ar h1) (df (rO af.cells) (c:List (Rs)) (Eq.refl (c:List (Rs)).length)))
end fL
namespace qk
theorem e0(p:Rs)(h1:Cp 79 [ae p] .az)(h2:p.length=0):Cp 165 [ae p] (.iface 67 (vI 8)) :=
 eD func165 105 [1,1,1] [.q,.h 1 (.pv .az),.q,.a,.h 1 (iI (p.length:Int)),.t,.q] (y3 h1 (an af.cells p) (aN h2))
theorem e1(p:Rs)(h1:Cp 79 [ae p] .az)(h2:p.length≠0):Cp 165 [ae p] .az :=
 eD func165 108 [1,1,1] [.q,.h 1 (.pv .az),.q,.a,.h 1 (iI (p.length:Int)),.f,.q] (y3 h1 (an af.cells p) (aA h2))
theorem e2(p:Rs)(b:Int)(h1:Cp 79 [ae p] (.iface 67 (vI b))):Cp 165 [ae p] (.iface 67 (vI b)) :=
 eD func165 90 [1] [.q,.h 1 (.pv (.iface 67 (vI b))),.q,.a,.q] (y1 h1)
end qk
namespace jf
theorem e0(p:Rs)(rV:ai)(a:Bool)(h1:Cp 213 [rV.pv] (vB a))(h2:a=false):Cp 166 [ae p,rV.pv] (.aB [vB false,.az]) :=
 eD func166 84 [1,1] [.q,.h 1 (.pv (vB a)),.t,.q] (y2 h1 (cv h2))
theorem e1(p:Rs)(rV:ai)(a:Bool)(b c:Int)(h1:Cp 213 [rV.pv] (vB a))(h2:a=true)(h3:Cp 34 [rV.lo.pv,rV.hi.pv] (vI b))(h4:b=0)(h5:Cp 239 [ae p,rV.lo.pv] (vI c)):Cp 166 [ae p,rV.pv] (.aB [(vB (c==0)),.az]) :=
 eD func166 99 [1,1,1,1,1] [.q,.h 1 (.pv (vB a)),.f,.h 4 (.pv (vI b)),.t,.h 3 (.pv (vI c))] (y5 h1 (aO h2) h3 (a8 h4) h5)
theorem e2(p:Rs)(rV:ai)(b:Bool)(c:Int)(d:Rs)(g i:Int)(h1:Cp 213 [rV.pv] (vB b))(h2:b=true)(h3:Cp 34 [rV.lo.pv,rV.hi.pv] (vI c))(h4:c≠0)(h5:Cp 76 [ae p] (.aB [ae d,.az]))(h6:Cp 239 [ae d,rV.lo.pv] (vI g))(h7:Cp 239 [ae d,rV.hi.pv] (vI i))(h8:ax (g*i))(h9:(g*i)≠(-1)):Cp 166 [ae p,rV.pv] (.aB [vB false,.az]) :=
 eD func166 135 [1,1,1,1,1,1,1,1,1] [.q,.h 1 (.pv (vB b)),.f,.h 4 (.pv (vI c)),.f,.h 1 (.pv (.aB [ae d,.az])),.q,.a,dr 10 0 [.none,.none,.none,(.pv (vI g)),.none,.none,.none,(.pv (vI i)),(iI (g*i))],.t,.q] (y9 h1 (aO h2) h3 (bg h4) h5 h6 h7 (vu h8) (lx h9))
theorem e3(p:Rs)(rV:ai)(b:Bool)(c:Int)(d:Rs)(g i j:Int)(k:Option Int)(h1:Cp 213 [rV.pv] (vB b))(h2:b=true)(h3:Cp 34 [rV.lo.pv,rV.hi.pv] (vI c))(h4:c≠0)(h5:Cp 76 [ae p] (.aB [ae d,.az]))(h6:Cp 239 [ae d,rV.lo.pv] (vI g))(h7:Cp 239 [ae d,rV.hi.pv] (vI i))(h8:ax (g*i))(h9:(g*i)=(-1))(dh:Cp 246 [ae p,rV.lo.pv,rV.hi.pv] (.aB [vI j,bw k])):Cp 166 [ae p,rV.pv] (.aB [(vB (j==1)),bw k]) :=
 eD func166 144 [1,1,1,1,1,1,1,1,1,1] [.q,.h 1 (.pv (vB b)),.f,.h 4 (.pv (vI c)),.f,.h 1 (.pv (.aB [ae d,.az])),.q,.a,dr 10 0 [.none,.none,.none,(.pv (vI g)),.none,.none,.none,(.pv (vI i)),(iI (g*i))],.f,.h 5 (.pv (.aB [vI j,bw k])),.q] (F8 h1 (aO h2) h3 (bg h4) h5 h6 h7 (vu h8) (gf h9) dh)
end jf
namespace ej
theorem e0(p:Rs)(rV:ai)(a:Bool)(h1:Cp 247 [rV.pv] (vB a))(h2:a=false):Cp 168 [ae p,rV.pv] (vB false) :=
 eD func168 84 [1,1] [.q,.h 1 (.pv (vB a)),.t,.q] (y2 h1 (cv h2))
theorem e1(p:Rs)(rV:ai)(a:Bool)(b c:Int)(h1:Cp 247 [rV.pv] (vB a))(h2:a=true)(h3:Cp 69 [rV.lo.pv,rV.hi.pv] (vI b))(h4:b=0)(h5:Cp 248 [ae p,rV.lo.pv] (vI c)):Cp 168 [ae p,rV.pv] (vB (c==0)) :=
 eD func168 99 [1,1,1,1,1] [.q,.h 1 (.pv (vB a)),.f,.h 4 (.pv (vI b)),.t,.h 3 (.pv (vI c))] (y5 h1 (aO h2) h3 (a8 h4) h5)
theorem e2(p:Rs)(rV:ai)(a:Bool)(b c d g:Int)(h1:Cp 247 [rV.pv] (vB a))(h2:a=true)(h3:Cp 69 [rV.lo.pv,rV.hi.pv] (vI b))(h4:b≠0)(h5:Cp 248 [ae p,rV.lo.pv] (vI c))(h6:Cp 248 [ae p,rV.hi.pv] (vI d))(h7:ax (c*d))(h8:(c*d)=(-1))(h9:Cp 249 [ae p,rV.lo.pv,rV.hi.pv] (vI g)):Cp 168 [ae p,rV.pv] (vB (g==1)) :=
 eD func168 102 [1,1,1,1,1,1,1,1,1,1,1,1,1,1,1,1] [.q,.h 1 (.pv (vB a)),.f,.h 4 (.pv (vI b)),.f,dr 19 1 [.none,.none,.none,(.pv (vI c)),.none,.none,.none,(.pv (vI d)),(iI (c*d)),.none,.none,.none,.none,.none,.none,.none,(.pv (vI g)),.none,(.dec true)]] (Hq h1 (aO h2) h3 (bg h4) h5 h6 (vu h7) (a8 h8) (a8 h8) (a8 h8) (a8 h8) (a8 h8) (a8 h8) h9 (a8 h8) (a8 h8))
theorem e3(p:Rs)(rV:ai)(a:Bool)(b c d:Int)(h1:Cp 247 [rV.pv] (vB a))(h2:a=true)(h3:Cp 69 [rV.lo.pv,rV.hi.pv] (vI b))(h4:b≠0)(h5:Cp 248 [ae p,rV.lo.pv] (vI c))(h6:Cp 248 [ae p,rV.hi.pv] (vI d))(h7:ax (c*d))(h8:(c*d)≠(-1)):Cp 168 [ae p,rV.pv] (vB false) :=
 eD func168 102 [1,1,1,1,1,1,1,1,1,1,1,1,1,1,1] [.q,.h 1 (.pv (vB a)),.f,.h 4 (.pv (vI b)),.f,dr 19 1 [.none,.none,.none,(.pv (vI c)),.none,.none,.none,(.pv (vI d)),(iI (c*d)),.none,.none,.skip,.skip,.skip,.skip,.skip,.skip,.skip,(.dec false)]] (KL h1 (aO h2) h3 (bg h4) h5 h6 (vu h7) (bg h8) (bg h8) (bg h8) (bg h8) (bg h8) (bg h8) (bg h8) (bg h8))
end ej
namespace oa
theorem e4(p:Rs)(lo hi:af)(a:Int)(b c:Bool)(d g:Int)(h1:Cp 83 [ae p] (vI a))(h2:a=0)(h3:Cp 111 [lo.pv] (vB b))(h4:b=true)(h5:Cp 111 [hi.pv] (vB c))(h6:c=true)(h7:Cp 69 [lo.pv,hi.pv] (vI d))(h8:d≤0)(h9:Cp 249 [ae p,lo.pv,hi.pv] (vI g)):Cp 207 [ae p,lo.pv,hi.pv] (.aB [vI g,vI 0]) :=
 eD func207 108 [1,1,1,1,1,1,1,1,1,1,1,1,1,1,1,1] [.q,.h 1 (.pv (vI a)),.q,.f,.aR [.o,(.pv (vB b)),.o,.o,.o,(.pv (vB c)),.o,(.dec false),.o,.o,.o,(.pv (vI d)),.o,(.dec false)],.f,.h 3 (.pv (vI g))] (Hq h1 (gf h2) h3 (aO h4) (aO h4) h5 (aO h4) (aO h4) (aO h6) (aO h6) (aO h6) h7 (aO h6) (aO h6) (bf h8) h9)
end oa
namespace gX
@[reducible] def fn:Func:=Tryz.f238
def a7:List eH:=focus [0,2,0,2,0,0,2,0,0] [.code (ay fn)]
def inv1(Rw:Nat)(vF:Int)(l:List (List af))(BA:Nat)(x:af):St:=⟨[(3,(.ptr 3 0)),(5,(eI (Rw:Int))),(6,(eI vF)),(10,(.pv (dj (aC af.cells) l))),(11,(eI (l.length:Int))),(12,(eI (BA:Int)))],[(3,(.lit [(eB x.neg),(.pv (aa x.num)),(.pv (aa x.den))]))]⟩
@[reducible] def ah(Rw:Nat)(vF:Int)(l:List (List af))(BA:Nat)(x:af)(r:PV):Prop:=L bp fn a7 (inv1 Rw vF l BA x) r
theorem e0 (l : List (Rs)) (x : af) {r : PV}  (hL : ah 0 0 l 0 x r) : Cp 238 [(dj (aC af.cells) l), x.pv] r :=
 eG func238 87 [1] [.q,.q,.h 1 (iI (l.length:Int)),.aF [3,5,6,10,11,12]] (y1 (an (aC af.cells) l)) hL
theorem l10(b:Nat)(c:Int)(l:List (Rs))(d:Nat)(x:af)(v:Rs)(g:Int){r:PV}(h1:d<l.length)(h2:l[d]? = some v)(h3:Cp 239 [ae v,x.pv] (vI g))(h4:g≠0)(h5:ax (-c))(h6:g=(-c))(h7:(b+1)<9223372036854775808)(h8:(d+1)<9223372036854775808)(hL:ah (b+1) g l (d+1) x r):ah b c l d x r :=
 lG 156 [1,3,1,1,1,1,1,1] [.a,.q,.t,.h 0 (.row d ((aC af.cells) v)),.h 2 (.pv (vI g)),.q,.t,.h 2 (iI (-c)),.t,.h 1 (iI (((b+1):Nat):Int)),.q,.h 0 (iI (((d+1):Nat):Int)),.aF [3,5,6,10,11,12]] (y8 (aj h1) (bT (aC af.cells) (Eq.refl (((d:Nat):Int):Int)) h2) h3 (lx h4) (x6 h5) (a8 h6) (aM h7) (aM h8)) hL
theorem cR(b:Nat)(c:Int)(l:List (Rs))(d:Nat)(x:af)(v:Rs)(g:Int){r:PV}(h1:d<l.length)(h2:l[d]? = some v)(h3:Cp 239 [ae v,x.pv] (vI g))(h4:g≠0)(h5:ax (-c))(h6:g≠(-c))(h7:(d+1)<9223372036854775808)(hL:ah b g l (d+1) x r):ah b c l d x r :=
 lG 156 [1,3,1,1,1,1,1] [.a,.q,.t,.h 0 (.row d ((aC af.cells) v)),.h 2 (.pv (vI g)),.q,.t,.h 2 (iI (-c)),.f,.q,.h 0 (iI (((d+1):Nat):Int)),.aF [3,5,6,10,11,12]] (y7 (aj h1) (bT (aC af.cells) (Eq.refl (((d:Nat):Int):Int)) h2) h3 (lx h4) (x6 h5) (bg h6) (aM h7)) hL
theorem kM(b:Nat)(c:Int)(l:List (Rs))(d:Nat)(x:af)(v:Rs)(g:Int){r:PV}(h1:d<l.length)(h2:l[d]? = some v)(h3:Cp 239 [ae v,x.pv] (vI g))(h4:g=0)(h5:(d+1)<9223372036854775808)(hL:ah b c l (d+1) x r):ah b c l d x r :=
 lG 141 [1,3,1,1,1] [.a,.q,.t,.h 0 (.row d ((aC af.cells) v)),.h 2 (.pv (vI g)),.q,.f,.h 0 (iI (((d+1):Nat):Int)),.aF [3,5,6,10,11,12]] (y5 (aj h1) (bT (aC af.cells) (Eq.refl (((d:Nat):Int):Int)) h2) h3 (gf h4) (aM h5)) hL
theorem tq(b:Nat)(c:Int)(l:List (Rs))(d:Nat)(x:af)(h1:l.length≤d):ah b c l d x (vI (b:Int)) :=
 lD 120 [1] [.a,.q,.f,.q] (y1 (ar h1))
end gX
namespace tz
theorem e0(p:Rs)(x a:af)(b:Option Int)(c:Int)(h1:Cp 133 [ae p,x.pv] (.aB [a.pv,bw b]))(h2:Cp 33 [a.pv] (vI c)):Cp 239 [ae p,x.pv] (vI c) :=
 eD func239 78 [1,1] [.q,.h 2 (.pv (.aB [a.pv,bw b])),.h 1 (.pv (vI c))] (y2 h1 h2)
end tz
namespace dc
@[reducible] def fn:Func:=Tryz.f241
def a7:List eH:=focus [0,2,0,2,0,0,2,0,0] [.code (ay fn)]
def inv1(Rw:Nat)(vF:Int)(l:List (List af))(BA:Nat)(x:af):St:=⟨[(3,(.ptr 3 0)),(5,(eI (Rw:Int))),(6,(eI vF)),(10,(.pv (dj (aC af.cells) l))),(11,(eI (l.length:Int))),(12,(eI (BA:Int)))],[(3,(.lit [(eB x.neg),(.pv (aa x.num)),(.pv (aa x.den))]))]⟩
@[reducible] def ah(Rw:Nat)(vF:Int)(l:List (List af))(BA:Nat)(x:af)(r:PV):Prop:=L bp fn a7 (inv1 Rw vF l BA x) r
theorem e0 (l : List (Rs)) (x : af) {r : PV}  (hL : ah 0 0 l 0 x r) : Cp 241 [(dj (aC af.cells) l), x.pv] r :=
 eG func241 87 [1] [.q,.q,.h 1 (iI (l.length:Int)),.aF [3,5,6,10,11,12]] (y1 (an (aC af.cells) l)) hL
theorem l10(b:Nat)(c:Int)(l:List (Rs))(d:Nat)(x:af)(v:Rs)(g:af)(i:Int){r:PV}(h1:d<l.length)(h2:l[d]? = some v)(h3:Cp 208 [ae v,x.pv] g.pv)(h4:Cp 124 [g.pv] (vI i))(h5:i=0)(h6:(d+1)<9223372036854775808)(hL:ah b c l (d+1) x r):ah b c l d x r :=
 lG 147 [1,3,1,1,1,1] [.a,.q,.t,.h 0 (.row d ((aC af.cells) v)),.aR [.o,.o,(.pv g.pv),(.pv (vI i))],.q,.t,.h 0 (iI (((d+1):Nat):Int)),.aF [3,5,6,10,11,12]] (y6 (aj h1) (bT (aC af.cells) (Eq.refl (((d:Nat):Int):Int)) h2) h3 h4 (a8 h5) (aM h6)) hL
theorem cR(b:Nat)(c:Int)(l:List (Rs))(d:Nat)(x:af)(v:Rs)(g:af)(i:Int){r:PV}(h1:d<l.length)(h2:l[d]? = some v)(h3:Cp 208 [ae v,x.pv] g.pv)(h4:Cp 124 [g.pv] (vI i))(h5:i≠0)(h6:ax (-c))(h7:i=(-c))(h8:(b+1)<9223372036854775808)(h9:(d+1)<9223372036854775808)(hL:ah (b+1) i l (d+1) x r):ah b c l d x r :=
 lG 162 [1,3,1,1,1,1,1,1,1] [.a,.q,.t,.h 0 (.row d ((aC af.cells) v)),.aR [.o,.o,(.pv g.pv),(.pv (vI i))],.q,.f,.h 2 (iI (-c)),.t,.h 1 (iI (((b+1):Nat):Int)),.q,.h 0 (iI (((d+1):Nat):Int)),.aF [3,5,6,10,11,12]] (y9 (aj h1) (bT (aC af.cells) (Eq.refl (((d:Nat):Int):Int)) h2) h3 h4 (bg h5) (x6 h6) (a8 h7) (aM h8) (aM h9)) hL
theorem kM(b:Nat)(c:Int)(l:List (Rs))(d:Nat)(x:af)(v:Rs)(g:af)(i:Int){r:PV}(h1:d<l.length)(h2:l[d]? = some v)(h3:Cp 208 [ae v,x.pv] g.pv)(h4:Cp 124 [g.pv] (vI i))(h5:i≠0)(h6:ax (-c))(h7:i≠(-c))(h8:(d+1)<9223372036854775808)(hL:ah b i l (d+1) x r):ah b c l d x r :=
 lG 162 [1,3,1,1,1,1,1,1] [.a,.q,.t,.h 0 (.row d ((aC af.cells) v)),.aR [.o,.o,(.pv g.pv),(.pv (vI i))],.q,.f,.h 2 (iI (-c)),.f,.q,.h 0 (iI (((d+1):Nat):Int)),.aF [3,5,6,10,11,12]] (y8 (aj h1) (bT (aC af.cells) (Eq.refl (((d:Nat):Int):Int)) h2) h3 h4 (bg h5) (x6 h6) (bg h7) (aM h8)) hL
theorem tq(b:Nat)(c:Int)(l:List (Rs))(d:Nat)(x:af)(h1:l.length≤d):ah b c l d x (vI (b:Int)) :=
 lD 120 [1] [.a,.q,.f,.q] (y1 (ar h1))
end dc
namespace zc
theorem e3(p:Rs)(lo hi:af)(b c:Bool)(d:Int)(g:List (Rs))(i j:Int)(h1:Cp 165 [ae p] .az)(h2:Cp 164 [lo.pv] (vB b))(h3:b=true)(h4:Cp 164 [hi.pv] (vB c))(h5:c=true)(h6:Cp 34 [lo.pv,hi.pv] (vI d))(h7:d≤0)(h8:Cp 151 [ae p] (.aB [(dj (aC af.cells) g),.az]))(h9:Cp 238 [(dj (aC af.cells) g),lo.pv] (vI i))(dh:Cp 238 [(dj (aC af.cells) g),hi.pv] (vI j))(gb:ax (i-j)):Cp 246 [ae p,lo.pv,hi.pv] (.aB [(vI (i-j)),.az]) :=
 eD func246 129 [1,1,1,1,1,1,1,1,1,1,1,1,1,1,1,1,1,1] [.q,.h 1 (.pv .az),.q,.a,.aR [.o,(.pv (vB b)),.o,.o,.o,(.pv (vB c)),.o,(.dec false),.o,.o,.o,(.pv (vI d)),.o,(.dec false)],.f,.h 1 (.pv (.aB [(dj (aC af.cells) g),.az])),.q,.a,dr 7 2 [.none,.none,(.pv (vI i)),.none,.none,(.pv (vI j)),(iI (i-j))]] (TQ h1 h2 (aO h3) (aO h3) h4 (aO h3) (aO h3) (aO h5) (aO h5) (aO h5) h6 (aO h5) (aO h5) (bf h7) h8 h9 dh (aT gb))
end zc
namespace o7
theorem e0(p:Rs)(x:af)(a:Rs)(b:Int)(c:af)(d:Int)(h1:Cp 78 [ae p] (.aB [ae a,vI b]))(h2:Cp 208 [ae a,x.pv] c.pv)(h3:Cp 124 [c.pv] (vI d)):Cp 248 [ae p,x.pv] (vI d) :=
 eD func248 78 [1,1,1] [.q,.h 1 (.pv (.aB [ae a,vI b])),.aR [.o,.o,(.pv c.pv),(.pv (vI d))]] (y3 h1 h2 h3)
end o7
namespace oc
theorem e0(p:Rs)(lo hi:af)(a:List (Rs))(b c:Int)(h1:Cp 159 [ae p] (dj (aC af.cells) a))(h2:Cp 241 [(dj (aC af.cells) a),lo.pv] (vI b))(h3:Cp 241 [(dj (aC af.cells) a),hi.pv] (vI c))(h4:ax (b-c)):Cp 249 [ae p,lo.pv,hi.pv] (vI (b-c)) :=
 eD func249 78 [1,1,1,1] [.q,.h 1 (.pv (dj (aC af.cells) a)),dr 7 1 [.none,.none,(.pv (vI b)),.none,.none,(.pv (vI c)),(iI (b-c))]] (y4 h1 h2 h3 (aT h4))
end oc
namespace gD
theorem e0(a:aH)(h1:Cp 79 [ae a.p] .az)(h2:a.p.length=0):Cp 23 [a.pv] (.iface 67 (vI 8)) :=
 eD func23 105 [1,1,1] [.q,.h 2 (.pv .az),.q,.a,.h 2 (iI (a.p.length:Int)),.t,.q] (y3 h1 (an af.cells a.p) (aN h2))
theorem e1(a:aH)(b c:Rs)(h1:Cp 79 [ae a.p] .az)(h2:a.p.length≠0)(h3:Cp 80 [ae a.p] (.aB [ae b,.az]))(h4:Cp 81 [ae a.p,ae b] (.aB [ae c,.az]))(h5:c.length≠1):Cp 23 [a.pv] (.iface 67 (vI 2)) :=
 eD func23 162 [1,1,1,1,1,1,1] [.q,.h 2 (.pv .az),.q,.a,.h 2 (iI (a.p.length:Int)),.f,.h 2 (.pv (.aB [ae b,.az])),.q,.a,.h 3 (.pv (.aB [ae c,.az])),.q,.a,.h 1 (iI (c.length:Int)),.t,.q] (y7 h1 (an af.cells a.p) (aA h2) h3 h4 (an af.cells c) (ko h5))
theorem e2(a:aH)(b c:Rs)(d:Bool)(h1:Cp 79 [ae a.p] .az)(h2:a.p.length≠0)(h3:Cp 80 [ae a.p] (.aB [ae b,.az]))(h4:Cp 81 [ae a.p,ae b] (.aB [ae c,.az]))(h5:c.length=1)(h6:Cp 82 [ae a.p,a.rV.pv] (.aB [vB d,.az]))(h7:d=false):Cp 23 [a.pv] (.iface 67 (vI 14)) :=
 eD func23 183 [1,1,1,1,1,1,1,1,1,1,1] [.q,.h 2 (.pv .az),.q,.a,.h 2 (iI (a.p.length:Int)),.f,.h 2 (.pv (.aB [ae b,.az])),.q,.a,.h 3 (.pv (.aB [ae c,.az])),.q,.a,.h 1 (iI (c.length:Int)),.f,.h 4 (.pv (.aB [vB d,.az])),.q,.t,.q] (Dg h1 (an af.cells a.p) (aA h2) h3 h4 (an af.cells c) (iJ h5) h6 (Eq.refl true) (Eq.refl true) (cv h7))
theorem e3(a:aH)(b c:Rs)(d:Bool)(h1:Cp 79 [ae a.p] .az)(h2:a.p.length≠0)(h3:Cp 80 [ae a.p] (.aB [ae b,.az]))(h4:Cp 81 [ae a.p,ae b] (.aB [ae c,.az]))(h5:c.length=1)(h6:Cp 82 [ae a.p,a.rV.pv] (.aB [vB d,.az]))(h7:d=true):Cp 23 [a.pv] .az :=
 eD func23 186 [1,1,1,1,1,1,1,1,1,1,1] [.q,.h 2 (.pv .az),.q,.a,.h 2 (iI (a.p.length:Int)),.f,.h 2 (.pv (.aB [ae b,.az])),.q,.a,.h 3 (.pv (.aB [ae c,.az])),.q,.a,.h 1 (iI (c.length:Int)),.f,.h 4 (.pv (.aB [vB d,.az])),.q,.f,.q] (Dg h1 (an af.cells a.p) (aA h2) h3 h4 (an af.cells c) (iJ h5) h6 (Eq.refl true) (Eq.refl true) (aO h7))
theorem e7(a:aH)(b:Int)(h1:Cp 79 [ae a.p] (.iface 67 (vI b))):Cp 23 [a.pv] (.iface 67 (vI b)) :=
 eD func23 90 [1] [.q,.h 2 (.pv (.iface 67 (vI b))),.q,.a,.q] (y1 h1)
end gD
namespace jg
@[reducible] def fn:Func:=Tryz.f21
def a7:List eH:=focus [0,2,0,2,0,0,2,1,2,0,2,0,0,2,0,0] [.code (ay fn)]
def inv1(p:List af)(Ai:List aH)(Jv:List ai)(Ii:Nat):St:=⟨[(0,(.pv (ae p))),(6,(.row 38 0 Ai.length 7)),(19,(.pv (dj ai.cells Jv))),(20,(eI (Jv.length:Int))),(21,(eI (Ii:Int)))],[(38,(.pure ((Ai:List aH).map aH.cells).flatten))]⟩
@[reducible] def ah(p:List af)(Ai:List aH)(Jv:List ai)(Ii:Nat)(r:PV):Prop:=L bp fn a7 (inv1 p Ai Jv Ii) r
theorem e0(p:Rs)(b:List ai){r:PV}(h1:Cp 75 [ae p] (.aB [dj ai.cells b,.az]))(hL:ah p [] b 0 r):Cp 21 [ae p] r :=
 eG func21 108 [1,1] [.q,.h 1 (.pv (.aB [dj ai.cells b,.az])),.q,.a,.h 0 .nil,.kx 6 38 7,.h 1 (iI (b.length:Int)),.aF [0,6,19,20,21]] (y2 h1 (an ai.cells b)) hL
theorem l10(p:Rs)(b:List aH)(c:List ai)(d:Nat)(v:ai)(g:Rs){r:PV}(h1:d<c.length)(h2:c[d]? = some v)(h3:Cp 76 [ae p] (.aB [ae g,.az]))(h4:((b++[(⟨g,v⟩:aH)]):List aH).length*136≤140737488355328)(h5:(d+1)<9223372036854775808)(hL:ah p (b++[(⟨g,v⟩:aH)]) c (d+1) r):ah p b c d r :=
 lG 168 [1,3,1,6,1] [.a,.q,.t,.h 0 (.row d (ai.cells v)),.h 1 (.pv (.aB [ae g,.az])),.q,.a,.h 5 (.app ((b++[(⟨g,v⟩:aH)]):List aH).length (((b++[(⟨g,v⟩:aH)]):List aH).map aH.cells).flatten),.h 0 (iI (((d+1):Nat):Int)),.aF [0,6,19,20,21],.drop [37,8]] (y5 (aj h1) (bT ai.cells (Eq.refl (((d:Nat):Int):Int)) h2) h3 (iK pO (b:List aH) ([(⟨g,v⟩:aH)]:List aH) 136 (Eq.refl (b:List aH).length) (Eq.refl ([(⟨g,v⟩:aH)]:List aH).length) h4 rfl) (aM h5)) hL
theorem kM(p:Rs)(b:List aH)(c:List ai)(d:Nat)(h1:c.length≤d):ah p b c d (.aB [dj aH.cells b,.az]) :=
 lD 141 [1,3] [.a,.q,.f,.q,.fW 2 ((b:List aH).map aH.cells)] (y2 (ar h1) (df pO (b:List aH) (Eq.refl (b:List aH).length)))
end jg
namespace gN
theorem e0(a:aH)(x:af)(b c:Int)(h1:Cp 34 [a.rV.lo.pv,a.rV.hi.pv] (vI b))(h2:b=0)(h3:Cp 34 [a.rV.lo.pv,x.pv] (vI c)):Cp 64 [a.pv,x.pv] (.aB [vI c,.az]) :=
 eD func64 87 [1,1,1] [.q,.h 6 (.pv (vI b)),.t,.h 4 (.pv (vI c))] (y3 h1 (a8 h2) h3)
theorem e1(a:aH)(x:af)(b c:Int)(h1:Cp 34 [a.rV.lo.pv,a.rV.hi.pv] (vI b))(h2:b≠0)(h3:Cp 34 [x.pv,a.rV.lo.pv] (vI c))(h4:c≤0):Cp 64 [a.pv,x.pv] (.aB [vI 1,.az]) :=
 eD func64 96 [1,1,1,1] [.q,.h 6 (.pv (vI b)),.f,.h 4 (.pv (vI c)),.t,.q] (y4 h1 (bg h2) h3 (fo h4))
theorem e2(a:aH)(x:af)(b c d:Int)(h1:Cp 34 [a.rV.lo.pv,a.rV.hi.pv] (vI b))(h2:b≠0)(h3:Cp 34 [x.pv,a.rV.lo.pv] (vI c))(h4:0<c)(h5:Cp 34 [x.pv,a.rV.hi.pv] (vI d))(h6:0≤d):Cp 64 [a.pv,x.pv] (.aB [(vI (-1)),.az]) :=
 eD func64 105 [1,1,1,1,1,1] [.q,.h 6 (.pv (vI b)),.f,.h 4 (.pv (vI c)),.f,.h 4 (.pv (vI d)),.t,.q] (y6 h1 (bg h2) h3 (gM h4) h5 (fo h6))
theorem e3(a:aH)(x:af)(b c d:Int)(g i:af)(j k:Int)(h1:Cp 34 [a.rV.lo.pv,a.rV.hi.pv] (vI b))(h2:b≠0)(h3:Cp 34 [x.pv,a.rV.lo.pv] (vI c))(h4:0<c)(h5:Cp 34 [x.pv,a.rV.hi.pv] (vI d))(h6:d<0)(h7:Cp 133 [ae a.p,x.pv] (.aB [g.pv,.az]))(h8:Cp 133 [ae a.p,a.rV.lo.pv] (.aB [i.pv,.az]))(h9:Cp 33 [g.pv] (vI j))(dh:Cp 33 [i.pv] (vI k))(gb:ax (j*k)):Cp 64 [a.pv,x.pv] (.aB [(vI (j*k)),.az]) :=
 eD func64 153 [1,1,1,1,1,1,1,1,1,1,1] [.q,.h 6 (.pv (vI b)),.f,.h 4 (.pv (vI c)),.f,.h 4 (.pv (vI d)),.f,.h 3 (.pv (.aB [g.pv,.az])),.q,.a,.h 5 (.pv (.aB [i.pv,.az])),.q,.a,dr 5 2 [.none,(.pv (vI j)),.none,(.pv (vI k)),(iI (j*k))]] (Dg h1 (bg h2) h3 (gM h4) h5 (gM h6) h7 h8 h9 dh (vu gb))
end gN
namespace gE
theorem e0(a:aH)(b:Int)(h1:Cp 34 [a.rV.lo.pv,a.rV.hi.pv] (vI b))(h2:b=0):Cp 204 [a.pv] (.aB [a.pv,.az]) :=
 eD func204 84 [1,1] [.q,.h 6 (.pv (vI b)),.t,.q] (y2 h1 (a8 h2))
theorem e1(a:aH)(b:Int)(c:af)(d:Int)(g:ai)(h1:Cp 34 [a.rV.lo.pv,a.rV.hi.pv] (vI b))(h2:b≠0)(h3:Cp 176 [a.rV.pv] c.pv)(h4:Cp 64 [a.pv,c.pv] (.aB [vI d,.az]))(h5:d=0)(h6:Cp 65 [c.pv] g.pv):Cp 204 [a.pv] (.aB [(⟨a.p,g⟩:aH).pv,.az]) :=
 eD func204 135 [1,1,1,1,1,1] [.q,.h 6 (.pv (vI b)),.f,.h 2 (.pv c.pv),.h 2 (.pv (.aB [vI d,.az])),.q,.a,.q,.q,.t,dr 5 2 [.none,.none,.none,(.pv g.pv)]] (y6 h1 (bg h2) h3 h4 (a8 h5) h6)
theorem e2(a:aH)(b:Int)(c:af)(d:Int)(h1:Cp 34 [a.rV.lo.pv,a.rV.hi.pv] (vI b))(h2:b≠0)(h3:Cp 176 [a.rV.pv] c.pv)(h4:Cp 64 [a.pv,c.pv] (.aB [vI d,.az]))(h5:d≠0)(h6:d=1):Cp 204 [a.pv] (.aB [(⟨a.p,(⟨c,a.rV.hi⟩:ai)⟩:aH).pv,.az]) :=
 eD func204 144 [1,1,1,1,1,1] [.q,.h 6 (.pv (vI b)),.f,.h 2 (.pv c.pv),.h 2 (.pv (.aB [vI d,.az])),.q,.a,.q,.q,.f,.q,.t,.q] (y6 h1 (bg h2) h3 h4 (bg h5) (a8 h6))
theorem e3(a:aH)(b:Int)(c:af)(d:Int)(h1:Cp 34 [a.rV.lo.pv,a.rV.hi.pv] (vI b))(h2:b≠0)(h3:Cp 176 [a.rV.pv] c.pv)(h4:Cp 64 [a.pv,c.pv] (.aB [vI d,.az]))(h5:d≠0)(h6:d≠1):Cp 204 [a.pv] (.aB [(⟨a.p,(⟨a.rV.lo,c⟩:ai)⟩:aH).pv,.az]) :=
 eD func204 150 [1,1,1,1,1,1] [.q,.h 6 (.pv (vI b)),.f,.h 2 (.pv c.pv),.h 2 (.pv (.aB [vI d,.az])),.q,.a,.q,.q,.f,.q,.f,.q] (y6 h1 (bg h2) h3 h4 (bg h5) (bg h6))
end gE
namespace gw
theorem e0(p:Rs)(a:aH)(h1:p.length=0):Cp 201 [ae p,a.pv] (.aB [vB true,.az]) :=
 eD func201 84 [1,1] [.q,.h 1 (iI (p.length:Int)),.t,.q] (y2 (an af.cells p) (aN h1))
theorem e1(p:Rs)(a:aH)(b:Rs)(h1:p.length≠0)(h2:Cp 81 [ae p,ae a.p] (.aB [ae b,.az]))(h3:b.length<2):Cp 201 [ae p,a.pv] (.aB [vB false,.az]) :=
 eD func201 120 [1,1,1,1,1] [.q,.h 1 (iI (p.length:Int)),.f,.h 3 (.pv (.aB [ae b,.az])),.q,.a,.h 1 (iI (b.length:Int)),.t,.q] (y5 (an af.cells p) (aA h1) h2 (an af.cells b) (aj h3))
theorem e2(p:Rs)(a:aH)(b:Rs)(c:Int)(d:af)(g:Option Int)(i:Int)(h1:p.length≠0)(h2:Cp 81 [ae p,ae a.p] (.aB [ae b,.az]))(h3:2≤b.length)(h4:Cp 34 [a.rV.lo.pv,a.rV.hi.pv] (vI c))(h5:c=0)(h6:Cp 133 [ae b,a.rV.lo.pv] (.aB [d.pv,bw g]))(h7:Cp 33 [d.pv] (vI i)):Cp 201 [ae p,a.pv] (.aB [(vB (i==0)),bw g]) :=
 eD func201 141 [1,1,1,1,1,1,1,1,1] [.q,.h 1 (iI (p.length:Int)),.f,.h 3 (.pv (.aB [ae b,.az])),.q,.a,.h 1 (iI (b.length:Int)),.f,.h 6 (.pv (vI c)),.t,.h 4 (.pv (.aB [d.pv,bw g])),.h 1 (.pv (vI i))] (y9 (an af.cells p) (aA h1) h2 (an af.cells b) (ar h3) h4 (a8 h5) h6 h7)
theorem e3(p:Rs)(a:aH)(b:Rs)(c d:Int)(g:Option Int)(h1:p.length≠0)(h2:Cp 81 [ae p,ae a.p] (.aB [ae b,.az]))(h3:2≤b.length)(h4:Cp 34 [a.rV.lo.pv,a.rV.hi.pv] (vI c))(h5:c≠0)(h6:Cp 246 [ae b,a.rV.lo.pv,a.rV.hi.pv] (.aB [vI d,bw g])):Cp 201 [ae p,a.pv] (.aB [(vB (decide (d>0))),bw g]) :=
 eD func201 144 [1,1,1,1,1,1,1,1] [.q,.h 1 (iI (p.length:Int)),.f,.h 3 (.pv (.aB [ae b,.az])),.q,.a,.h 1 (iI (b.length:Int)),.f,.h 6 (.pv (vI c)),.f,.h 7 (.pv (.aB [vI d,bw g])),.q] (y8 (an af.cells p) (aA h1) h2 (an af.cells b) (ar h3) h4 (bg h5) h6)
end gw
namespace kO
theorem e0(a b:aH)(c:Bool)(h1:Cp 201 [ae b.p,a.pv] (.aB [vB c,.az]))(h2:c=false):Cp 174 [a.pv,b.pv] (.aB [vB false,.az]) :=
 eD func174 90 [1,1,1,1] [.q,.h 3 (.pv (.aB [vB c,.az])),.q,.t,.q] (y4 h1 (Eq.refl false) (Eq.refl false) (cv h2))
theorem e1(a b:aH)(c:Bool)(d g:Int)(i:Option Int)(h1:Cp 201 [ae b.p,a.pv] (.aB [vB c,.az]))(h2:c=true)(h3:Cp 64 [a.pv,b.rV.lo.pv] (.aB [vI d,.az]))(h4:Cp 64 [a.pv,b.rV.hi.pv] (.aB [vI g,bw i]))(h5:0≤d):Cp 174 [a.pv,b.pv] (.aB [(vB (decide (g≤0))),bw i]) :=
 eD func174 120 [1,1,1,1,1,1,1,1,1] [.q,.h 3 (.pv (.aB [vB c,.az])),.q,.f,.h 4 (.pv (.aB [vI d,.az])),.q,.a,.h 4 (.pv (.aB [vI g,bw i])),.h 5 (.dec true)] (y9 h1 (Eq.refl false) (Eq.refl false) (aO h2) h3 h4 (fo h5) (fo h5) (fo h5))
theorem e2(a b:aH)(c:Bool)(d g:Int)(i:Option Int)(h1:Cp 201 [ae b.p,a.pv] (.aB [vB c,.az]))(h2:c=true)(h3:Cp 64 [a.pv,b.rV.lo.pv] (.aB [vI d,.az]))(h4:Cp 64 [a.pv,b.rV.hi.pv] (.aB [vI g,bw i]))(h5:d<0):Cp 174 [a.pv,b.pv] (.aB [vB false,bw i]) :=
 eD func174 120 [1,1,1,1,1,1,1,1,1] [.q,.h 3 (.pv (.aB [vB c,.az])),.q,.f,.h 4 (.pv (.aB [vI d,.az])),.q,.a,.h 4 (.pv (.aB [vI g,bw i])),.aR [.o,.o,.o,.skip,.skip,(.dec false)]] (y9 h1 (Eq.refl false) (Eq.refl false) (aO h2) h3 h4 (gM h5) (gM h5) (gM h5))
end kO
namespace gF
@[reducible] def fn:Func:=Tryz.f175
def a7:List eH:=focus [0,2,0,0,0] [.code (ay fn)]
def inv1(dz cx:aH):St:=⟨[(2,(.ptr 2 0)),(3,(.ptr 3 0)),(4,(.ptr 4 0)),(5,(.ptr 5 0))],[(2,(.lit [(.pv (ae dz.p)),(eB dz.rV.lo.neg),(.pv (aa dz.rV.lo.num)),(.pv (aa dz.rV.lo.den)),(eB dz.rV.hi.neg),(.pv (aa dz.rV.hi.num)),(.pv (aa dz.rV.hi.den))])),(3,(.lit [(.pv (ae cx.p)),(eB cx.rV.lo.neg),(.pv (aa cx.rV.lo.num)),(.pv (aa cx.rV.lo.den)),(eB cx.rV.hi.neg),(.pv (aa cx.rV.hi.num)),(.pv (aa cx.rV.hi.den))])),(4,(.lit [(.pv (.list [])),(eB false),(.pv (.list [])),(.pv (.list [])),(eB false),(.pv (.list [])),(.pv (.list []))])),(5,(.lit [(.pv (.list [])),(eB false),(.pv (.list [])),(.pv (.list [])),(eB false),(.pv (.list [])),(.pv (.list []))]))]⟩
@[reducible] def ah(dz cx:aH)(r:PV):Prop:=L bp fn a7 (inv1 dz cx) r
theorem e0 (a b : aH) {r : PV}  (hL : ah a b r) : Cp 175 [a.pv, b.pv] r :=
 eG func175 75 [] [.q,.aF [2,3,4,5],.ord [2,3,4,5]] True.intro hL
theorem l10(b c:aH)(d g:Int)(i j:aH){r:PV}(h1:Cp 34 [b.rV.hi.pv,c.rV.lo.pv] (vI d))(h2:0<d)(h3:Cp 34 [c.rV.hi.pv,b.rV.lo.pv] (vI g))(h4:0<g)(h5:Cp 204 [b.pv] (.aB [i.pv,.az]))(h6:Cp 204 [c.pv] (.aB [j.pv,.az]))(hL:ah i j r):ah b c r :=
 lG 144 [1,1,1,1,1,1,1,1,1,1,1,1,1,1] [.a,.aR [.o,.o,.o,.o,.o,.o,(.pv (vI d)),.o,.o,.o,.o,.o,.o,.o,.o,(.pv (vI g)),.o,(.dec true)],.t,.q,.h 1 (.pv (.aB [i.pv,.az])),.q,.a,.h 1 (.pv (.aB [j.pv,.az])),.q,.a,.aF [2,3,4,5]] (Lk h1 (bR h2) (bR h2) (bR h2) (bR h2) (bR h2) (bR h2) (bR h2) h3 (bR h2) (bR h2) (bR h4) h5 h6) hL
theorem tq(b c:aH)(d g:Int)(h1:Cp 34 [b.rV.hi.pv,c.rV.lo.pv] (vI d))(h2:0<d)(h3:Cp 34 [c.rV.hi.pv,b.rV.lo.pv] (vI g))(h4:g≤0):ah b c (.aB [b.pv,c.pv,.az]) :=
 lD 108 [1,1,1,1,1,1,1,1,1,1,1,1] [.a,.aR [.o,.o,.o,.o,.o,.o,(.pv (vI d)),.o,.o,.o,.o,.o,.o,.o,.o,(.pv (vI g)),.o,(.dec true)],.f,dr 3 2 []] (KK h1 (bR h2) (bR h2) (bR h2) (bR h2) (bR h2) (bR h2) (bR h2) h3 (bR h2) (bR h2) (bf h4))
theorem Ew(b c:aH)(d:Int)(h1:Cp 34 [b.rV.hi.pv,c.rV.lo.pv] (vI d))(h2:d≤0):ah b c (.aB [b.pv,c.pv,.az]) :=
 lD 108 [1,1,1,1,1,1,1,1,1,1] [.a,.aR [.o,.o,.o,.o,.o,.o,(.pv (vI d)),.o,.o,.skip,.skip,.skip,.skip,.skip,.skip,.skip,.skip,(.dec false)],.a,dr 3 2 []] (F8 h1 (bf h2) (bf h2) (bf h2) (bf h2) (bf h2) (bf h2) (bf h2) (bf h2) (bf h2))
end gF
namespace na
theorem e0(a b:aH)(c:Bool)(h1:Cp 174 [a.pv,b.pv] (.aB [vB c,.az]))(h2:c=true):Cp 96 [a.pv,b.pv] (.aB [vI 0,.az]) :=
 eD func96 90 [1,1,1] [.q,.h 2 (.pv (.aB [vB c,.az])),.q,.t,.q] (y3 h1 (Eq.refl false) h2)
theorem e1(a b:aH)(c:Bool)(d g:aH)(i j:af)(k:Int)(h1:Cp 174 [a.pv,b.pv] (.aB [vB c,.az]))(h2:c=false)(h3:Cp 175 [a.pv,b.pv] (.aB [d.pv,g.pv,.az]))(h4:Cp 176 [d.rV.pv] i.pv)(h5:Cp 176 [g.rV.pv] j.pv)(h6:Cp 34 [i.pv,j.pv] (vI k))(h7:k<0):Cp 96 [a.pv,b.pv] (.aB [(vI (-1)),.az]) :=
 eD func96 126 [1,1,1,1,1,1,1,1] [.q,.h 2 (.pv (.aB [vB c,.az])),.q,.f,.h 2 (.pv (.aB [d.pv,g.pv,.az])),.q,.a,dr 8 0 [.none,.none,(.pv i.pv),.none,.none,(.pv j.pv),(.pv (vI k))],.t,.q] (y8 h1 (Eq.refl false) h2 h3 h4 h5 h6 (bR h7))
theorem e2(a b:aH)(c:Bool)(d g:aH)(i j:af)(k:Int)(h1:Cp 174 [a.pv,b.pv] (.aB [vB c,.az]))(h2:c=false)(h3:Cp 175 [a.pv,b.pv] (.aB [d.pv,g.pv,.az]))(h4:Cp 176 [d.rV.pv] i.pv)(h5:Cp 176 [g.rV.pv] j.pv)(h6:Cp 34 [i.pv,j.pv] (vI k))(h7:0≤k):Cp 96 [a.pv,b.pv] (.aB [vI 1,.az]) :=
 eD func96 129 [1,1,1,1,1,1,1,1] [.q,.h 2 (.pv (.aB [vB c,.az])),.q,.f,.h 2 (.pv (.aB [d.pv,g.pv,.az])),.q,.a,dr 8 0 [.none,.none,(.pv i.pv),.none,.none,(.pv j.pv),(.pv (vI k))],.f,.q] (y8 h1 (Eq.refl false) h2 h3 h4 h5 h6 (bf h7))
end na
namespace eJ
@[reducible] def fn:Func:=Tryz.f35
def a7:List eH:=focus [0,2,0,0,2,0,0] [.code (ay fn)]
def inv1(Ie:Nat)(a b:aH):St:=⟨[(2,(.ptr 2 0)),(3,(.ptr 3 0)),(11,(.row 11 0 2 7)),(12,(eI 2)),(13,(eI (Ie:Int)))],[(2,(.lit [(.pv (ae a.p)),(eB a.rV.lo.neg),(.pv (aa a.rV.lo.num)),(.pv (aa a.rV.lo.den)),(eB a.rV.hi.neg),(.pv (aa a.rV.hi.num)),(.pv (aa a.rV.hi.den))])),(3,(.lit [(.pv (ae b.p)),(eB b.rV.lo.neg),(.pv (aa b.rV.lo.num)),(.pv (aa b.rV.lo.den)),(eB b.rV.hi.neg),(.pv (aa b.rV.hi.num)),(.pv (aa b.rV.hi.den))])),(11,(.pure (([a,b]:List aH).map aH.cells).flatten))]⟩
@[reducible] def ah(Ie:Nat)(a b:aH)(r:PV):Prop:=L bp fn a7 (inv1 Ie a b) r
theorem e0 (a b : aH) {r : PV}  (hL : ah 0 a b r) : Cp 35 [a.pv, b.pv] r :=
 eG func35 81 [] [.q,.q,.aF [2,3,11,12,13],.ord [2,3,11]] True.intro hL
theorem l10(c:Nat)(a b v:aH){r:PV}(h1:c<2)(h2:[a,b][c]? = some v)(h3:Cp 23 [v.pv] .az)(h4:(c+1)<9223372036854775808)(hL:ah (c+1) a b r):ah c a b r :=
 lG 135 [1,2,2,1,1] [.a,.q,.t,.aR [(.nat c),(.Hv [ae v.p,vB v.rV.lo.neg,aa v.rV.lo.num,aa v.rV.lo.den,vB v.rV.hi.neg,aa v.rV.hi.num,aa v.rV.hi.den])],.h 1 (.pv .az),.q,.a,.h 0 (iI (((c+1):Nat):Int)),.aF [2,3,11,12,13],.drop [7]] (y5 (aj h1) (cj (Eq.refl (((c:Nat):Int):Int)) h1) (sI pO h2) h3 (aM h4)) hL
theorem cR(c:Nat)(a b v:aH)(d:Int)(h1:c<2)(h2:[a,b][c]? = some v)(h3:Cp 23 [v.pv] (.iface 67 (vI d))):ah c a b (.aB [vI 0,(.iface 67 (vI d))]) :=
 lD 132 [1,2,2,1] [.a,.q,.t,.aR [(.nat c),(.Hv [ae v.p,vB v.rV.lo.neg,aa v.rV.lo.num,aa v.rV.lo.den,vB v.rV.hi.neg,aa v.rV.hi.num,aa v.rV.hi.den])],.h 1 (.pv (.iface 67 (vI d))),.q,.a,.q] (y4 (aj h1) (cj (Eq.refl (((c:Nat):Int):Int)) h1) (sI pO h2) h3)
theorem kM(c:Nat)(a b:aH)(d:Int)(g:Option Int)(h1:2≤c)(h2:Cp 96 [a.pv,b.pv] (.aB [vI d,bw g])):ah c a b (.aB [vI d,bw g]) :=
 lD 114 [1,1] [.a,.q,.f,.h 2 (.pv (.aB [vI d,bw g]))] (y2 (ar h1) h2)
end eJ
namespace ir
@[reducible] def fn:Func:=Tryz.f63
def a7:List eH:=focus [0,2,0,2,0,0,2,0,0] [.code (ay fn)]
def inv1(bits:Int)(Mw:Nat)(n fP:au):St:=⟨[(2,(.ptr 2 0)),(4,(.ptr 4 0)),(6,(.ptr 6 0)),(8,(eI bits)),(9,(eI (Mw:Int)))],[(2,(.lit [(eB n.neg),(.pv (aa n.cD))])),(4,(.lit [(eB false),(.pv (.list [])),(.pv (.list []))])),(6,(.lit [(eB fP.neg),(.pv (aa fP.cD))]))]⟩
@[reducible] def ah(bits:Int)(Mw:Nat)(n fP:au)(r:PV):Prop:=L bp fn a7 (inv1 bits Mw n fP) r
theorem e0(n:au)(a:Int)(of:au){r:PV}(h1:Cp 67 [vI 1] of.pv)(hL:ah a 0 n of r):Cp 63 [n.pv,vI a] r :=
 eG func63 87 [1] [.q,.h 0 (.pv of.pv),.q,.aF [2,4,6,8,9],.ord [2,4,6]] (y1 h1) hL
theorem l10(b:Int)(c:Nat)(n d g:au){r:PV}(h1:(c:Int)<b)(h2:Cp 66 [d.pv,d.pv] g.pv)(h3:(c+1)<9223372036854775808)(hL:ah b (c+1) n g r):ah b c n d r :=
 lG 120 [1,1,1] [.a,.q,.t,.h 2 (.pv g.pv),.h 0 (iI (((c+1):Nat):Int)),.aF [2,4,6,8,9]] (y3 (bR h1) h2 (aM h3)) hL
theorem cR(b:Int)(c:Nat)(n d:au)(g:af)(i:Option Int)(h1:b≤(c:Int))(h2:Cp 90 [n.pv,d.pv] (.aB [g.pv,bw i])):ah b c n d (.aB [g.pv,bw i]) :=
 lD 120 [1,1] [.a,.q,.f,.h 2 (.pv (.aB [g.pv,bw i]))] (y2 (bf h1) h2)
end ir
namespace jJ
@[reducible] def fn:Func:=Tryz.f130
def a7:List eH:=focus [0,2,0,0,2,0,0] [.code (ay fn)]
def inv1(bits:Int)(Rr:Nat)(dz:af):St:=⟨[(2,(.ptr 2 0)),(4,(.ptr 4 0)),(5,(eI bits)),(6,(eI (Rr:Int)))],[(2,(.lit [(eB dz.neg),(.pv (aa dz.num)),(.pv (aa dz.den))])),(4,(.lit [(eB false),(.pv (.list []))]))]⟩
@[reducible] def ah(bits:Int)(Rr:Nat)(dz:af)(r:PV):Prop:=L bp fn a7 (inv1 bits Rr dz) r
theorem e0 (x : af) (a : Int) {r : PV}  (hL : ah a 0 x r) : Cp 130 [x.pv, vI a] r :=
 eG func130 81 [] [.q,.q,.aF [2,4,5,6],.ord [2,4]] True.intro hL
theorem l10(b:Int)(c:Nat)(d g:af){r:PV}(h1:(c:Int)<b)(h2:Cp 91 [d.pv,d.pv] g.pv)(h3:(c+1)<9223372036854775808)(hL:ah b (c+1) g r):ah b c d r :=
 lG 114 [1,1,1] [.a,.q,.t,.h 2 (.pv g.pv),.h 0 (iI (((c+1):Nat):Int)),.aF [2,4,5,6]] (y3 (bR h1) h2 (aM h3)) hL
theorem cR(b:Int)(c:Nat)(d:af)(g:au)(h1:b≤(c:Int))(h2:Cp 218 [d.pv] g.pv):ah b c d g.pv :=
 lD 114 [1,1] [.a,.q,.f,.h 1 (.pv g.pv)] (y2 (bf h1) h2)
end jJ
namespace gG
@[reducible] def fn:Func:=Tryz.f62
def a7:List eH:=focus [0,2,0,2,0,0,0] [.code (ay fn)]
def inv1(bits:Int)(a:aH)(fP cU:au):St:=⟨[(1,(eI bits)),(2,(.ptr 2 0)),(4,(.ptr 4 0)),(6,(.ptr 6 0)),(7,(.ptr 7 0))],[(2,(.lit [(.pv (ae a.p)),(eB a.rV.lo.neg),(.pv (aa a.rV.lo.num)),(.pv (aa a.rV.lo.den)),(eB a.rV.hi.neg),(.pv (aa a.rV.hi.num)),(.pv (aa a.rV.hi.den))])),(4,(.lit [(eB false),(.pv (.list []))])),(6,(.lit [(eB fP.neg),(.pv (aa fP.cD))])),(7,(.lit [(eB cU.neg),(.pv (aa cU.cD))]))]⟩
@[reducible] def ah(bits:Int)(a:aH)(fP cU:au)(r:PV):Prop:=L bp fn a7 (inv1 bits a fP cU) r
theorem e0(a:aH)(b:Int)(c d of g:au){r:PV}(h1:Cp 130 [a.rV.lo.pv,vI b] c.pv)(h2:Cp 130 [a.rV.hi.pv,vI b] d.pv)(h3:Cp 67 [vI 1] of.pv)(h4:Cp 66 [d.pv,of.pv] g.pv)(hL:ah b a c g r):Cp 62 [a.pv,vI b] r :=
 eG func62 81 [1,1,1,1] [.q,dr 14 2 [.none,.none,.none,.none,(.pv c.pv),.none,.none,.none,.none,(.pv d.pv),(.pv of.pv),(.pv g.pv)],.aF [1,2,4,6,7],.ord [2,4,6,7]] (y4 h1 h2 h3 h4) hL
theorem l10(b:Int)(a:aH)(c d g of:au)(i:Int)(j k l m:au)(n:Option Int)(p:af)(s:Int){r:PV}(h1:Cp 131 [d.pv,c.pv] g.pv)(h2:Cp 67 [vI 1] of.pv)(h3:Cp 94 [g.pv,of.pv] (vI i))(h4:0<i)(h5:Cp 66 [c.pv,d.pv] j.pv)(h6:Cp 67 [vI 2] k.pv)(h7:Cp 132 [j.pv,k.pv] (.aB [l.pv,m.pv,bw n]))(h8:Cp 63 [l.pv,vI b] (.aB [p.pv,.az]))(h9:Cp 64 [a.pv,p.pv] (.aB [vI s,.az]))(dh:0≤s)(hL:ah b a l d r):ah b a c d r :=
 lG 165 [1,1,1,1,1,1,1,1,1,1] [.a,.aR [.o,.o,(.pv g.pv),(.pv of.pv),(.pv (vI i))],.t,.aR [.o,.o,(.pv j.pv),(.pv k.pv),(.pv (.aB [l.pv,m.pv,bw n]))],.h 2 (.pv (.aB [p.pv,.az])),.q,.a,.h 2 (.pv (.aB [vI s,.az])),.q,.a,.q,.t,.q,.aF [1,2,4,6,7],.drop [11,9,8]] (F8 h1 h2 h3 (bR h4) h5 h6 h7 h8 h9 (fo dh)) hL
theorem cR(b:Int)(a:aH)(c d g of:au)(i:Int)(j k l m:au)(n:Option Int)(p:af)(s:Int){r:PV}(h1:Cp 131 [d.pv,c.pv] g.pv)(h2:Cp 67 [vI 1] of.pv)(h3:Cp 94 [g.pv,of.pv] (vI i))(h4:0<i)(h5:Cp 66 [c.pv,d.pv] j.pv)(h6:Cp 67 [vI 2] k.pv)(h7:Cp 132 [j.pv,k.pv] (.aB [l.pv,m.pv,bw n]))(h8:Cp 63 [l.pv,vI b] (.aB [p.pv,.az]))(h9:Cp 64 [a.pv,p.pv] (.aB [vI s,.az]))(dh:s<0)(hL:ah b a c l r):ah b a c d r :=
 lG 165 [1,1,1,1,1,1,1,1,1,1] [.a,.aR [.o,.o,(.pv g.pv),(.pv of.pv),(.pv (vI i))],.t,.aR [.o,.o,(.pv j.pv),(.pv k.pv),(.pv (.aB [l.pv,m.pv,bw n]))],.h 2 (.pv (.aB [p.pv,.az])),.q,.a,.h 2 (.pv (.aB [vI s,.az])),.q,.a,.q,.f,.q,.aF [1,2,4,6,7],.drop [11,9,8]] (F8 h1 h2 h3 (bR h4) h5 h6 h7 h8 h9 (gM dh)) hL
theorem Ew(b:Int)(a:aH)(c d g of:au)(i:Int)(h1:Cp 131 [d.pv,c.pv] g.pv)(h2:Cp 67 [vI 1] of.pv)(h3:Cp 94 [g.pv,of.pv] (vI i))(h4:i≤0):ah b a c d (.aB [c.pv,.az]) :=
 lD 114 [1,1,1,1] [.a,.aR [.o,.o,(.pv g.pv),(.pv of.pv),(.pv (vI i))],.f,.q] (y4 h1 h2 h3 (bf h4))
end gG
namespace iu
theorem e0(a:aH)(b:Int)(h1:Cp 23 [a.pv] .az)(h2:b<0):Cp 13 [a.pv,vI b] (.aB [(⟨(⟨false,[],[]⟩:af),(⟨false,[],[]⟩:af)⟩:ai).pv,(.iface 67 (vI 3))]) :=
 eD func13 105 [1,1,1,1] [.q,.h 1 (.pv .az),.q,.a,.aR [.o,.o,.o,.skip,.skip,(.dec true)],.a,.q] (y4 h1 (bR h2) (bR h2) (bR h2))
theorem e1(a:aH)(b:Int)(h1:Cp 23 [a.pv] .az)(h2:0≤b)(h3:64<b):Cp 13 [a.pv,vI b] (.aB [(⟨(⟨false,[],[]⟩:af),(⟨false,[],[]⟩:af)⟩:ai).pv,(.iface 67 (vI 3))]) :=
 eD func13 105 [1,1,1,1,1] [.q,.h 1 (.pv .az),.q,.a,.h 5 (.dec false),.t,.q] (y5 h1 (bf h2) (bf h2) (bf h2) (bR h3))
theorem e2(a:aH)(b:Int)(c:au)(d:af)(g:Int)(i:ai)(h1:Cp 23 [a.pv] .az)(h2:0≤b)(h3:b≤64)(h4:Cp 62 [a.pv,vI b] (.aB [c.pv,.az]))(h5:Cp 63 [c.pv,vI b] (.aB [d.pv,.az]))(h6:Cp 64 [a.pv,d.pv] (.aB [vI g,.az]))(h7:g=0)(h8:Cp 65 [d.pv] i.pv):Cp 13 [a.pv,vI b] (.aB [i.pv,.az]) :=
 eD func13 183 [1,1,1,1,1,1,1,1,1,1] [.q,.h 1 (.pv .az),.q,.a,.h 5 (.dec false),.f,.h 2 (.pv (.aB [c.pv,.az])),.q,.a,.h 2 (.pv (.aB [d.pv,.az])),.q,.a,.h 2 (.pv (.aB [vI g,.az])),.q,.a,.q,.t,.h 1 (.pv i.pv)] (F8 h1 (bf h2) (bf h2) (bf h2) (bf h3) h4 h5 h6 (a8 h7) h8)
theorem e3(a:aH)(b:Int)(c:au)(d:af)(g:Int)(of i:au)(j:af)(k:Option Int)(h1:Cp 23 [a.pv] .az)(h2:0≤b)(h3:b≤64)(h4:Cp 62 [a.pv,vI b] (.aB [c.pv,.az]))(h5:Cp 63 [c.pv,vI b] (.aB [d.pv,.az]))(h6:Cp 64 [a.pv,d.pv] (.aB [vI g,.az]))(h7:g≠0)(h8:Cp 67 [vI 1] of.pv)(h9:Cp 66 [c.pv,of.pv] i.pv)(dh:Cp 63 [i.pv,vI b] (.aB [j.pv,bw k])):Cp 13 [a.pv,vI b] (.aB [(⟨d,j⟩:ai).pv,bw k]) :=
 eD func13 192 [1,1,1,1,1,1,1,1,1,1,1,1] [.q,.h 1 (.pv .az),.q,.a,.h 5 (.dec false),.f,.h 2 (.pv (.aB [c.pv,.az])),.q,.a,.h 2 (.pv (.aB [d.pv,.az])),.q,.a,.h 2 (.pv (.aB [vI g,.az])),.q,.a,.q,.f,dr 10 1 [.none,(.pv of.pv),(.pv i.pv),.none,(.pv (.aB [j.pv,bw k]))],.q] (KK h1 (bf h2) (bf h2) (bf h2) (bf h3) h4 h5 h6 (bg h7) h8 h9 dh)
theorem e7(a:aH)(b c:Int)(h1:Cp 23 [a.pv] (.iface 67 (vI c))):Cp 13 [a.pv,vI b] (.aB [(⟨(⟨false,[],[]⟩:af),(⟨false,[],[]⟩:af)⟩:ai).pv,(.iface 67 (vI c))]) :=
 eD func13 90 [1] [.q,.h 1 (.pv (.iface 67 (vI c))),.q,.a,.q] (y1 h1)
end iu
namespace b9
@[reducible] def fn:Func:=Tryz.f14
def a7:List eH:=focus [0,2,0,2,0,0,2,1,2,0,0,2,1,2,0,0,2,0,0] [.code (ay fn)]
def inv1(Rx:Nat)(a b:aH):St:=⟨[(2,(.ptr 2 0)),(3,(.ptr 3 0)),(4,(.ptr 4 0)),(27,(eI (Rx:Int)))],[(2,(.lit [(.pv (ae a.p)),(eB a.rV.lo.neg),(.pv (aa a.rV.lo.num)),(.pv (aa a.rV.lo.den)),(eB a.rV.hi.neg),(.pv (aa a.rV.hi.num)),(.pv (aa a.rV.hi.den))])),(3,(.lit [(.pv (ae b.p)),(eB b.rV.lo.neg),(.pv (aa b.rV.lo.num)),(.pv (aa b.rV.lo.den)),(eB b.rV.hi.neg),(.pv (aa b.rV.hi.num)),(.pv (aa b.rV.hi.den))])),(4,(.lit [(eB false),(.pv (.list [])),(.pv (.list []))]))]⟩
@[reducible] def ah(Rx:Nat)(a b:aH)(r:PV):Prop:=L bp fn a7 (inv1 Rx a b) r
theorem e0(a b:aH)(c:Int)(h1:Cp 35 [a.pv,b.pv] (.aB [vI c,.az]))(h2:0≤c):Cp 14 [a.pv,b.pv] (.aB [(⟨false,[],[]⟩:af).pv,(.iface 67 (vI 3))]) :=
 eD func14 105 [1,1] [.q,.h 2 (.pv (.aB [vI c,.az])),.q,.a,.q,.t,.q] (y2 h1 (fo h2))
theorem e1(a b:aH)(c:Int){r:PV}(h1:Cp 35 [a.pv,b.pv] (.aB [vI c,.az]))(h2:c<0)(hL:ah 0 a b r):Cp 14 [a.pv,b.pv] r :=
 eG func14 117 [1,1] [.q,.h 2 (.pv (.aB [vI c,.az])),.q,.a,.q,.f,.q,.aF [2,3,4,27],.ord [2,3,4]] (y2 h1 (gM h2)) hL
theorem e2(a b:aH)(c d:Int)(h1:Cp 35 [a.pv,b.pv] (.aB [vI c,(.iface 67 (vI d))])):Cp 14 [a.pv,b.pv] (.aB [(⟨false,[],[]⟩:af).pv,(.iface 67 (vI d))]) :=
 eD func14 90 [1] [.q,.h 2 (.pv (.aB [vI c,(.iface 67 (vI d))])),.q,.a,.q] (y1 h1)
theorem l10(c:Nat)(a b:aH)(d of g:au)(i:af)(j:Int)(h1:c<65)(h2:Cp 62 [a.pv,(vI (c:Int))] (.aB [d.pv,.az]))(h3:Cp 67 [vI 1] of.pv)(h4:Cp 66 [d.pv,of.pv] g.pv)(h5:Cp 63 [g.pv,(vI (c:Int))] (.aB [i.pv,.az]))(h6:Cp 64 [b.pv,i.pv] (.aB [vI j,.az]))(h7:0<j):ah c a b (.aB [i.pv,.az]) :=
 lD 225 [1,1,1,1,1,1,1] [.a,.q,.t,.q,.h 2 (.pv (.aB [d.pv,.az])),.q,.a,dr 10 1 [.none,(.pv of.pv),(.pv g.pv),.none,(.pv (.aB [i.pv,.az]))],.q,.a,.h 2 (.pv (.aB [vI j,.az])),.q,.a,.q,.t,.q] (y7 (aj h1) h2 h3 h4 h5 h6 (bR h7))
theorem cR(c:Nat)(a b:aH)(d of g:au)(i:af)(j:Int){r:PV}(h1:c<65)(h2:Cp 62 [a.pv,(vI (c:Int))] (.aB [d.pv,.az]))(h3:Cp 67 [vI 1] of.pv)(h4:Cp 66 [d.pv,of.pv] g.pv)(h5:Cp 63 [g.pv,(vI (c:Int))] (.aB [i.pv,.az]))(h6:Cp 64 [b.pv,i.pv] (.aB [vI j,.az]))(h7:j≤0)(h8:(c+1)<9223372036854775808)(hL:ah (c+1) a b r):ah c a b r :=
 lG 228 [1,1,1,1,1,1,1,1] [.a,.q,.t,.q,.h 2 (.pv (.aB [d.pv,.az])),.q,.a,dr 10 1 [.none,(.pv of.pv),(.pv g.pv),.none,(.pv (.aB [i.pv,.az]))],.q,.a,.h 2 (.pv (.aB [vI j,.az])),.q,.a,.q,.f,.h 0 (iI (((c+1):Nat):Int)),.aF [2,3,4,27],.drop [11,9]] (y8 (aj h1) h2 h3 h4 h5 h6 (bf h7) (aM h8)) hL
theorem TW(c:Nat)(a b:aH)(h1:65≤c):ah c a b (.aB [(⟨false,[],[]⟩:af).pv,(.iface 67 (vI 4))]) :=
 lD 150 [1] [.a,.q,.f,.q] (y1 (ar h1))
end b9
end Go.Proofs.YtllmkadmohkbfaaGreatDoor.Sym.Path
end
