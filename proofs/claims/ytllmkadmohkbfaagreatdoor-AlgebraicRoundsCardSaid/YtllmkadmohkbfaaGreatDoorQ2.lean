/- Lemmas for the statements of this seat. -/
import Derived.Test.YtllmkadmohkbfaaGreatDoorU0
noncomputable section
namespace Go.Proofs.YtllmkadmohkbfaaGreatDoor.Sym.Path
open Go Tryz
set_option maxRecDepth 20000
set_option linter.unusedVariables false
namespace oV
theorem e0(a b:af)(c:Bool)(h1:Cp 73 [a.pv,b.pv] (vB c)):Cp 19 [a.pv,b.pv] (vB c) :=
 eD func19 72 [1] [.q,.h 2 (.pv (vB c))] (y1 h1)
end oV
namespace uZ
theorem e0(n d:Int)(of a:au)(b:af)(c:Option Int)(h1:Cp 67 [vI n] of.pv)(h2:Cp 67 [vI d] a.pv)(h3:Cp 90 [of.pv,a.pv] (.aB [b.pv,bw c])):Cp 31 [vI n,vI d] (.aB [b.pv,bw c]) :=
 eD func31 72 [1,1,1] [.q,.aR [.o,(.pv of.pv),.o,(.pv a.pv),(.pv (.aB [b.pv,bw c]))]] (y3 h1 h2 h3)
end uZ
namespace wN
theorem e0(a b c d:af)(h1:Cp 87 [b.pv] c.pv)(h2:Cp 91 [a.pv,c.pv] d.pv):Cp 32 [a.pv,b.pv] d.pv :=
 eD func32 72 [1,1] [.q,dr 4 1 [.none,.none,(.pv c.pv),(.pv d.pv)]] (y2 h1 h2)
end wN
namespace u0
theorem e0(a:af)(b c:au)(d:Int)(h1:Cp 92 [a.pv] (.aB [b.pv,c.pv]))(h2:Cp 93 [b.pv] (vI d)):Cp 33 [a.pv] (vI d) :=
 eD func33 78 [1,1] [.q,.h 1 (.pv (.aB [b.pv,c.pv])),.h 1 (.pv (vI d))] (y2 h1 h2)
end u0
namespace wO
theorem e0(a b:af)(c d g i j k:au)(l:Int)(h1:Cp 92 [a.pv] (.aB [c.pv,d.pv]))(h2:Cp 92 [b.pv] (.aB [g.pv,i.pv]))(h3:Cp 95 [c.pv,i.pv] j.pv)(h4:Cp 95 [g.pv,d.pv] k.pv)(h5:Cp 94 [j.pv,k.pv] (vI l)):Cp 34 [a.pv,b.pv] (vI l) :=
 eD func34 84 [1,1,1,1,1] [.q,.h 1 (.pv (.aB [c.pv,d.pv])),.h 1 (.pv (.aB [g.pv,i.pv])),dr 7 1 [.none,.none,(.pv j.pv),.none,.none,(.pv k.pv),(.pv (vI l))]] (y5 h1 h2 h3 h4 h5)
end wO
namespace yZ
theorem e0(n:Int)(of a:au)(b:af)(h1:Cp 67 [vI n] of.pv)(h2:Cp 114 [] a.pv)(h3:Cp 113 [of.pv,a.pv] b.pv):Cp 46 [vI n] b.pv :=
 eD func46 72 [1,1,1] [.q,.aR [.o,(.pv of.pv),(.pv a.pv),(.pv b.pv)]] (y3 h1 h2 h3)
end yZ
namespace qH
theorem e0(a:af)(b c d:au)(g:Int)(i:ByteArray)(h1:Cp 92 [a.pv] (.aB [b.pv,c.pv]))(h2:Cp 114 [] d.pv)(h3:Cp 94 [c.pv,d.pv] (vI g))(h4:g=0)(h5:Cp 129 [b.pv] (.str i)):Cp 61 [a.pv] (.str i) :=
 eD func61 90 [1,1,1,1,1] [.q,.h 1 (.pv (.aB [b.pv,c.pv])),dr 4 0 [.none,(.pv d.pv),(.pv (vI g))],.t,.h 1 (.pv (.str i))] (y5 h1 h2 h3 (a8 h4) h5)
theorem e1(a:af)(b c d:au)(g:Int)(i j:ByteArray)(h1:Cp 92 [a.pv] (.aB [b.pv,c.pv]))(h2:Cp 114 [] d.pv)(h3:Cp 94 [c.pv,d.pv] (vI g))(h4:g≠0)(h5:Cp 129 [b.pv] (.str i))(h6:i.size+(ByteArray.mk #[47]).size<9223372036854775808)(h7:Cp 129 [c.pv] (.str j))(h8:(i++(ByteArray.mk #[47])).size+j.size<9223372036854775808):Cp 61 [a.pv] (.str ((i++(ByteArray.mk #[47]))++j)) :=
 eD func61 93 [1,1,1,1,1,1,1,1] [.q,.h 1 (.pv (.aB [b.pv,c.pv])),dr 4 0 [.none,(.pv d.pv),(.pv (vI g))],.f,dr 6 1 [.none,(.pv (.str i)),(.pv (.str (i++(ByteArray.mk #[47])))),.none,(.pv (.str j)),(.pv (.str ((i++(ByteArray.mk #[47]))++j)))]] (y8 h1 h2 h3 (bg h4) h5 (wI h6) h7 (wI h8))
end qH
namespace pY
theorem e0(a b c:af)(d:Int)(h1:Cp 143 [a.pv,b.pv] c.pv)(h2:Cp 124 [c.pv] (vI d)):Cp 69 [a.pv,b.pv] (vI d) :=
 eD func69 72 [1,1] [.q,.aR [.o,.o,(.pv c.pv),(.pv (vI d))]] (y2 h1 h2)
end pY
namespace pZ
theorem e0(a b:af)(c d g i j k l m:au)(n:af)(h1:Cp 144 [a.pv] (.aB [c.pv,d.pv]))(h2:Cp 144 [b.pv] (.aB [g.pv,i.pv]))(h3:Cp 147 [c.pv,i.pv] j.pv)(h4:Cp 147 [g.pv,d.pv] k.pv)(h5:Cp 146 [j.pv,k.pv] l.pv)(h6:Cp 147 [d.pv,i.pv] m.pv)(h7:Cp 145 [l.pv,m.pv] n.pv):Cp 70 [a.pv,b.pv] n.pv :=
 eD func70 84 [1,1,1,1,1,1,1] [.q,.h 1 (.pv (.aB [c.pv,d.pv])),.h 1 (.pv (.aB [g.pv,i.pv])),dr 11 1 [.none,.none,(.pv j.pv),.none,.none,(.pv k.pv),(.pv l.pv),.none,.none,(.pv m.pv),(.pv n.pv)]] (y7 h1 h2 h3 h4 h5 h6 h7)
end pZ
namespace wP
theorem e0(a:af)(b c d:au)(g:af)(h1:Cp 92 [a.pv] (.aB [b.pv,c.pv]))(h2:Cp 169 [b.pv] d.pv)(h3:Cp 113 [d.pv,c.pv] g.pv):Cp 87 [a.pv] g.pv :=
 eD func87 78 [1,1,1] [.q,.h 1 (.pv (.aB [b.pv,c.pv])),dr 4 1 [.none,(.pv d.pv),.none,(.pv g.pv)]] (y3 h1 h2 h3)
end wP
namespace qa
theorem e0(a:af)(b c d:au)(g:af)(h1:Cp 144 [a.pv] (.aB [b.pv,c.pv]))(h2:Cp 170 [b.pv] d.pv)(h3:Cp 145 [d.pv,c.pv] g.pv):Cp 88 [a.pv] g.pv :=
 eD func88 78 [1,1,1] [.q,.h 1 (.pv (.aB [b.pv,c.pv])),dr 4 1 [.none,(.pv d.pv),.none,(.pv g.pv)]] (y3 h1 h2 h3)
end qa
namespace q7
theorem e0(n:Int)(of a:au)(b:af)(h1:Cp 171 [vI n] of.pv)(h2:Cp 172 [] a.pv)(h3:Cp 145 [of.pv,a.pv] b.pv):Cp 89 [vI n] b.pv :=
 eD func89 72 [1,1,1] [.q,.aR [.o,(.pv of.pv),(.pv a.pv),(.pv b.pv)]] (y3 h1 h2 h3)
end q7
namespace u5
theorem e1(n d:au)(a:Int)(b:af)(h1:Cp 93 [d.pv] (vI a))(h2:a≠0)(h3:Cp 113 [n.pv,d.pv] b.pv):Cp 90 [n.pv,d.pv] (.aB [b.pv,.az]) :=
 eD func90 87 [1,1,1] [.q,.h 1 (.pv (vI a)),.f,.h 2 (.pv b.pv)] (y3 h1 (bg h2) h3)
end u5
namespace wQ
theorem e0(a b:af)(c d g i j k l m:au)(n:af)(h1:Cp 92 [a.pv] (.aB [c.pv,d.pv]))(h2:Cp 92 [b.pv] (.aB [g.pv,i.pv]))(h3:Cp 95 [c.pv,i.pv] j.pv)(h4:Cp 95 [g.pv,d.pv] k.pv)(h5:Cp 66 [j.pv,k.pv] l.pv)(h6:Cp 95 [d.pv,i.pv] m.pv)(h7:Cp 113 [l.pv,m.pv] n.pv):Cp 91 [a.pv,b.pv] n.pv :=
 eD func91 84 [1,1,1,1,1,1,1] [.q,.h 1 (.pv (.aB [c.pv,d.pv])),.h 1 (.pv (.aB [g.pv,i.pv])),dr 11 1 [.none,.none,(.pv j.pv),.none,.none,(.pv k.pv),(.pv l.pv),.none,.none,(.pv m.pv),(.pv n.pv)]] (y7 h1 h2 h3 h4 h5 h6 h7)
end wQ
namespace l9
@[reducible] def fn:Func:=Tryz.f92
theorem e0(a:af)(b:Bool)(c:au)(h1:Cp 164 [a.pv] (vB b))(h2:b=false)(h3:Cp 114 [] c.pv):Cp 92 [a.pv] (.aB [(⟨false,[]⟩:au).pv,c.pv]) :=
 eD func92 84 [1,1,1,1,1,1,1] [.q,.aR [.o,(.pv (vB b)),.o,.o,.skip,.skip,.skip,.skip,(.dec true)],.a,.h 1 (.pv c.pv)] (y7 h1 (cv h2) (cv h2) (cv h2) (cv h2) (cv h2) h3)
theorem e1(a:af)(b:Bool)(c:au)(h1:Cp 164 [a.pv] (vB b))(h2:b=true)(h3:a.num.length=0)(h4:Cp 114 [] c.pv):Cp 92 [a.pv] (.aB [(⟨false,[]⟩:au).pv,c.pv]) :=
 eD func92 84 [1,1,1,1,1,1,1,1,1] [.q,.aR [.o,(.pv (vB b)),.o,.o,.o,.o,(iI (a.num.length:Int)),.o,(.dec false)],.t,.h 1 (.pv c.pv)] (y9 h1 (aO h2) (aO h2) (aO h2) (an ag a.num) (aO h2) (aO h2) (aN h3) h4)
theorem OU(a:af):xZ bp oh fn.ntmps (bM (focus [0,2,0,0,2,1,2,0] [.code (ay fn)])) (np (bM (focus [0,2,0,0,2,1,2,0] [.code (ay fn)])) []) (ky (bM (focus [0,2,0,0,2,1,2,0] [.code (ay fn)])) []) [.none,.none,.none,.none,.none,(.js (a.num:List UInt32).length 0 ((a.num:List UInt32).map ag)),.none,.none] (Dd oh fn.ntmps (bM (focus [0,2,0,0,2,1,2,0] [.code (ay fn)])) [] ⟨[(1,(.ptr 1 0)),(2,(.ptr 2 0)),(3,(.ptr 3 0))],[(3,(.lit [(eB false),(.pv (.list []))])),(2,(.lit [(eB false),(.pv (.list []))])),(1,(.lit [(eB a.neg),(.pv (aa a.num)),(.pv (aa a.den))]))]⟩)=x5 bp oh fn.ntmps (bM (focus [0,2,0,0,2,1,2,0] [.code (ay fn)])) (np (bM (focus [0,2,0,0,2,1,2,0] [.code (ay fn)])) []) (ky (bM (focus [0,2,0,0,2,1,2,0] [.code (ay fn)])) []) [.none,.none,.none,.none,.none,(.js (a.num:List UInt32).length 0 ((a.num:List UInt32).map ag)),.none,.none] (Dd oh fn.ntmps (bM (focus [0,2,0,0,2,1,2,0] [.code (ay fn)])) [] ⟨[(1,(.ptr 1 0)),(2,(.ptr 2 0)),(3,(.ptr 3 0))],[(3,(.lit [(eB false),(.pv (.list []))])),(2,(.lit [(eB false),(.pv (.list []))])),(1,(.lit [(eB a.neg),(.pv (aa a.num)),(.pv (aa a.den))]))]⟩):=by kernel_rfl
theorem OV(a:af):xZ bp oh fn.ntmps (bM (focus [0,2,0,0,2,1,2,0,2,0] [.code (ay fn)])) (np (bM (focus [0,2,0,0,2,1,2,0,2,0] [.code (ay fn)])) []) (ky (bM (focus [0,2,0,0,2,1,2,0,2,0] [.code (ay fn)])) []) [.none,.none,.none,.none,(.js (a.den:List UInt32).length 0 ((a.den:List UInt32).map ag)),.none,.none,.none] (Dd oh fn.ntmps (bM (focus [0,2,0,0,2,1,2,0,2,0] [.code (ay fn)])) [] ⟨[(1,(.ptr 1 0)),(2,(.ptr 2 0)),(3,(.ptr 3 0))],[(3,(.lit [(eB false),(.pv (.list []))])),(2,(.lit [(eB a.neg),(.pv (aa a.num))])),(1,(.lit [(eB a.neg),(.pv (aa a.num)),(.pv (aa a.den))]))]⟩)=x5 bp oh fn.ntmps (bM (focus [0,2,0,0,2,1,2,0,2,0] [.code (ay fn)])) (np (bM (focus [0,2,0,0,2,1,2,0,2,0] [.code (ay fn)])) []) (ky (bM (focus [0,2,0,0,2,1,2,0,2,0] [.code (ay fn)])) []) [.none,.none,.none,.none,(.js (a.den:List UInt32).length 0 ((a.den:List UInt32).map ag)),.none,.none,.none] (Dd oh fn.ntmps (bM (focus [0,2,0,0,2,1,2,0,2,0] [.code (ay fn)])) [] ⟨[(1,(.ptr 1 0)),(2,(.ptr 2 0)),(3,(.ptr 3 0))],[(3,(.lit [(eB false),(.pv (.list []))])),(2,(.lit [(eB a.neg),(.pv (aa a.num))])),(1,(.lit [(eB a.neg),(.pv (aa a.num)),(.pv (aa a.den))]))]⟩):=by kernel_rfl
theorem e2(a:af)(b:Bool)(h1:Cp 164 [a.pv] (vB b))(h2:b=true)(h3:a.num.length≠0)(h4:(([]:Ws)++a.num:Ws).length*4≤140737488355328)(h5:(([]:Ws)++a.den:Ws).length*4≤140737488355328):Cp 92 [a.pv] (.aB [(⟨a.neg,a.num⟩:au).pv,(⟨false,a.den⟩:au).pv]) :=
 eD func92 93 [1,1,1,1,1,1,1,1,6,3,1,6,3,1] [.q,.aR [.o,(.pv (vB b)),.o,.o,.o,.o,(iI (a.num.length:Int)),.o,(.dec false)],.f,.aF [1,2,3],.any [] [.none,.none,.none,.none,.none,(.js (a.num:Ws).length 0 ((a.num:Ws).map ag)),.none,.none],.aF [1,2,3],.any [] [.none,.none,.none,.none,(.js (a.den:Ws).length 0 ((a.den:Ws).map ag)),.none,.none,.none]] (Lk h1 (aO h2) (aO h2) (aO h2) (an ag a.num) (aO h2) (aO h2) (aA h3) (rQ aW ([]:Ws) (a.num:Ws) 4 (Eq.refl ([]:Ws).length) h4 rfl) (df aW (a.num:Ws) (Eq.refl (a.num:Ws).length)) (OU a) (rQ aW ([]:Ws) (a.den:Ws) 4 (Eq.refl ([]:Ws).length) h5 rfl) (df aW (a.den:Ws) (Eq.refl (a.den:Ws).length)) (OV a))
end l9
namespace da
theorem e0(a:af)(h1:a.num.length=0)(h2:a.den.length=0):Cp 111 [a.pv] (vB (!a.neg)) :=
 eD func111 84 [1,1,1,1,1,1,1,1] [.q,.aR [.o,.o,(iI (a.num.length:Int)),.o,.o,.o,.o,(iI (a.den.length:Int)),.o,(.dec true)],.t,.q] (y8 (an ag a.num) (aN h1) (aN h1) (aN h1) (an ag a.den) (aN h1) (aN h1) (aN h2))
theorem e3(a:af)(b:Bool)(h1:a.num.length=0)(h2:a.den.length≠0)(h3:Cp 189 [aa a.num] (vB b))(h4:b=false):Cp 111 [a.pv] (vB false) :=
 eD func111 87 [1,1,1,1,1,1,1,1,1,1,1,1,1,1,1,1,1,1,1,1,1,1,1] [.q,.aR [.o,.o,(iI (a.num.length:Int)),.o,.o,.o,.o,(iI (a.den.length:Int)),.o,(.dec true)],.f,.aR [.o,.o,(.pv (vB b)),.o,.skip,.skip,.skip,(.dec false),.o,.skip,.skip,.skip,.skip,.skip,.skip,.skip,.skip,.skip,.skip]] (Yq (an ag a.num) (aN h1) (aN h1) (aN h1) (an ag a.den) (aN h1) (aN h1) (aA h2) h3 h4 h4 h4 h4 (Eq.refl false) (Eq.refl false) (Eq.refl false) (Eq.refl false) (Eq.refl false) (Eq.refl false) (Eq.refl false) (Eq.refl false) (Eq.refl false) (Eq.refl false))
theorem e4(a:af)(b c:Bool)(d g:au)(i:Int)(h1:a.num.length≠0)(h2:Cp 189 [aa a.num] (vB b))(h3:b=true)(h4:Cp 189 [aa a.den] (vB c))(h5:c=true)(h6:Cp 191 [(⟨false,a.num⟩:au).pv,(⟨false,a.den⟩:au).pv] d.pv)(h7:Cp 172 [] g.pv)(h8:Cp 190 [d.pv,g.pv] (vI i)):Cp 111 [a.pv] (vB (i==0)) :=
 eD func111 87 [1,1,1,1,1,1,1,1,1,1,1,1,1,1,1,1,1,1,1,1,1,1,1,1,1,1] [.q,.aR [.o,.o,(iI (a.num.length:Int)),.o,.o,.skip,.skip,.skip,.skip,(.dec false)],.a,.aR [.o,.o,(.pv (vB b)),.o,.o,.o,(.pv (vB c)),(.dec true),.o,.o,.o,.o,.o,.o,.o,(.pv d.pv),(.pv g.pv),(.pv (vI i)),.o,(.dec true)]] (Yr (an ag a.num) (aA h1) (aA h1) (aA h1) (aA h1) (aA h1) h2 h3 h3 h3 h4 h3 h5 h5 h5 h5 h5 h5 h5 h6 h5 h7 h5 h8 h5 h5)
theorem e5(a:af)(b c:Bool)(h1:a.num.length≠0)(h2:Cp 189 [aa a.num] (vB b))(h3:b=true)(h4:Cp 189 [aa a.den] (vB c))(h5:c=false):Cp 111 [a.pv] (vB false) :=
 eD func111 87 [1,1,1,1,1,1,1,1,1,1,1,1,1,1,1,1,1,1,1,1,1,1,1] [.q,.aR [.o,.o,(iI (a.num.length:Int)),.o,.o,.skip,.skip,.skip,.skip,(.dec false)],.a,.aR [.o,.o,(.pv (vB b)),.o,.o,.o,(.pv (vB c)),(.dec true),.o,.skip,.skip,.skip,.skip,.skip,.skip,.skip,.skip,.skip,.skip,(.dec false)]] (Yq (an ag a.num) (aA h1) (aA h1) (aA h1) (aA h1) (aA h1) h2 h3 h3 h3 h4 h3 h5 h5 h5 h5 h5 h5 h5 h5 h5 h5 h5)
theorem e6(a:af)(b:Bool)(h1:a.num.length≠0)(h2:Cp 189 [aa a.num] (vB b))(h3:b=false):Cp 111 [a.pv] (vB false) :=
 eD func111 87 [1,1,1,1,1,1,1,1,1,1,1,1,1,1,1,1,1,1,1,1,1] [.q,.aR [.o,.o,(iI (a.num.length:Int)),.o,.o,.skip,.skip,.skip,.skip,(.dec false)],.a,.aR [.o,.o,(.pv (vB b)),.o,.skip,.skip,.skip,(.dec false),.o,.skip,.skip,.skip,.skip,.skip,.skip,.skip,.skip,.skip,.skip]] (Yo (an ag a.num) (aA h1) (aA h1) (aA h1) (aA h1) (aA h1) h2 h3 h3 h3 h3 (Eq.refl false) (Eq.refl false) (Eq.refl false) (Eq.refl false) (Eq.refl false) (Eq.refl false) (Eq.refl false) (Eq.refl false) (Eq.refl false) (Eq.refl false))
end da
namespace jl
theorem e0(n d:au)(a:Int)(h1:Cp 93 [n.pv] (vI a))(h2:a=0):Cp 113 [n.pv,d.pv] ((⟨false,[],[]⟩:af).pv) :=
 eD func113 84 [1,1] [.q,.h 1 (.pv (vI a)),.t,.q] (y2 h1 (a8 h2))
theorem e1(n d:au)(a b:Int)(c g i:au)(j:Int)(k l m:au)(o:Option Int)(p s:au)(u:Option Int)(h1:Cp 93 [n.pv] (vI a))(h2:a≠0)(h3:Cp 93 [d.pv] (vI b))(h4:b<0)(h5:Cp 169 [n.pv] c.pv)(h6:Cp 169 [d.pv] g.pv)(h7:Cp 192 [c.pv,g.pv] i.pv)(h8:Cp 93 [c.pv] (vI j))(h9:j<0)(dh:Cp 169 [c.pv] k.pv)(gb:Cp 132 [k.pv,i.pv] (.aB [l.pv,m.pv,bw o]))(kh:Cp 132 [g.pv,i.pv] (.aB [p.pv,s.pv,bw u])):Cp 113 [n.pv,d.pv] ((⟨(decide (j<0)),l.cD,p.cD⟩:af).pv) :=
 eD func113 141 [1,1,1,1,1,1,1,1,1,1,1,1] [.q,.h 1 (.pv (vI a)),.f,.h 1 (.pv (vI b)),.t,dr 4 2 [.none,(.pv c.pv),.none,(.pv g.pv)],.h 2 (.pv i.pv),.h 1 (.pv (vI j)),.q,.t,.h 1 (.pv k.pv),.h 2 (.pv (.aB [l.pv,m.pv,bw o])),.h 2 (.pv (.aB [p.pv,s.pv,bw u])),.q] (KK h1 (bg h2) h3 (bR h4) h5 h6 h7 h8 (bR h9) dh gb kh)
theorem e2(n d:au)(a b:Int)(c g i:au)(j:Int)(k l:au)(m:Option Int)(o p:au)(s:Option Int)(h1:Cp 93 [n.pv] (vI a))(h2:a≠0)(h3:Cp 93 [d.pv] (vI b))(h4:b<0)(h5:Cp 169 [n.pv] c.pv)(h6:Cp 169 [d.pv] g.pv)(h7:Cp 192 [c.pv,g.pv] i.pv)(h8:Cp 93 [c.pv] (vI j))(h9:0≤j)(dh:Cp 132 [c.pv,i.pv] (.aB [k.pv,l.pv,bw m]))(gb:Cp 132 [g.pv,i.pv] (.aB [o.pv,p.pv,bw s])):Cp 113 [n.pv,d.pv] ((⟨(decide (j<0)),k.cD,o.cD⟩:af).pv) :=
 eD func113 141 [1,1,1,1,1,1,1,1,1,1,1] [.q,.h 1 (.pv (vI a)),.f,.h 1 (.pv (vI b)),.t,dr 4 2 [.none,(.pv c.pv),.none,(.pv g.pv)],.h 2 (.pv i.pv),.h 1 (.pv (vI j)),.q,.f,.h 2 (.pv (.aB [k.pv,l.pv,bw m])),.h 2 (.pv (.aB [o.pv,p.pv,bw s])),.q] (Dg h1 (bg h2) h3 (bR h4) h5 h6 h7 h8 (bf h9) dh gb)
theorem e3(n d:au)(a b:Int)(c:au)(g:Int)(i j k:au)(l:Option Int)(m o:au)(p:Option Int)(h1:Cp 93 [n.pv] (vI a))(h2:a≠0)(h3:Cp 93 [d.pv] (vI b))(h4:0≤b)(h5:Cp 192 [n.pv,d.pv] c.pv)(h6:Cp 93 [n.pv] (vI g))(h7:g<0)(h8:Cp 169 [n.pv] i.pv)(h9:Cp 132 [i.pv,c.pv] (.aB [j.pv,k.pv,bw l]))(dh:Cp 132 [d.pv,c.pv] (.aB [m.pv,o.pv,bw p])):Cp 113 [n.pv,d.pv] ((⟨(decide (g<0)),j.cD,m.cD⟩:af).pv) :=
 eD func113 141 [1,1,1,1,1,1,1,1,1,1] [.q,.h 1 (.pv (vI a)),.f,.h 1 (.pv (vI b)),.f,.h 2 (.pv c.pv),.h 1 (.pv (vI g)),.q,.t,.h 1 (.pv i.pv),.h 2 (.pv (.aB [j.pv,k.pv,bw l])),.h 2 (.pv (.aB [m.pv,o.pv,bw p])),.q] (F8 h1 (bg h2) h3 (bf h4) h5 h6 (bR h7) h8 h9 dh)
theorem e4(n d:au)(a b:Int)(c:au)(g:Int)(i j:au)(k:Option Int)(l m:au)(o:Option Int)(h1:Cp 93 [n.pv] (vI a))(h2:a≠0)(h3:Cp 93 [d.pv] (vI b))(h4:0≤b)(h5:Cp 192 [n.pv,d.pv] c.pv)(h6:Cp 93 [n.pv] (vI g))(h7:0≤g)(h8:Cp 132 [n.pv,c.pv] (.aB [i.pv,j.pv,bw k]))(h9:Cp 132 [d.pv,c.pv] (.aB [l.pv,m.pv,bw o])):Cp 113 [n.pv,d.pv] ((⟨(decide (g<0)),i.cD,l.cD⟩:af).pv) :=
 eD func113 141 [1,1,1,1,1,1,1,1,1] [.q,.h 1 (.pv (vI a)),.f,.h 1 (.pv (vI b)),.f,.h 2 (.pv c.pv),.h 1 (.pv (vI g)),.q,.f,.h 2 (.pv (.aB [i.pv,j.pv,bw k])),.h 2 (.pv (.aB [l.pv,m.pv,bw o])),.q] (y9 h1 (bg h2) h3 (bf h4) h5 h6 (bf h7) h8 h9)
end jl
namespace wR
theorem e0(of:au)(h1:Cp 67 [vI 1] of.pv):Cp 114 [] of.pv :=
 eD func114 72 [1] [.q,.h 0 (.pv of.pv)] (y1 h1)
end wR
namespace oW
theorem e0(a:af)(b c:au)(d:Int)(h1:Cp 144 [a.pv] (.aB [b.pv,c.pv]))(h2:Cp 211 [b.pv] (vI d)):Cp 124 [a.pv] (vI d) :=
 eD func124 78 [1,1] [.q,.h 1 (.pv (.aB [b.pv,c.pv])),.h 1 (.pv (vI d))] (y2 h1 h2)
end oW
namespace eY
@[reducible] def fn:Func:=Tryz.f140
def a7:List eH:=focus [0,2,0,0,2,1,2,0,2,0,0,2,0,0] [.code (ay fn)]
def inv1(bits:Int)(Ii:Nat)(a:af)(fP:au):St:=⟨[(2,(.ptr 2 0)),(4,(.ptr 4 0)),(6,(.ptr 6 0)),(20,(eI bits)),(21,(eI (Ii:Int)))],[(2,(.lit [(eB a.neg),(.pv (aa a.num)),(.pv (aa a.den))])),(4,(.lit [(eB false),(.pv (.list [])),(.pv (.list []))])),(6,(.lit [(eB fP.neg),(.pv (aa fP.cD))]))]⟩
@[reducible] def ah(bits:Int)(Ii:Nat)(a:af)(fP:au)(r:PV):Prop:=L bp fn a7 (inv1 bits Ii a fP) r
theorem e2(a:af)(b:Int)(c:au){r:PV}(h1:0≤b)(h2:b≤256)(h3:Cp 172 [] c.pv)(hL:ah b 0 a c r):Cp 140 [a.pv,vI b] r :=
 eG func140 102 [1,1,1,1,1] [.q,.h 5 (.dec false),.f,.h 0 (.pv c.pv),.q,.aF [2,4,6,20,21],.ord [2,4,6]] (y5 (bf h1) (bf h1) (bf h1) (bf h2) h3) hL
theorem l10(b:Int)(c:Nat)(a:af)(d g:au){r:PV}(h1:(c:Int)<b)(h2:Cp 146 [d.pv,d.pv] g.pv)(h3:(c+1)<9223372036854775808)(hL:ah b (c+1) a g r):ah b c a d r :=
 lG 135 [1,1,1] [.a,.q,.t,.h 2 (.pv g.pv),.h 0 (iI (((c+1):Nat):Int)),.aF [2,4,6,20,21]] (y3 (bR h1) h2 (aM h3)) hL
theorem cR(b:Int)(c:Nat)(a:af)(d g i j k l:au)(m:Int)(n:af)(o:Int)(h1:b≤(c:Int))(h2:Cp 144 [a.pv] (.aB [g.pv,i.pv]))(h3:Cp 147 [g.pv,d.pv] j.pv)(h4:Cp 223 [j.pv,i.pv] (.aB [k.pv,l.pv,vI m]))(h5:Cp 224 [k.pv,d.pv] (.aB [n.pv,vI o])):ah b c a d (.aB [n.pv,vI o]) :=
 lD 147 [1,1,1,1,1] [.a,.q,.f,.h 1 (.pv (.aB [g.pv,i.pv])),dr 13 1 [.none,.none,(.pv j.pv),.none,(.pv (.aB [k.pv,l.pv,vI m]))],.h 2 (.pv (.aB [n.pv,vI o]))] (y5 (bf h1) h2 h3 h4 h5)
end eY
namespace qb
theorem e0(a b c d:af)(h1:Cp 88 [b.pv] c.pv)(h2:Cp 70 [a.pv,c.pv] d.pv):Cp 143 [a.pv,b.pv] d.pv :=
 eD func143 72 [1,1] [.q,dr 4 1 [.none,.none,(.pv c.pv),(.pv d.pv)]] (y2 h1 h2)
end qb
namespace hZ
theorem e0(a:af)(b:Bool)(c:au)(h1:Cp 111 [a.pv] (vB b))(h2:b=false)(h3:Cp 172 [] c.pv):Cp 144 [a.pv] (.aB [(⟨false,[]⟩:au).pv,c.pv]) :=
 eD func144 84 [1,1,1,1,1,1,1] [.q,.aR [.o,(.pv (vB b)),.o,.o,.skip,.skip,.skip,.skip,(.dec true)],.a,.h 1 (.pv c.pv)] (y7 h1 (cv h2) (cv h2) (cv h2) (cv h2) (cv h2) h3)
theorem e1(a:af)(b:Bool)(c:au)(h1:Cp 111 [a.pv] (vB b))(h2:b=true)(h3:a.num.length=0)(h4:Cp 172 [] c.pv):Cp 144 [a.pv] (.aB [(⟨false,[]⟩:au).pv,c.pv]) :=
 eD func144 84 [1,1,1,1,1,1,1,1,1] [.q,.aR [.o,(.pv (vB b)),.o,.o,.o,.o,(iI (a.num.length:Int)),.o,(.dec false)],.t,.h 1 (.pv c.pv)] (y9 h1 (aO h2) (aO h2) (aO h2) (an ag a.num) (aO h2) (aO h2) (aN h3) h4)
theorem e2(a:af)(b:Bool)(h1:Cp 111 [a.pv] (vB b))(h2:b=true)(h3:a.num.length≠0):Cp 144 [a.pv] (.aB [(⟨a.neg,a.num⟩:au).pv,(⟨false,a.den⟩:au).pv]) :=
 eD func144 87 [1,1,1,1,1,1,1,1] [.q,.aR [.o,(.pv (vB b)),.o,.o,.o,.o,(iI (a.num.length:Int)),.o,(.dec false)],.f,dr 9 1 []] (y8 h1 (aO h2) (aO h2) (aO h2) (an ag a.num) (aO h2) (aO h2) (aA h3))
end hZ
namespace iQ
theorem e0(n d:au)(a:Int)(h1:Cp 211 [n.pv] (vI a))(h2:a=0):Cp 145 [n.pv,d.pv] ((⟨false,[],[]⟩:af).pv) :=
 eD func145 84 [1,1] [.q,.h 1 (.pv (vI a)),.t,.q] (y2 h1 (a8 h2))
theorem e1(n d:au)(a b:Int)(c g i j k:au)(l:Int)(m o:au)(p:Int)(h1:Cp 211 [n.pv] (vI a))(h2:a≠0)(h3:Cp 211 [d.pv] (vI b))(h4:b<0)(h5:Cp 170 [n.pv] c.pv)(h6:Cp 170 [d.pv] g.pv)(h7:Cp 191 [c.pv,g.pv] i.pv)(h8:Cp 223 [c.pv,i.pv] (.aB [j.pv,k.pv,vI l]))(h9:Cp 223 [g.pv,i.pv] (.aB [m.pv,o.pv,vI p])):Cp 145 [n.pv,d.pv] ((⟨j.neg,j.cD,m.cD⟩:af).pv) :=
 eD func145 120 [1,1,1,1,1,1,1,1,1] [.q,.h 1 (.pv (vI a)),.f,.h 1 (.pv (vI b)),.t,dr 4 2 [.none,(.pv c.pv),.none,(.pv g.pv)],.h 2 (.pv i.pv),.h 2 (.pv (.aB [j.pv,k.pv,vI l])),.h 2 (.pv (.aB [m.pv,o.pv,vI p])),.q] (y9 h1 (bg h2) h3 (bR h4) h5 h6 h7 h8 h9)
theorem e2(n d:au)(a b:Int)(c g i:au)(j:Int)(k l:au)(m:Int)(h1:Cp 211 [n.pv] (vI a))(h2:a≠0)(h3:Cp 211 [d.pv] (vI b))(h4:0≤b)(h5:Cp 191 [n.pv,d.pv] c.pv)(h6:Cp 223 [n.pv,c.pv] (.aB [g.pv,i.pv,vI j]))(h7:Cp 223 [d.pv,c.pv] (.aB [k.pv,l.pv,vI m])):Cp 145 [n.pv,d.pv] ((⟨g.neg,g.cD,k.cD⟩:af).pv) :=
 eD func145 120 [1,1,1,1,1,1,1] [.q,.h 1 (.pv (vI a)),.f,.h 1 (.pv (vI b)),.f,.h 2 (.pv c.pv),.h 2 (.pv (.aB [g.pv,i.pv,vI j])),.h 2 (.pv (.aB [k.pv,l.pv,vI m])),.q] (y7 h1 (bg h2) h3 (bf h4) h5 h6 h7)
end iQ
namespace qc
theorem e0(a b:af)(c d g i j k:au)(l:af)(m:Int)(h1:Cp 144 [a.pv] (.aB [c.pv,d.pv]))(h2:Cp 144 [b.pv] (.aB [g.pv,i.pv]))(h3:Cp 147 [c.pv,i.pv] j.pv)(h4:Cp 147 [d.pv,g.pv] k.pv)(h5:Cp 224 [j.pv,k.pv] (.aB [l.pv,vI m])):Cp 148 [a.pv,b.pv] (.aB [l.pv,vI m]) :=
 eD func148 84 [1,1,1,1,1] [.q,.h 1 (.pv (.aB [c.pv,d.pv])),.h 1 (.pv (.aB [g.pv,i.pv])),dr 9 2 [.none,.none,(.pv j.pv),.none,.none,(.pv k.pv),(.pv (.aB [l.pv,vI m]))]] (y5 h1 h2 h3 h4 h5)
end qc
namespace gm
theorem e0(a:af)(h1:a.num.length=0)(h2:a.den.length=0):Cp 164 [a.pv] (vB (!a.neg)) :=
 eD func164 84 [1,1,1,1,1,1,1,1] [.q,.aR [.o,.o,(iI (a.num.length:Int)),.o,.o,.o,.o,(iI (a.den.length:Int)),.o,(.dec true)],.t,.q] (y8 (an ag a.num) (aN h1) (aN h1) (aN h1) (an ag a.den) (aN h1) (aN h1) (aN h2))
theorem e1(a:af)(h1:a.num.length=0)(h2:a.den.length≠0):Cp 164 [a.pv] (vB false) :=
 eD func164 105 [1,1,1,1,1,1,1,1,1,1,1,1,1,1,1,1,1,1,1,1] [.q,.aR [.o,.o,(iI (a.num.length:Int)),.o,.o,.o,.o,(iI (a.den.length:Int)),.o,(.dec true)],.f,dr 9 1 [],.aR [.o,.o,(iI (a.num.length:Int)),.o,.o,.skip,.skip,.skip,.skip,(.dec true),.o,.skip,.skip,.skip,.o,.o,.skip,.skip,.skip],.a,.q] (Wv (an ag a.num) (aN h1) (aN h1) (aN h1) (an ag a.den) (aN h1) (aN h1) (aA h2) (an ag a.num) (aN h1) (aN h1) (aN h1) (aN h1) (aN h1) (Eq.refl true) (Eq.refl true) (Eq.refl true) (Eq.refl true) (Eq.refl true) (Eq.refl true))
theorem e2(a:af)(h1:a.num.length≠0)(h2:a.den.length=0):Cp 164 [a.pv] (vB false) :=
 eD func164 105 [1,1,1,1,1,1,1,1,1,1,1,1,1,1,1,1,1,1,1,1] [.q,.aR [.o,.o,(iI (a.num.length:Int)),.o,.o,.skip,.skip,.skip,.skip,(.dec false)],.a,dr 9 1 [],.aR [.o,.o,(iI (a.num.length:Int)),.o,.o,.o,.o,(iI (a.den.length:Int)),.o,(.dec false),.o,.skip,.skip,.skip,(.dec true),.o,.skip,.skip,.skip],.a,.q] (Wv (an ag a.num) (aA h1) (aA h1) (aA h1) (aA h1) (aA h1) (an ag a.num) (aA h1) (aA h1) (aA h1) (an ag a.den) (aA h1) (aA h1) (aN h2) (aN h2) (aN h2) (aN h2) (Eq.refl true) (Eq.refl true) (Eq.refl true))
theorem e3(a:af)(b:Bool)(h1:a.num.length≠0)(h2:a.den.length≠0)(h3:Cp 220 [(⟨false,a.num⟩:au).pv] (vB b))(h4:b=false):Cp 164 [a.pv] (vB false) :=
 eD func164 105 [1,1,1,1,1,1,1,1,1,1,1,1,1,1,1,1,1,1,1,1,1,1] [.q,.aR [.o,.o,(iI (a.num.length:Int)),.o,.o,.skip,.skip,.skip,.skip,(.dec false)],.a,dr 9 1 [],.aR [.o,.o,(iI (a.num.length:Int)),.o,.o,.o,.o,(iI (a.den.length:Int)),.o,(.dec false),.o,.o,(.pv (vB b)),.o,(.dec false),.o,.skip,.skip,.skip,(.dec true)],.a,.q] (Yp (an ag a.num) (aA h1) (aA h1) (aA h1) (aA h1) (aA h1) (an ag a.num) (aA h1) (aA h1) (aA h1) (an ag a.den) (aA h1) (aA h1) (aA h2) (aA h2) h3 (aA h2) (aA h2) (cv h4) (cv h4) (cv h4) (cv h4))
theorem e4(a:af)(b c:Bool)(h1:a.num.length≠0)(h2:a.den.length≠0)(h3:Cp 220 [(⟨false,a.num⟩:au).pv] (vB b))(h4:b=true)(h5:Cp 220 [(⟨false,a.den⟩:au).pv] (vB c))(h6:c=false):Cp 164 [a.pv] (vB false) :=
 eD func164 105 [1,1,1,1,1,1,1,1,1,1,1,1,1,1,1,1,1,1,1,1,1,1,1,1] [.q,.aR [.o,.o,(iI (a.num.length:Int)),.o,.o,.skip,.skip,.skip,.skip,(.dec false)],.a,dr 9 1 [],.aR [.o,.o,(iI (a.num.length:Int)),.o,.o,.o,.o,(iI (a.den.length:Int)),.o,(.dec false),.o,.o,(.pv (vB b)),.o,(.dec false),.o,.o,(.pv (vB c)),.o,(.dec false)],.t,.q] (Ww (an ag a.num) (aA h1) (aA h1) (aA h1) (aA h1) (aA h1) (an ag a.num) (aA h1) (aA h1) (aA h1) (an ag a.den) (aA h1) (aA h1) (aA h2) (aA h2) h3 (aA h2) (aA h2) (aO h4) (aO h4) h5 (aO h4) (aO h4) (cv h6))
theorem e5(a:af)(b c:Bool)(d g:au)(i:Int)(h1:a.num.length≠0)(h2:a.den.length≠0)(h3:Cp 220 [(⟨false,a.num⟩:au).pv] (vB b))(h4:b=true)(h5:Cp 220 [(⟨false,a.den⟩:au).pv] (vB c))(h6:c=true)(h7:Cp 192 [(⟨false,a.num⟩:au).pv,(⟨false,a.den⟩:au).pv] d.pv)(h8:Cp 114 [] g.pv)(h9:Cp 94 [d.pv,g.pv] (vI i)):Cp 164 [a.pv] (vB (i==0)) :=
 eD func164 108 [1,1,1,1,1,1,1,1,1,1,1,1,1,1,1,1,1,1,1,1,1,1,1,1,1,1,1] [.q,.aR [.o,.o,(iI (a.num.length:Int)),.o,.o,.skip,.skip,.skip,.skip,(.dec false)],.a,dr 9 1 [],.aR [.o,.o,(iI (a.num.length:Int)),.o,.o,.o,.o,(iI (a.den.length:Int)),.o,(.dec false),.o,.o,(.pv (vB b)),.o,(.dec false),.o,.o,(.pv (vB c)),.o,(.dec false)],.f,.aR [.o,.o,(.pv d.pv),(.pv g.pv),(.pv (vI i))]] (Ys (an ag a.num) (aA h1) (aA h1) (aA h1) (aA h1) (aA h1) (an ag a.num) (aA h1) (aA h1) (aA h1) (an ag a.den) (aA h1) (aA h1) (aA h2) (aA h2) h3 (aA h2) (aA h2) (aO h4) (aO h4) h5 (aO h4) (aO h4) (aO h6) h7 h8 h9)
end gm
namespace qd
theorem e0(of:au)(h1:Cp 171 [vI 1] of.pv):Cp 172 [] of.pv :=
 eD func172 72 [1] [.q,.h 0 (.pv of.pv)] (y1 h1)
end qd
namespace kr
theorem e0(m:Ws)(k:Nat)(v:UInt32)(h1:0<m.length)(h2:ax ((m.length:Int)-1))(h3:((m.length:Int)-1)=(k:Int))(h4:m[k]? = some v):Cp 189 [aa m] (vB ((v.toNat:Int) != 0)) :=
 eD func189 72 [1,1,1,1,1,1,1,1,3,1,1,1] [.q,.aR [.o,(iI (m.length:Int)),.o,.o,.o,.o,(iI (m.length:Int)),(iI ((m.length:Int)-1)),(.row k (ag v)),.o,.o,(.dec true)]] (KK (an ag m) (aj h1) (aj h1) (aj h1) (an ag m) (aj h1) (aT h2) (aj h1) (bT ag h3 h4) (aj h1) (aj h1) (aj h1))
theorem e1(m:Ws)(h1:m.length≤0):Cp 189 [aa m] (vB false) :=
 eD func189 72 [1,1,1,1,1,1,1,1,1] [.q,.aR [.o,(iI (m.length:Int)),.o,.o,.skip,.skip,.skip,.skip,.skip,.skip,.skip,(.dec false)]] (y9 (an ag m) (ar h1) (ar h1) (ar h1) (ar h1) (ar h1) (ar h1) (ar h1) (ar h1))
end kr
namespace wS
theorem e0(a b:af)(c d g i j k:au)(l:af)(h1:Cp 92 [a.pv] (.aB [c.pv,d.pv]))(h2:Cp 92 [b.pv] (.aB [g.pv,i.pv]))(h3:Cp 95 [c.pv,g.pv] j.pv)(h4:Cp 95 [d.pv,i.pv] k.pv)(h5:Cp 113 [j.pv,k.pv] l.pv):Cp 198 [a.pv,b.pv] l.pv :=
 eD func198 84 [1,1,1,1,1] [.q,.h 1 (.pv (.aB [c.pv,d.pv])),.h 1 (.pv (.aB [g.pv,i.pv])),dr 7 1 [.none,.none,(.pv j.pv),.none,.none,(.pv k.pv),(.pv l.pv)]] (y5 h1 h2 h3 h4 h5)
end wS
namespace tv
theorem e0(a:af)(b c d g:au)(i:Option Int)(h1:Cp 92 [a.pv] (.aB [b.pv,c.pv]))(h2:Cp 132 [b.pv,c.pv] (.aB [d.pv,g.pv,bw i])):Cp 218 [a.pv] d.pv :=
 eD func218 84 [1,1] [.q,.h 1 (.pv (.aB [b.pv,c.pv])),.h 2 (.pv (.aB [d.pv,g.pv,bw i])),.q] (y2 h1 h2)
end tv
namespace oX
theorem e1(n d:au)(a:Int)(b:af)(h1:Cp 211 [d.pv] (vI a))(h2:a≠0)(h3:Cp 145 [n.pv,d.pv] b.pv):Cp 224 [n.pv,d.pv] (.aB [b.pv,vI 0]) :=
 eD func224 87 [1,1,1] [.q,.h 1 (.pv (vI a)),.f,.h 2 (.pv b.pv)] (y3 h1 (bg h2) h3)
end oX
namespace wT
theorem e0(a b:af)(c d g i j k:au)(l:af)(m:Option Int)(h1:Cp 92 [a.pv] (.aB [c.pv,d.pv]))(h2:Cp 92 [b.pv] (.aB [g.pv,i.pv]))(h3:Cp 95 [c.pv,i.pv] j.pv)(h4:Cp 95 [d.pv,g.pv] k.pv)(h5:Cp 90 [j.pv,k.pv] (.aB [l.pv,bw m])):Cp 234 [a.pv,b.pv] (.aB [l.pv,bw m]) :=
 eD func234 84 [1,1,1,1,1] [.q,.h 1 (.pv (.aB [c.pv,d.pv])),.h 1 (.pv (.aB [g.pv,i.pv])),dr 9 2 [.none,.none,(.pv j.pv),.none,.none,(.pv k.pv),(.pv (.aB [l.pv,bw m]))]] (y5 h1 h2 h3 h4 h5)
end wT
namespace r6
theorem e0(a:af)(b:Int)(c:af)(h1:Cp 33 [a.pv] (vI b))(h2:b<0)(h3:Cp 87 [a.pv] c.pv):Cp 235 [a.pv] c.pv :=
 eD func235 84 [1,1,1] [.q,.h 1 (.pv (vI b)),.t,.h 1 (.pv c.pv)] (y3 h1 (bR h2) h3)
theorem e1(a:af)(b:Int)(c d:au)(g:af)(h1:Cp 33 [a.pv] (vI b))(h2:0≤b)(h3:Cp 92 [a.pv] (.aB [c.pv,d.pv]))(h4:Cp 113 [c.pv,d.pv] g.pv):Cp 235 [a.pv] g.pv :=
 eD func235 87 [1,1,1,1] [.q,.h 1 (.pv (vI b)),.f,.aR [.o,(.pv (.aB [c.pv,d.pv])),.o,.o,(.pv g.pv)]] (y4 h1 (bf h2) h3 h4)
end r6
namespace qe
theorem e0(a b:af)(c d g i j k:au)(l:af)(h1:Cp 144 [a.pv] (.aB [c.pv,d.pv]))(h2:Cp 144 [b.pv] (.aB [g.pv,i.pv]))(h3:Cp 147 [c.pv,g.pv] j.pv)(h4:Cp 147 [d.pv,i.pv] k.pv)(h5:Cp 145 [j.pv,k.pv] l.pv):Cp 245 [a.pv,b.pv] l.pv :=
 eD func245 84 [1,1,1,1,1] [.q,.h 1 (.pv (.aB [c.pv,d.pv])),.h 1 (.pv (.aB [g.pv,i.pv])),dr 7 1 [.none,.none,(.pv j.pv),.none,.none,(.pv k.pv),(.pv l.pv)]] (y5 h1 h2 h3 h4 h5)
end qe
namespace oY
theorem e0(n d:Int)(of a:au)(b:af)(c:Int)(h1:Cp 171 [vI n] of.pv)(h2:Cp 171 [vI d] a.pv)(h3:Cp 224 [of.pv,a.pv] (.aB [b.pv,vI c])):Cp 275 [vI n,vI d] (.aB [b.pv,vI c]) :=
 eD func275 72 [1,1,1] [.q,.aR [.o,(.pv of.pv),.o,(.pv a.pv),(.pv (.aB [b.pv,vI c]))]] (y3 h1 h2 h3)
end oY
namespace ma
theorem e0(a b:af)(c:Int)(d:af)(h1:Cp 69 [a.pv,b.pv] (vI c))(h2:c≤0)(h3:Cp 70 [a.pv,(⟨false,[],[]⟩:af).pv] d.pv):Cp 284 [a.pv,b.pv] d.pv :=
 eD func284 84 [1,1,1] [.q,.h 2 (.pv (vI c)),.t,.h 2 (.pv d.pv)] (y3 h1 (fo h2) h3)
theorem e1(a b:af)(c:Int)(d:af)(h1:Cp 69 [a.pv,b.pv] (vI c))(h2:0<c)(h3:Cp 70 [b.pv,(⟨false,[],[]⟩:af).pv] d.pv):Cp 284 [a.pv,b.pv] d.pv :=
 eD func284 87 [1,1,1] [.q,.h 2 (.pv (vI c)),.f,.h 2 (.pv d.pv)] (y3 h1 (gM h2) h3)
end ma
namespace mb
theorem e0(a b:af)(c:Int)(d:af)(h1:Cp 69 [a.pv,b.pv] (vI c))(h2:0≤c)(h3:Cp 70 [a.pv,(⟨false,[],[]⟩:af).pv] d.pv):Cp 285 [a.pv,b.pv] d.pv :=
 eD func285 84 [1,1,1] [.q,.h 2 (.pv (vI c)),.t,.h 2 (.pv d.pv)] (y3 h1 (fo h2) h3)
theorem e1(a b:af)(c:Int)(d:af)(h1:Cp 69 [a.pv,b.pv] (vI c))(h2:c<0)(h3:Cp 70 [b.pv,(⟨false,[],[]⟩:af).pv] d.pv):Cp 285 [a.pv,b.pv] d.pv :=
 eD func285 87 [1,1,1] [.q,.h 2 (.pv (vI c)),.f,.h 2 (.pv d.pv)] (y3 h1 (gM h2) h3)
end mb
namespace Di
theorem e1(p b c d g i:Rs)(h1:Cp 79 [ae p] .az)(h2:p.length≠0)(h3:Cp 155 [ae p] (ae b))(h4:Cp 154 [ae p,ae b] (ae c))(h5:Cp 153 [ae p,ae c] (.aB [ae d,ae g]))(h6:Cp 156 [ae d] (ae i)):Cp 76 [ae p] (.aB [ae i,.az]) :=
 eD func76 114 [1,1,1,1,1,1,1] [.q,.h 1 (.pv .az),.q,.a,.h 1 (iI (p.length:Int)),.f,.aR [.o,.o,.o,(.pv (ae b)),(.pv (ae c)),(.pv (.aB [ae d,ae g]))],.h 1 (.pv (ae i))] (y7 h1 (an af.cells p) (aA h2) h3 h4 h5 h6)
end Di
namespace ef
@[reducible] def fn:Func:=Tryz.f79
def a7:List eH:=focus [0,2,0,0,2,1,2,0,0,2,0,0] [.code (ay fn)]
def inv1(p:List af)(Ig:Nat):St:=⟨[(0,(.pv (ae p))),(9,(.pv (ae p))),(10,(eI (p.length:Int))),(11,(eI (Ig:Int)))],[]⟩
@[reducible] def ah(p:List af)(Ig:Nat)(r:PV):Prop:=L bp fn a7 (inv1 p Ig) r
theorem e0(p:Rs)(h1:65<p.length):Cp 79 [ae p] (.iface 67 (vI 4)) :=
 eD func79 84 [1,1] [.q,.h 1 (iI (p.length:Int)),.t,.q] (y2 (an af.cells p) (aj h1))
theorem e1(p:Rs){r:PV}(h1:p.length≤65)(hL:ah p 0 r):Cp 79 [ae p] r :=
 eG func79 96 [1,1,1] [.q,.h 1 (iI (p.length:Int)),.f,.h 1 (iI (p.length:Int)),.aF [0,9,10,11]] (y3 (an af.cells p) (ar h1) (an af.cells p)) hL
theorem l10(p:Rs)(b:Nat)(v:af)(c:Bool)(h1:b<p.length)(h2:p[b]? = some v)(h3:Cp 164 [v.pv] (vB c))(h4:c=false):ah p b (.iface 67 (vI 2)) :=
 lD 141 [1,3,1,1] [.a,.q,.t,.h 0 (.row b (af.cells v)),.h 1 (.pv (vB c)),.t,.q] (y4 (aj h1) (bT af.cells (Eq.refl (((b:Nat):Int):Int)) h2) h3 (cv h4))
theorem cR(p:Rs)(b:Nat)(v:af)(c:Bool){r:PV}(h1:b<p.length)(h2:p[b]? = some v)(h3:Cp 164 [v.pv] (vB c))(h4:c=true)(h5:(b+1)<9223372036854775808)(hL:ah p (b+1) r):ah p b r :=
 lG 144 [1,3,1,1,1] [.a,.q,.t,.h 0 (.row b (af.cells v)),.h 1 (.pv (vB c)),.f,.h 0 (iI (((b+1):Nat):Int)),.aF [0,9,10,11],.drop [4]] (y5 (aj h1) (bT af.cells (Eq.refl (((b:Nat):Int):Int)) h2) h3 (aO h4) (aM h5)) hL
theorem kM(p:Rs)(b k:Nat)(v:af)(c:Int)(h1:p.length≤b)(h2:0<p.length)(h3:ax ((p.length:Int)-1))(h4:((p.length:Int)-1)=(k:Int))(h5:p[k]? = some v)(h6:Cp 33 [v.pv] (vI c))(h7:c=0):ah p b (.iface 67 (vI 8)) :=
 lD 141 [1,1,1,1,1,1,1,1,1,3,1,1,1,1,1,1] [.a,.q,.f,.aR [.o,(iI (p.length:Int)),.o,.o,.o,.o,(iI (p.length:Int)),(iI ((p.length:Int)-1)),(.row k (af.cells v)),.o,(.pv (vI c)),.o,(.dec true)],.t,.q] (Hq (ar h1) (an af.cells p) (aj h2) (aj h2) (aj h2) (an af.cells p) (aj h2) (aT h3) (aj h2) (bT af.cells h4 h5) (aj h2) (aj h2) h6 (aj h2) (aj h2) (a8 h7))
theorem tq(p:Rs)(b k:Nat)(v:af)(c:Int)(h1:p.length≤b)(h2:0<p.length)(h3:ax ((p.length:Int)-1))(h4:((p.length:Int)-1)=(k:Int))(h5:p[k]? = some v)(h6:Cp 33 [v.pv] (vI c))(h7:c≠0):ah p b .az :=
 lD 144 [1,1,1,1,1,1,1,1,1,3,1,1,1,1,1,1] [.a,.q,.f,.aR [.o,(iI (p.length:Int)),.o,.o,.o,.o,(iI (p.length:Int)),(iI ((p.length:Int)-1)),(.row k (af.cells v)),.o,(.pv (vI c)),.o,(.dec true)],.f,.q] (Hq (ar h1) (an af.cells p) (aj h2) (aj h2) (aj h2) (an af.cells p) (aj h2) (aT h3) (aj h2) (bT af.cells h4 h5) (aj h2) (aj h2) h6 (aj h2) (aj h2) (bg h7))
theorem Ew(p:Rs)(b:Nat)(h1:p.length≤b)(h2:p.length≤0):ah p b .az :=
 lD 144 [1,1,1,1,1,1,1,1,1,1,1] [.a,.q,.f,.aR [.o,(iI (p.length:Int)),.o,.o,.skip,.skip,.skip,.skip,.skip,.skip,.skip,.skip,(.dec false)],.a,.q] (Dg (ar h1) (an af.cells p) (ar h2) (ar h2) (ar h2) (ar h2) (ar h2) (ar h2) (ar h2) (ar h2) (ar h2))
end ef
namespace y0
theorem e0(p b:Rs)(h1:Cp 79 [ae p] .az)(h2:Cp 155 [ae p] (ae b)):Cp 80 [ae p] (.aB [ae b,.az]) :=
 eD func80 93 [1,1] [.q,.h 1 (.pv .az),.q,.a,.h 1 (.pv (ae b))] (y2 h1 h2)
end y0
namespace Gd
theorem e0(p q b:Rs)(h1:Cp 125 [(dj (aC af.cells) [p,q])] .az)(h2:Cp 154 [ae p,ae q] (ae b)):Cp 81 [ae p,ae q] (.aB [ae b,.az]) :=
 eD func81 93 [3,1,1] [.q,.aR [.o,.o,(.js 0 0 (([p,q]:List (Rs)).map (aC af.cells))),(.pv .az)],.q,.a,.h 2 (.pv (ae b))] (y3 (jY (rO af.cells) ([p,q]:List (Rs))) h1 h2)
end Gd
namespace jH
@[reducible] def fn:Func:=Tryz.f125
def a7:List eH:=focus [0,2,0,0,2,0,0] [.code (ay fn)]
def inv1(list:List (List af))(sK:Nat):St:=⟨[(6,(.pv (dj (aC af.cells) list))),(7,(eI (list.length:Int))),(8,(eI (sK:Int)))],[]⟩
@[reducible] def ah(list:List (List af))(sK:Nat)(r:PV):Prop:=L bp fn a7 (inv1 list sK) r
theorem e0 (a : List (Rs)) {r : PV}  (hL : ah a 0 r) : Cp 125 [(dj (aC af.cells) a)] r :=
 eG func125 81 [1] [.q,.h 1 (iI (a.length:Int)),.aF [6,7,8]] (y1 (an (aC af.cells) a)) hL
theorem l10(b:List (Rs))(c:Nat)(v:Rs){r:PV}(h1:c<b.length)(h2:b[c]? = some v)(h3:Cp 79 [ae v] .az)(h4:(c+1)<9223372036854775808)(hL:ah b (c+1) r):ah b c r :=
 lG 135 [1,3,1,1] [.a,.q,.t,.h 0 (.row c ((aC af.cells) v)),.h 1 (.pv .az),.q,.a,.h 0 (iI (((c+1):Nat):Int)),.aF [6,7,8]] (y4 (aj h1) (bT (aC af.cells) (Eq.refl (((c:Nat):Int):Int)) h2) h3 (aM h4)) hL
theorem cR(b:List (Rs))(c:Nat)(v:Rs)(d:Int)(h1:c<b.length)(h2:b[c]? = some v)(h3:Cp 79 [ae v] (.iface 67 (vI d))):ah b c (.iface 67 (vI d)) :=
 lD 132 [1,3,1] [.a,.q,.t,.h 0 (.row c ((aC af.cells) v)),.h 1 (.pv (.iface 67 (vI d))),.q,.a,.q] (y3 (aj h1) (bT (aC af.cells) (Eq.refl (((c:Nat):Int):Int)) h2) h3)
theorem kM(b:List (Rs))(c:Nat)(h1:b.length≤c):ah b c .az :=
 lD 114 [1] [.a,.q,.f,.q] (y1 (ar h1))
end jH
namespace q8
@[reducible] def fn:Func:=Tryz.f127
def a7:List eH:=focus [0,2,0,2,0,0,2,0,0] [.code (ay fn)]
def inv1(p q:List af)(Ia:Nat)(c:af)(lY:List af):St:=⟨[(0,(.pv (ae p))),(1,(.pv (ae q))),(5,(.ptr 5 0)),(7,(.row 14 0 (max p.length q.length) 3)),(16,(eI (((max p.length q.length):Nat):Int))),(17,(eI (Ia:Int)))],[(5,(.lit [(eB c.neg),(.pv (aa c.num)),(.pv (aa c.den))])),(14,(.pure ((lY:List af).map af.cells).flatten))]⟩
@[reducible] def ah(p q:List af)(Ia:Nat)(c:af)(lY:List af)(r:PV):Prop:=L bp fn a7 (inv1 p q Ia c lY) r
theorem e0(p q:Rs)(c:af){r:PV}(h1:56*(max p.length q.length)≤140737488355328)(hL:ah p q 0 c (List.replicate (max p.length q.length) (⟨false,[],[]⟩:af)) r):Cp 127 [ae p,ae q,c.pv] r :=
 eG func127 87 [1,1,1,5] [.q,.aR [.o,(iI (p.length:Int)),.o,(iI (q.length:Int)),(iI (((max p.length q.length):Nat):Int)),(.app (max p.length q.length) ((List.replicate (max p.length q.length) (⟨false,[],[]⟩:af):Rs).map af.cells).flatten)],.q,.aF [0,1,5,7,16,17],.ord [5,14]] (y4 (an af.cells p) (an af.cells q) (vv p.length q.length) (sR af.cells (⟨false,[],[]⟩:af) 56 (max p.length q.length) (Eq.refl ((((max p.length q.length):Nat):Int):Int)) h1 rfl)) hL
theorem l10(p q:Rs)(b:Nat)(c:af)(d:Rs)(g i j k:af){r:PV}(h1:b<(max p.length q.length))(h2:Cp 212 [ae p,(vI (b:Int))] g.pv)(h3:Cp 212 [ae q,(vI (b:Int))] i.pv)(h4:Cp 198 [c.pv,i.pv] j.pv)(h5:Cp 91 [g.pv,j.pv] k.pv)(h6:b<d.length)(h7:(b+1)<9223372036854775808)(hL:ah p q (b+1) c (d.set b k) r):ah p q b c d r :=
 lG 126 [1,1,1,1,1,2,2,1] [.a,.q,.t,.q,dr 12 1 [.none,.none,.none,.none,(.pv g.pv),.none,.none,.none,(.pv i.pv),(.pv j.pv),(.pv k.pv),(.nat b),(.cells (.pure (((d.set b k):Rs).map af.cells).flatten))],.h 0 (iI (((b+1):Nat):Int)),.aF [0,1,5,7,16,17]] (y8 (aj h1) h2 h3 h4 h5 (cj (Eq.refl (((b:Nat):Int):Int)) h1) (hJ aX (d:Rs) k h6) (aM h7)) hL
theorem cR(p q:Rs)(b:Nat)(c:af)(d g:Rs)(h1:(max p.length q.length)≤b)(h2:(max p.length q.length)=d.length)(h3:Cp 182 [ae d] (ae g)):ah p q b c d (ae g) :=
 lD 120 [1,3,1] [.a,.q,.f,.fW 7 ((d:Rs).map af.cells),.h 1 (.pv (ae g))] (y3 (ar h1) (df aX (d:Rs) h2) h3)
end q8
namespace q9
@[reducible] def fn:Func:=Tryz.f133
def a7:List eH:=focus [0,2,0,0,2,0,2,1,2,0,2,0,0,2,0,0] [.code (ay fn)]
def inv1(p:List af)(Es:Int)(x cU:af):St:=⟨[(0,(.pv (ae p))),(3,(.ptr 3 0)),(4,(.ptr 4 0)),(7,(.ptr 7 0)),(8,(eI Es))],[(3,(.lit [(eB x.neg),(.pv (aa x.num)),(.pv (aa x.den))])),(4,(.lit [(eB false),(.pv (.list [])),(.pv (.list []))])),(7,(.lit [(eB cU.neg),(.pv (aa cU.num)),(.pv (aa cU.den))]))]⟩
@[reducible] def ah(p:List af)(Es:Int)(x cU:af)(r:PV):Prop:=L bp fn a7 (inv1 p Es x cU) r
theorem e0(p:Rs)(x:af){r:PV}(h1:Cp 79 [ae p] .az)(h2:ax ((p.length:Int)-1))(hL:ah p ((p.length:Int)-1) x (⟨false,[],[]⟩:af) r):Cp 133 [ae p,x.pv] r :=
 eG func133 108 [1,1,1] [.q,.h 1 (.pv .az),.q,.a,.q,.aR [.o,(iI (p.length:Int)),(iI ((p.length:Int)-1))],.aF [0,3,4,7,8],.ord [3,4,7]] (y3 h1 (an af.cells p) (aT h2)) hL
theorem l10(p:Rs)(b:Int)(x c d:af)(k:Nat)(v g:af){r:PV}(h1:0≤b)(h2:Cp 198 [c.pv,x.pv] d.pv)(h3:b=(k:Int))(h4:p[k]? = some v)(h5:Cp 91 [d.pv,v.pv] g.pv)(h6:ax (b-1))(hL:ah p (b-1) x g r):ah p b x c r :=
 lG 141 [1,1,3,1,1] [.a,.q,.t,dr 8 1 [.none,.none,(.pv d.pv),.none,.none,(.row k (af.cells v)),.none,(.pv g.pv)],.h 1 (iI (b-1)),.aF [0,3,4,7,8]] (y5 (fo h1) h2 (bT af.cells h3 h4) h5 (aT h6)) hL
theorem cR(p:Rs)(b:Int)(x c:af)(h1:b<0):ah p b x c (.aB [c.pv,.az]) :=
 lD 141 [1] [.a,.q,.f,.q] (y1 (gM h1))
end q9
namespace iC
@[reducible] def fn:Func:=Tryz.f153
def a7:List eH:=focus [0,2,0,2,0,2,0,2,0,0,0] [.code (ay fn)]
def inv1(q:List af)(vD m:Nat)(v:af)(iP r7:List af):St:=⟨[(1,(.pv (ae q))),(6,(.row 15 0 vD 3)),(7,(.row 23 0 m 3)),(8,(.ptr 8 0))],[(8,(.lit [(eB v.neg),(.pv (aa v.num)),(.pv (aa v.den))])),(15,(.pure ((iP:List af).map af.cells).flatten)),(23,(.pure ((r7:List af).map af.cells).flatten))]⟩
@[reducible] def ah(q:List af)(vD m:Nat)(v:af)(iP r7:List af)(r:PV):Prop:=L bp fn a7 (inv1 q vD m v iP r7) r
def oN:List eH:=focus [0,2,0,2,0,2,0,2,0,0,0,0,0,0,2,0,2,0,0,2,0,2,0,2,0,0,2,0,0] [.code (ay fn)]
def inv2(q:List af)(vD m:Nat)(Ex:Int)(Rt:Nat)(v div:af)(iP r7:List af):St:=⟨[(1,(.pv (ae q))),(6,(.row 15 0 vD 3)),(7,(.row 23 0 m 3)),(8,(.ptr 8 0)),(9,(eI Ex)),(10,(.ptr 10 0)),(55,(.pv (ae q))),(56,(eI (q.length:Int))),(57,(eI (Rt:Int)))],[(8,(.lit [(eB v.neg),(.pv (aa v.num)),(.pv (aa v.den))])),(10,(.lit [(eB div.neg),(.pv (aa div.num)),(.pv (aa div.den))])),(15,(.pure ((iP:List af).map af.cells).flatten)),(23,(.pure ((r7:List af).map af.cells).flatten))]⟩
@[reducible] def bK(q:List af)(vD m:Nat)(Ex:Int)(Rt:Nat)(v div:af)(iP r7:List af)(r:PV):Prop:=L bp fn oN (inv2 q vD m Ex Rt v div iP r7) r
theorem e0(p q z:Rs)(n m k:Nat)(v:af){r:PV}(h1:av bp 182 [.pv (ae p)] [] (.row 0 0 n 3) [(0,(.pure ((z:Rs).map af.cells).flatten))])(h2:ax ((p.length:Int)-(q.length:Int)))(h3:ax (((p.length:Int)-(q.length:Int))+1))(h4:(max 0 (((p.length:Int)-(q.length:Int))+1))=(m:Int))(h5:56*m≤140737488355328)(h6:ax ((q.length:Int)-1))(h7:((q.length:Int)-1)=(k:Int))(h8:q[k]? = some v)(hL:ah q n m v z (List.replicate m (⟨false,[],[]⟩:af)) r):Cp 153 [ae p,ae q] r :=
 eG func153 93 [1,1,1,1,1,1,5,1,1,3] [.q,.h 1 (.bO [] (some (0,15)) (.row 0 0 n 3) [(0,(.pure ((z:Rs).map af.cells).flatten))]),.aR [.o,(iI (p.length:Int)),.o,(iI (q.length:Int)),(iI ((p.length:Int)-(q.length:Int))),(iI (((p.length:Int)-(q.length:Int))+1)),(iI (max 0 (((p.length:Int)-(q.length:Int))+1))),(.app m ((List.replicate m (⟨false,[],[]⟩:af):Rs).map af.cells).flatten)],.aR [.o,.o,(iI (q.length:Int)),(iI ((q.length:Int)-1)),(.row k (af.cells v))],.aF [1,6,7,8],.ord [8,15,23]] (F8 h1 (an af.cells p) (an af.cells q) (aT h2) (qC h3) (H8 0 (((p.length:Int)-(q.length:Int))+1)) (sR af.cells (⟨false,[],[]⟩:af) 56 m h4 h5 rfl) (an af.cells q) (aT h6) (bT af.cells h7 h8)) hL
theorem l10(q:Rs)(b m:Nat)(v:af)(c d:Rs)(k:Nat)(v1 g:af)(i:Option Int)(k1:Nat){r:PV}(h1:q.length≤b)(h2:ax ((b:Int)-(q.length:Int)))(h3:ax ((b:Int)-1))(h4:((b:Int)-1)=(k:Int))(h5:k<b)(h6:c[k]? = some v1)(h7:Cp 234 [v1.pv,v.pv] (.aB [g.pv,bw i]))(h8:((b:Int)-(q.length:Int))=(k1:Int))(h9:k1<m)(dh:k1<d.length)(hL:bK q b m ((b:Int)-(q.length:Int)) 0 v g c (d.set k1 g) r):ah q b m v c d r :=
 lG 147 [1,1,1,1,1,2,2,1,2,2,1] [.a,.h 3 (iI (q.length:Int)),.t,.aR [.o,.o,.o,(iI (q.length:Int)),(iI ((b:Int)-(q.length:Int)))],dr 13 1 [.none,.none,.none,(iI ((b:Int)-1)),(.nat k),(.Hv [vB v1.neg,aa v1.num,aa v1.den]),.none,(.pv (.aB [g.pv,bw i]))],.aR [.o,.o,.o,(.nat k1),(.cells (.pure (((d.set k1 g):Rs).map af.cells).flatten))],.h 1 (iI (q.length:Int)),.aF [1,6,7,8,9,10,55,56,57],.ord [8,10,15,23]] (Dg (an af.cells q) (dy h1) (an af.cells q) (aT h2) (aT h3) (cj h4 h5) (sI aX h6) h7 (cj h8 h9) (hJ aX (d:Rs) g dh) (an af.cells q)) hL
theorem cR(q:Rs)(b m:Nat)(v:af)(c d g:Rs)(h1:b<q.length)(h2:m=d.length)(h3:Cp 182 [ae d] (ae g))(h4:b=c.length):ah q b m v c d (.aB [ae g,ae c]) :=
 lD 126 [1,1,3,1,3] [.a,.h 3 (iI (q.length:Int)),.f,.fW 7 ((d:Rs).map af.cells),.h 1 (.pv (ae g)),.fW 5 ((c:Rs).map af.cells)] (y5 (an af.cells q) (bQ h1) (df aX (d:Rs) h2) h3 (df aX (c:Rs) h4))
theorem Ac(q:Rs)(b m:Nat)(c:Int)(d:Nat)(v g:af)(i j:Rs)(v1:af)(k:Nat)(v2 l n:af)(k1:Nat){r:PV}(h1:d<q.length)(h2:q[d]? = some v1)(h3:ax (c+(d:Int)))(h4:(c+(d:Int))=(k:Int))(h5:k<b)(h6:i[k]? = some v2)(h7:Cp 198 [g.pv,v1.pv] l.pv)(h8:Cp 32 [v2.pv,l.pv] n.pv)(h9:(c+(d:Int))=(k1:Int))(dh:k1<b)(gb:k1<i.length)(kh:(d+1)<9223372036854775808)(hL:bK q b m c (d+1) v g (i.set k1 n) j r):bK q b m c d v g i j r :=
 lG 186 [1,3,1,1,2,2,1,1,2,2,1] [.a,.q,.t,.h 1 (.row d (af.cells v1)),dr 15 1 [.none,.none,.none,(iI (c+(d:Int))),.none,.none,.none,(iI (c+(d:Int))),(.nat k),(.Hv [vB v2.neg,aa v2.num,aa v2.den]),.none,.none,(.pv l.pv),(.pv n.pv),(.nat k1),(.cells (.pure (((i.set k1 n):Rs).map af.cells).flatten))],.h 0 (iI (((d+1):Nat):Int)),.aF [1,6,7,8,9,10,55,56,57],.drop [13]] (Dg (aj h1) (bT af.cells (Eq.refl (((d:Nat):Int):Int)) h2) (qC h3) (qC h3) (cj h4 h5) (sI aX h6) h7 h8 (cj h9 dh) (hJ aX (i:Rs) n gb) (aM kh)) hL
theorem CN(q:Rs)(b m:Nat)(c:Int)(d:Nat)(v g:af)(i j z:Rs)(n:Nat){r:PV}(h1:q.length≤d)(h2:b=i.length)(h3:av bp 182 [.pv (ae i)] [] (.row 0 0 n 3) [(0,(.pure ((z:Rs).map af.cells).flatten))])(hL:ah q n m v z j r):bK q b m c d v g i j r :=
 lG 180 [1,3,1] [.a,.q,.f,.fW 6 ((i:Rs).map af.cells),.h 1 (.bO [] (some (0,79)) (.row 0 0 n 3) [(0,(.pure ((z:Rs).map af.cells).flatten))]),.aF [1,6,7,8],.drop [10],.sV 79 15,.ord [8,15,23]] (y3 (ar h1) (df aX (i:Rs) h2) h3) hL
end iC
namespace je
@[reducible] def fn:Func:=Tryz.f154
def a7:List eH:=focus [0,2,0,0,0] [.code (ay fn)]
def inv1(Ru Rv:List af):St:=⟨[(0,(.pv (ae Ru))),(1,(.pv (ae Rv)))],[]⟩
@[reducible] def ah(Ru Rv:List af)(r:PV):Prop:=L bp fn a7 (inv1 Ru Rv) r
theorem e0 (p q : Rs) {r : PV}  (hL : ah p q r) : Cp 154 [ae p, ae q] r :=
 eG func154 75 [] [.q,.aF [0,1]] True.intro hL
theorem l10(b c d g i:Rs){r:PV}(h1:0<c.length)(h2:Cp 153 [ae b,ae c] (.aB [ae d,ae g]))(h3:Cp 156 [ae g] (ae i))(hL:ah c i r):ah b c r :=
 lG 108 [1,1,1,1] [.a,.h 1 (iI (c.length:Int)),.t,.h 2 (.pv (.aB [ae d,ae g])),.h 2 (.pv (ae i)),.aF [0,1]] (y4 (an af.cells c) (aj h1) h2 h3) hL
theorem cR(b c d:Rs)(h1:c.length≤0)(h2:Cp 156 [ae b] (ae d)):ah b c (ae d) :=
 lD 108 [1,1,1] [.a,.h 1 (iI (c.length:Int)),.f,.h 1 (.pv (ae d))] (y3 (an af.cells c) (ar h1) h2)
end je
namespace ny
@[reducible] def fn:Func:=Tryz.f155
def a7:List eH:=focus [0,2,0,2,0,0,2,0,0] [.code (ay fn)]
def inv1(p Af:List af)(WJ:Nat):St:=⟨[(0,(.pv (ae p))),(3,(.row 20 0 Af.length 3)),(4,(eI (WJ:Int)))],[(20,(.pure ((Af:List af).map af.cells).flatten))]⟩
@[reducible] def ah(p Af:List af)(WJ:Nat)(r:PV):Prop:=L bp fn a7 (inv1 p Af WJ) r
theorem e0 (p : Rs) {r : PV}  (hL : ah p [] 1 r) : Cp 155 [ae p] r :=
 eG func155 87 [] [.q,.h 0 .nil,.kx 3 20 3,.q,.aF [0,3,4]] True.intro hL
theorem l10(p b:Rs)(c:Nat)(of v d:af){r:PV}(h1:c<p.length)(h2:Cp 46 [(vI (c:Int))] of.pv)(h3:p[c]? = some v)(h4:Cp 198 [of.pv,v.pv] d.pv)(h5:((b++[d]):Rs).length*56≤140737488355328)(h6:(c+1)<9223372036854775808)(hL:ah p (b++[d]) (c+1) r):ah p b c r :=
 lG 120 [1,1,1,3,1,6,1] [.a,.h 2 (iI (p.length:Int)),.t,dr 9 2 [.none,.none,(.pv of.pv),.none,.none,(.row c (af.cells v)),.none,(.pv d.pv),.none,(.app ((b++[d]):Rs).length (((b++[d]):Rs).map af.cells).flatten)],.h 1 (iI (((c+1):Nat):Int)),.aF [0,3,4],.drop [19]] (y7 (an af.cells p) (aj h1) h2 (bT af.cells (Eq.refl (((c:Nat):Int):Int)) h3) h4 (iK aX (b:Rs) ([d]:Rs) 56 (Eq.refl (b:Rs).length) (Eq.refl ([d]:Rs).length) h5 rfl) (aM h6)) hL
theorem cR(p b:Rs)(c:Nat)(d:Rs)(h1:p.length≤c)(h2:Cp 182 [ae b] (ae d)):ah p b c (ae d) :=
 lD 120 [1,1,3,1] [.a,.h 2 (iI (p.length:Int)),.f,.fW 3 ((b:Rs).map af.cells),.h 1 (.pv (ae d))] (y4 (an af.cells p) (ar h1) (df aX (b:Rs) (Eq.refl (b:Rs).length)) h2)
end ny
namespace vE
theorem e0(p:Rs)(h1:p.length=0):Cp 156 [ae p] (ae []) :=
 eD func156 84 [1,1] [.q,.h 1 (iI (p.length:Int)),.t,.q] (y2 (an af.cells p) (aN h1))
theorem e1(p:Rs)(of:af)(k:Nat)(v a:af)(b:Option Int)(c:Rs)(h1:p.length≠0)(h2:Cp 46 [vI 1] of.pv)(h3:ax ((p.length:Int)-1))(h4:((p.length:Int)-1)=(k:Int))(h5:p[k]? = some v)(h6:Cp 234 [of.pv,v.pv] (.aB [a.pv,bw b]))(h7:Cp 127 [(ae []),ae p,a.pv] (ae c)):Cp 156 [ae p] (ae c) :=
 eD func156 93 [1,1,1,1,1,3,1,1] [.q,.h 1 (iI (p.length:Int)),.f,dr 13 1 [(.pv of.pv),.none,.none,(iI (p.length:Int)),(iI ((p.length:Int)-1)),(.row k (af.cells v)),.none,(.pv (.aB [a.pv,bw b]))],.h 2 (.pv (ae c))] (y8 (an af.cells p) (aA h1) h2 (an af.cells p) (aT h3) (bT af.cells h4 h5) h6 h7)
end vE
namespace j0
@[reducible] def fn:Func:=Tryz.f182
def a7:List eH:=focus [0,2,0,2,0,0,2,0,0] [.code (ay fn)]
def inv1(cq l:List af)(sK:Nat):St:=⟨[(3,(.row 17 0 cq.length 3)),(6,(.pv (ae l))),(7,(eI (l.length:Int))),(8,(eI (sK:Int)))],[(17,(.pure ((cq:List af).map af.cells).flatten))]⟩
@[reducible] def ah(cq l:List af)(sK:Nat)(r:PV):Prop:=L bp fn a7 (inv1 cq l sK) r
def oN:List eH:=focus [0,2,0,2,0,0,2,0,0,0,0,2,0,1,2,2,2,2,0,0,0] [.code (ay fn)]
def inv2(cq:List af):St:=⟨[(3,(.row 17 0 cq.length 3))],[(17,(.pure ((cq:List af).map af.cells).flatten))]⟩
@[reducible] def bK(cq:List af)(r:PV):Prop:=L bp fn oN (inv2 cq) r
theorem e0 (l : Rs) {r : PV}  (hL : ah [] l 0 r) : Cp 182 [ae l] r :=
 eG func182 87 [1] [.q,.h 0 .nil,.kx 3 17 3,.h 1 (iI (l.length:Int)),.aF [3,6,7,8]] (y1 (an af.cells l)) hL
theorem l10(b l:Rs)(c:Nat)(v d:af){r:PV}(h1:c<l.length)(h2:l[c]? = some v)(h3:Cp 91 [v.pv,(⟨false,[],[]⟩:af).pv] d.pv)(h4:((b++[d]):Rs).length*56≤140737488355328)(h5:(c+1)<9223372036854775808)(hL:ah (b++[d]) l (c+1) r):ah b l c r :=
 lG 126 [1,3,1,6,1] [.a,.q,.t,.h 0 (.row c (af.cells v)),.aR [.o,.o,.o,(.pv d.pv),.o,(.app ((b++[d]):Rs).length (((b++[d]):Rs).map af.cells).flatten)],.h 0 (iI (((c+1):Nat):Int)),.aF [3,6,7,8],.drop [16,5]] (y5 (aj h1) (bT af.cells (Eq.refl (((c:Nat):Int):Int)) h2) h3 (iK aX (b:Rs) ([d]:Rs) 56 (Eq.refl (b:Rs).length) (Eq.refl ([d]:Rs).length) h4 rfl) (aM h5)) hL
theorem cR(b l:Rs)(c:Nat){r:PV}(h1:l.length≤c)(hL:bK b r):ah b l c r :=
 lG 123 [1] [.a,.q,.f,.aF [3]] (y1 (ar h1)) hL
theorem Ac(b:Rs)(k:Nat)(v:af)(c:Int)(u:Nat){r:PV}(h1:0<b.length)(h2:ax ((b.length:Int)-1))(h3:((b.length:Int)-1)=(k:Int))(h4:k<b.length)(h5:b[k]? = some v)(h6:Cp 33 [v.pv] (vI c))(h7:c=0)(h8:((b.length:Int)-1)=(u:Int))(h9:u≤(b:Rs).length)(hL:bK (b.take u) r):bK b r :=
 lG 150 [1,1,1,1,1,1,2,1,2,1,1,1,1,1,1,5,1] [.a,.aR [.o,.o,.o,.o,.o,.o,.o,(iI ((b.length:Int)-1)),(.nat k),(.Hv [vB v.neg,aa v.num,aa v.den]),(.pv (vI c)),.o,(.dec true)],.t,.aR [.o,.o,.o,(iI ((b.length:Int)-1)),(.js 0 ((b.take u).length) [])],.cut 17 (u*3) (((b.take u):Rs).map af.cells).flatten,.aF [3]] (P4 (aj h1) (aj h1) (aj h1) (aj h1) (aT h2) (aj h1) (cj h3 h4) (aj h1) (sI aX h5) (aj h1) h6 (aj h1) (aj h1) (a8 h7) (aT h2) (F7 (b:Rs) h8 h9) (uW aX (b:Rs) u)) hL
theorem CN(b:Rs)(k:Nat)(v:af)(c:Int)(h1:0<b.length)(h2:ax ((b.length:Int)-1))(h3:((b.length:Int)-1)=(k:Int))(h4:k<b.length)(h5:b[k]? = some v)(h6:Cp 33 [v.pv] (vI c))(h7:c≠0):bK b (ae b) :=
 lD 156 [1,1,1,1,1,1,2,1,2,1,1,1,1,1,3] [.a,.aR [.o,.o,.o,.o,.o,.o,.o,(iI ((b.length:Int)-1)),(.nat k),(.Hv [vB v.neg,aa v.num,aa v.den]),(.pv (vI c)),.o,(.dec true)],.f,.q,.fW 2 ((b:Rs).map af.cells)] (KL (aj h1) (aj h1) (aj h1) (aj h1) (aT h2) (aj h1) (cj h3 h4) (aj h1) (sI aX h5) (aj h1) h6 (aj h1) (aj h1) (bg h7) (df aX (b:Rs) (Eq.refl (b:Rs).length)))
theorem Mt(b:Rs)(h1:b.length≤0):bK b (ae b) :=
 lD 156 [1,1,1,1,1,1,1,1,1,3] [.a,.aR [.o,.o,.o,.o,.skip,.skip,.skip,.skip,.skip,.skip,.skip,.skip,(.dec false)],.a,.q,.fW 2 ((b:Rs).map af.cells)] (F8 (ar h1) (ar h1) (ar h1) (ar h1) (ar h1) (ar h1) (ar h1) (ar h1) (ar h1) (df aX (b:Rs) (Eq.refl (b:Rs).length)))
end j0
namespace iR
@[reducible] def fn:Func:=Tryz.f182
def a7:List eH:=focus [0,2,0,2,0,0,2,0,0] [.code (ay fn)]
def inv1(cq l:List af)(sK:Nat):St:=⟨[(3,(.row 17 0 cq.length 3)),(6,(.pv (ae l))),(7,(eI (l.length:Int))),(8,(eI (sK:Int)))],[(17,(.pure ((cq:List af).map af.cells).flatten))]⟩
@[reducible] def ah(cq l:List af)(sK:Nat)(sin:aS)(r:EV)(sout:aS):Prop:=LX bp fn a7 (inv1 cq l sK) sin r sout
def oN:List eH:=focus [0,2,0,2,0,0,2,0,0,0,0,2,0,1,2,2,2,2,0,0,0] [.code (ay fn)]
def inv2(cq:List af):St:=⟨[(3,(.row 17 0 cq.length 3))],[(17,(.pure ((cq:List af).map af.cells).flatten))]⟩
@[reducible] def bK(cq:List af)(sin:aS)(r:EV)(sout:aS):Prop:=LX bp fn oN (inv2 cq) sin r sout
theorem e0 (l : Rs) {r : EV} {sout : aS}  (hL : ah [] l 0 [] r sout) : av bp 182 [(.pv (ae l))] [] r sout :=
 Mp func182 87 [1] [.q,.h 0 .nil,.kx 3 17 3,.h 1 (iI (l.length:Int)),.aF [3,6,7,8]] (y1 (an af.cells l)) hL
theorem l10(b l:Rs)(c:Nat)(v d:af){r:EV}{sout:aS}{sin:aS}(hs:sin.all (fun p=>Nat.ble fn.ntmps p.1)=true)(h1:c<l.length)(h2:l[c]? = some v)(h3:Cp 91 [v.pv,(⟨false,[],[]⟩:af).pv] d.pv)(h4:((b++[d]):Rs).length*56≤140737488355328)(h5:(c+1)<9223372036854775808)(hL:ah (b++[d]) l (c+1) sin r sout):ah b l c sin r sout :=
 KI 126 [1,3,1,6,1] [.a,.q,.t,.h 0 (.row c (af.cells v)),.aR [.o,.o,.o,(.pv d.pv),.o,(.app ((b++[d]):Rs).length (((b++[d]):Rs).map af.cells).flatten)],.h 0 (iI (((c+1):Nat):Int)),.aF [3,6,7,8],.drop [16,5]] hs (y5 (aj h1) (bT af.cells (Eq.refl (((c:Nat):Int):Int)) h2) h3 (iK aX (b:Rs) ([d]:Rs) 56 (Eq.refl (b:Rs).length) (Eq.refl ([d]:Rs).length) h4 rfl) (aM h5)) hL
theorem cR(b l:Rs)(c:Nat){r:EV}{sout:aS}{sin:aS}(hs:sin.all (fun p=>Nat.ble fn.ntmps p.1)=true)(h1:l.length≤c)(hL:bK b sin r sout):ah b l c sin r sout :=
 KI 123 [1] [.a,.q,.f,.aF [3]] hs (y1 (ar h1)) hL
theorem Ac(b:Rs)(k:Nat)(v:af)(c:Int)(u:Nat){r:EV}{sout:aS}{sin:aS}(hs:sin.all (fun p=>Nat.ble fn.ntmps p.1)=true)(h1:0<b.length)(h2:ax ((b.length:Int)-1))(h3:((b.length:Int)-1)=(k:Int))(h4:k<b.length)(h5:b[k]? = some v)(h6:Cp 33 [v.pv] (vI c))(h7:c=0)(h8:((b.length:Int)-1)=(u:Int))(h9:u≤(b:Rs).length)(hL:bK (b.take u) sin r sout):bK b sin r sout :=
 KI 150 [1,1,1,1,1,1,2,1,2,1,1,1,1,1,1,5,1] [.a,.aR [.o,.o,.o,.o,.o,.o,.o,(iI ((b.length:Int)-1)),(.nat k),(.Hv [vB v.neg,aa v.num,aa v.den]),(.pv (vI c)),.o,(.dec true)],.t,.aR [.o,.o,.o,(iI ((b.length:Int)-1)),(.js 0 ((b.take u).length) [])],.cut 17 (u*3) (((b.take u):Rs).map af.cells).flatten,.aF [3]] hs (P4 (aj h1) (aj h1) (aj h1) (aj h1) (aT h2) (aj h1) (cj h3 h4) (aj h1) (sI aX h5) (aj h1) h6 (aj h1) (aj h1) (a8 h7) (aT h2) (F7 (b:Rs) h8 h9) (uW aX (b:Rs) u)) hL
theorem CN(b:Rs)(k:Nat)(v:af)(c:Int){sin:aS}(hs:sin.all (fun p=>Nat.ble fn.ntmps p.1)=true)(hi:sin.all (fun p=>v7 p.1||(aS.get [(0,(.pure ((b:Rs).map af.cells).flatten))] p.1).isSome)=true)(h1:0<b.length)(h2:ax ((b.length:Int)-1))(h3:((b.length:Int)-1)=(k:Int))(h4:k<b.length)(h5:b[k]? = some v)(h6:Cp 33 [v.pv] (vI c))(h7:c≠0):bK b sin (.row 0 0 b.length 3) [(0,(.pure ((b:Rs).map af.cells).flatten))] :=
 Fi 156 [1,1,1,1,1,1,2,1,2,1,1,1,1,1] [.a,.aR [.o,.o,.o,.o,.o,.o,.o,(iI ((b.length:Int)-1)),(.nat k),(.Hv [vB v.neg,aa v.num,aa v.den]),(.pv (vI c)),.o,(.dec true)],.f,.q,.sV 17 0,.ord [0]] hs hi (Lk (aj h1) (aj h1) (aj h1) (aj h1) (aT h2) (aj h1) (cj h3 h4) (aj h1) (sI aX h5) (aj h1) h6 (aj h1) (aj h1) (bg h7))
theorem Mt(b:Rs){sin:aS}(hs:sin.all (fun p=>Nat.ble fn.ntmps p.1)=true)(hi:sin.all (fun p=>v7 p.1||(aS.get [(0,(.pure ((b:Rs).map af.cells).flatten))] p.1).isSome)=true)(h1:b.length≤0):bK b sin (.row 0 0 b.length 3) [(0,(.pure ((b:Rs).map af.cells).flatten))] :=
 Fi 156 [1,1,1,1,1,1,1,1,1] [.a,.aR [.o,.o,.o,.o,.skip,.skip,.skip,.skip,.skip,.skip,.skip,.skip,(.dec false)],.a,.q,.sV 17 0,.ord [0]] hs hi (y9 (ar h1) (ar h1) (ar h1) (ar h1) (ar h1) (ar h1) (ar h1) (ar h1) (ar h1))
end iR
namespace mO
theorem e0(p:Rs)(i:Int)(k:Nat)(v:af)(h1:i<(p.length:Int))(h2:i=(k:Int))(h3:p[k]? = some v):Cp 212 [ae p,vI i] v.pv :=
 eD func212 84 [1,1,3] [.q,.h 2 (iI (p.length:Int)),.t,.h 2 (.row k (af.cells v))] (y3 (an af.cells p) (bR h1) (bT af.cells h2 h3))
theorem e1(p:Rs)(i:Int)(h1:(p.length:Int)≤i):Cp 212 [ae p,vI i] ((⟨false,[],[]⟩:af).pv) :=
 eD func212 87 [1,1] [.q,.h 2 (iI (p.length:Int)),.f,.q] (y2 (an af.cells p) (bf h1))
end mO
namespace Ge
theorem e1(p q b c:Rs)(h1:Cp 125 [(dj (aC af.cells) [p,q])] .az)(h2:q.length≠0)(h3:Cp 153 [ae p,ae q] (.aB [ae b,ae c])):Cp 236 [ae p,ae q] (.aB [ae b,ae c,.az]) :=
 eD func236 114 [3,1,1,1,1] [.q,.aR [.o,.o,(.js 0 0 (([p,q]:List (Rs)).map (aC af.cells))),(.pv .az)],.q,.a,.h 1 (iI (q.length:Int)),.f,.h 2 (.pv (.aB [ae b,ae c])),.q] (y5 (jY (rO af.cells) ([p,q]:List (Rs))) h1 (an af.cells q) (aA h2) h3)
end Ge
namespace BC
theorem e0(p:Rs)(c:af)(b:Rs)(h1:Cp 79 [ae p] .az)(h2:Cp 127 [(ae []),ae p,c.pv] (ae b)):Cp 237 [ae p,c.pv] (.aB [ae b,.az]) :=
 eD func237 93 [1,1] [.q,.h 1 (.pv .az),.q,.a,.h 2 (.pv (ae b))] (y2 h1 h2)
end BC
end Go.Proofs.YtllmkadmohkbfaaGreatDoor.Sym.Path
end
