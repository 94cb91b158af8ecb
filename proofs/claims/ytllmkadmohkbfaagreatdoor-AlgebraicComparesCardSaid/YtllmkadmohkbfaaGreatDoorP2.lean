/- Lemmas for the statements of this seat. -/
import Derived.Test.YtllmkadmohkbfaaGreatDoorT0
noncomputable section
namespace Go.Proofs.YtllmkadmohkbfaaGreatDoor.Sym.Path
open Go Tryz
set_option maxRecDepth 20000
set_option linter.unusedVariables false
namespace vn
theorem e0(a b:ah)(c:Bool)(h1:Cp 73 [a.pv,b.pv] (vB c)):Cp 19 [a.pv,b.pv] (vB c) :=
 eD func19 72 [1] [.q,.h 2 (.pv (vB c))] (y1 h1)
end vn
namespace Bu
theorem e0(n d:Int)(of a:aI)(b:ah)(c:Option Int)(h1:Cp 67 [vI n] of.pv)(h2:Cp 67 [vI d] a.pv)(h3:Cp 90 [of.pv,a.pv] (.aB [b.pv,bC c])):Cp 31 [vI n,vI d] (.aB [b.pv,bC c]) :=
 eD func31 72 [1,1,1] [.q,.ba [.o,(.pv of.pv),.o,(.pv a.pv),(.pv (.aB [b.pv,bC c]))]] (y3 h1 h2 h3)
end Bu
namespace C5
theorem e0(a b c d:ah)(h1:Cp 87 [b.pv] c.pv)(h2:Cp 91 [a.pv,c.pv] d.pv):Cp 32 [a.pv,b.pv] d.pv :=
 eD func32 72 [1,1] [.q,dr 4 1 [.none,.none,(.pv c.pv),(.pv d.pv)]] (y2 h1 h2)
end C5
namespace Bv
theorem e0(a:ah)(b c:aI)(d:Int)(h1:Cp 92 [a.pv] (.aB [b.pv,c.pv]))(h2:Cp 93 [b.pv] (vI d)):Cp 33 [a.pv] (vI d) :=
 eD func33 78 [1,1] [.q,.h 1 (.pv (.aB [b.pv,c.pv])),.h 1 (.pv (vI d))] (y2 h1 h2)
end Bv
namespace C6
theorem e0(a b:ah)(c d g i j k:aI)(l:Int)(h1:Cp 92 [a.pv] (.aB [c.pv,d.pv]))(h2:Cp 92 [b.pv] (.aB [g.pv,i.pv]))(h3:Cp 95 [c.pv,i.pv] j.pv)(h4:Cp 95 [g.pv,d.pv] k.pv)(h5:Cp 94 [j.pv,k.pv] (vI l)):Cp 34 [a.pv,b.pv] (vI l) :=
 eD func34 84 [1,1,1,1,1] [.q,.h 1 (.pv (.aB [c.pv,d.pv])),.h 1 (.pv (.aB [g.pv,i.pv])),dr 7 1 [.none,.none,(.pv j.pv),.none,.none,(.pv k.pv),(.pv (vI l))]] (y5 h1 h2 h3 h4 h5)
end C6
namespace E1
theorem e0(n:Int)(of a:aI)(b:ah)(h1:Cp 67 [vI n] of.pv)(h2:Cp 114 [] a.pv)(h3:Cp 113 [of.pv,a.pv] b.pv):Cp 46 [vI n] b.pv :=
 eD func46 72 [1,1,1] [.q,.ba [.o,(.pv of.pv),(.pv a.pv),(.pv b.pv)]] (y3 h1 h2 h3)
end E1
namespace xo
theorem e0(a:ah)(b c d:aI)(g:Int)(i:ByteArray)(h1:Cp 92 [a.pv] (.aB [b.pv,c.pv]))(h2:Cp 114 [] d.pv)(h3:Cp 94 [c.pv,d.pv] (vI g))(h4:g=0)(h5:Cp 129 [b.pv] (.str i)):Cp 61 [a.pv] (.str i) :=
 eD func61 90 [1,1,1,1,1] [.q,.h 1 (.pv (.aB [b.pv,c.pv])),dr 4 0 [.none,(.pv d.pv),(.pv (vI g))],.t,.h 1 (.pv (.str i))] (y5 h1 h2 h3 (aF h4) h5)
theorem e1(a:ah)(b c d:aI)(g:Int)(i j:ByteArray)(h1:Cp 92 [a.pv] (.aB [b.pv,c.pv]))(h2:Cp 114 [] d.pv)(h3:Cp 94 [c.pv,d.pv] (vI g))(h4:g≠0)(h5:Cp 129 [b.pv] (.str i))(h6:i.size+(ByteArray.mk #[47]).size<9223372036854775808)(h7:Cp 129 [c.pv] (.str j))(h8:(i++(ByteArray.mk #[47])).size+j.size<9223372036854775808):Cp 61 [a.pv] (.str ((i++(ByteArray.mk #[47]))++j)) :=
 eD func61 93 [1,1,1,1,1,1,1,1] [.q,.h 1 (.pv (.aB [b.pv,c.pv])),dr 4 0 [.none,(.pv d.pv),(.pv (vI g))],.f,dr 6 1 [.none,(.pv (.str i)),(.pv (.str (i++(ByteArray.mk #[47])))),.none,(.pv (.str j)),(.pv (.str ((i++(ByteArray.mk #[47]))++j)))]] (y8 h1 h2 h3 (aN h4) h5 (C0 h6) h7 (C0 h8))
end xo
namespace wN
theorem e0(a b c:ah)(d:Int)(h1:Cp 143 [a.pv,b.pv] c.pv)(h2:Cp 124 [c.pv] (vI d)):Cp 69 [a.pv,b.pv] (vI d) :=
 eD func69 72 [1,1] [.q,.ba [.o,.o,(.pv c.pv),(.pv (vI d))]] (y2 h1 h2)
end wN
namespace wO
theorem e0(a b:ah)(c d g i j k l m:aI)(n:ah)(h1:Cp 144 [a.pv] (.aB [c.pv,d.pv]))(h2:Cp 144 [b.pv] (.aB [g.pv,i.pv]))(h3:Cp 147 [c.pv,i.pv] j.pv)(h4:Cp 147 [g.pv,d.pv] k.pv)(h5:Cp 146 [j.pv,k.pv] l.pv)(h6:Cp 147 [d.pv,i.pv] m.pv)(h7:Cp 145 [l.pv,m.pv] n.pv):Cp 70 [a.pv,b.pv] n.pv :=
 eD func70 84 [1,1,1,1,1,1,1] [.q,.h 1 (.pv (.aB [c.pv,d.pv])),.h 1 (.pv (.aB [g.pv,i.pv])),dr 11 1 [.none,.none,(.pv j.pv),.none,.none,(.pv k.pv),(.pv l.pv),.none,.none,(.pv m.pv),(.pv n.pv)]] (y7 h1 h2 h3 h4 h5 h6 h7)
end wO
namespace C7
theorem e0(a:ah)(b c d:aI)(g:ah)(h1:Cp 92 [a.pv] (.aB [b.pv,c.pv]))(h2:Cp 169 [b.pv] d.pv)(h3:Cp 113 [d.pv,c.pv] g.pv):Cp 87 [a.pv] g.pv :=
 eD func87 78 [1,1,1] [.q,.h 1 (.pv (.aB [b.pv,c.pv])),dr 4 1 [.none,(.pv d.pv),.none,(.pv g.pv)]] (y3 h1 h2 h3)
end C7
namespace wP
theorem e0(a:ah)(b c d:aI)(g:ah)(h1:Cp 144 [a.pv] (.aB [b.pv,c.pv]))(h2:Cp 170 [b.pv] d.pv)(h3:Cp 145 [d.pv,c.pv] g.pv):Cp 88 [a.pv] g.pv :=
 eD func88 78 [1,1,1] [.q,.h 1 (.pv (.aB [b.pv,c.pv])),dr 4 1 [.none,(.pv d.pv),.none,(.pv g.pv)]] (y3 h1 h2 h3)
end wP
namespace xL
theorem e0(n:Int)(of a:aI)(b:ah)(h1:Cp 171 [vI n] of.pv)(h2:Cp 172 [] a.pv)(h3:Cp 145 [of.pv,a.pv] b.pv):Cp 89 [vI n] b.pv :=
 eD func89 72 [1,1,1] [.q,.ba [.o,(.pv of.pv),(.pv a.pv),(.pv b.pv)]] (y3 h1 h2 h3)
end xL
namespace Bw
theorem e1(n d:aI)(a:Int)(b:ah)(h1:Cp 93 [d.pv] (vI a))(h2:a≠0)(h3:Cp 113 [n.pv,d.pv] b.pv):Cp 90 [n.pv,d.pv] (.aB [b.pv,.aq]) :=
 eD func90 87 [1,1,1] [.q,.h 1 (.pv (vI a)),.f,.h 2 (.pv b.pv)] (y3 h1 (aN h2) h3)
end Bw
namespace C8
theorem e0(a b:ah)(c d g i j k l m:aI)(n:ah)(h1:Cp 92 [a.pv] (.aB [c.pv,d.pv]))(h2:Cp 92 [b.pv] (.aB [g.pv,i.pv]))(h3:Cp 95 [c.pv,i.pv] j.pv)(h4:Cp 95 [g.pv,d.pv] k.pv)(h5:Cp 66 [j.pv,k.pv] l.pv)(h6:Cp 95 [d.pv,i.pv] m.pv)(h7:Cp 113 [l.pv,m.pv] n.pv):Cp 91 [a.pv,b.pv] n.pv :=
 eD func91 84 [1,1,1,1,1,1,1] [.q,.h 1 (.pv (.aB [c.pv,d.pv])),.h 1 (.pv (.aB [g.pv,i.pv])),dr 11 1 [.none,.none,(.pv j.pv),.none,.none,(.pv k.pv),(.pv l.pv),.none,.none,(.pv m.pv),(.pv n.pv)]] (y7 h1 h2 h3 h4 h5 h6 h7)
end C8
namespace r6
@[reducible] def fn:Func:=Tryz.f92
theorem e0(a:ah)(b:Bool)(c:aI)(h1:Cp 164 [a.pv] (vB b))(h2:b=false)(h3:Cp 114 [] c.pv):Cp 92 [a.pv] (.aB [(⟨false,[]⟩:aI).pv,c.pv]) :=
 eD func92 84 [1,1,1,1,1,1,1] [.q,.ba [.o,(.pv (vB b)),.o,.o,.skip,.skip,.skip,.skip,(.dec true)],.a,.h 1 (.pv c.pv)] (y7 h1 (bB h2) (bB h2) (bB h2) (bB h2) (bB h2) h3)
theorem e1(a:ah)(b:Bool)(c:aI)(h1:Cp 164 [a.pv] (vB b))(h2:b=true)(h3:a.num.length=0)(h4:Cp 114 [] c.pv):Cp 92 [a.pv] (.aB [(⟨false,[]⟩:aI).pv,c.pv]) :=
 eD func92 84 [1,1,1,1,1,1,1,1,1] [.q,.ba [.o,(.pv (vB b)),.o,.o,.o,.o,(iI (a.num.length:Int)),.o,(.dec false)],.t,.h 1 (.pv c.pv)] (y9 h1 (ay h2) (ay h2) (ay h2) (au ai a.num) (ay h2) (ay h2) (aL h3) h4)
theorem S6(a:ah):uu bT lz fn.ntmps (br (focus [0,2,0,0,2,1,2,0] [.code (aA fn)])) (kW (br (focus [0,2,0,0,2,1,2,0] [.code (aA fn)])) []) (iL (br (focus [0,2,0,0,2,1,2,0] [.code (aA fn)])) []) [.none,.none,.none,.none,.none,(.ja (a.num:List UInt32).length 0 ((a.num:List UInt32).map ai)),.none,.none] (wB lz fn.ntmps (br (focus [0,2,0,0,2,1,2,0] [.code (aA fn)])) [] ⟨[(1,(.ptr 1 0)),(2,(.ptr 2 0)),(3,(.ptr 3 0))],[(3,(.lit [(eB false),(.pv (.list []))])),(2,(.lit [(eB false),(.pv (.list []))])),(1,(.lit [(eB a.neg),(.pv (ag a.num)),(.pv (ag a.den))]))]⟩)=uv bT lz fn.ntmps (br (focus [0,2,0,0,2,1,2,0] [.code (aA fn)])) (kW (br (focus [0,2,0,0,2,1,2,0] [.code (aA fn)])) []) (iL (br (focus [0,2,0,0,2,1,2,0] [.code (aA fn)])) []) [.none,.none,.none,.none,.none,(.ja (a.num:List UInt32).length 0 ((a.num:List UInt32).map ai)),.none,.none] (wB lz fn.ntmps (br (focus [0,2,0,0,2,1,2,0] [.code (aA fn)])) [] ⟨[(1,(.ptr 1 0)),(2,(.ptr 2 0)),(3,(.ptr 3 0))],[(3,(.lit [(eB false),(.pv (.list []))])),(2,(.lit [(eB false),(.pv (.list []))])),(1,(.lit [(eB a.neg),(.pv (ag a.num)),(.pv (ag a.den))]))]⟩):=by kernel_rfl
theorem S7(a:ah):uu bT lz fn.ntmps (br (focus [0,2,0,0,2,1,2,0,2,0] [.code (aA fn)])) (kW (br (focus [0,2,0,0,2,1,2,0,2,0] [.code (aA fn)])) []) (iL (br (focus [0,2,0,0,2,1,2,0,2,0] [.code (aA fn)])) []) [.none,.none,.none,.none,(.ja (a.den:List UInt32).length 0 ((a.den:List UInt32).map ai)),.none,.none,.none] (wB lz fn.ntmps (br (focus [0,2,0,0,2,1,2,0,2,0] [.code (aA fn)])) [] ⟨[(1,(.ptr 1 0)),(2,(.ptr 2 0)),(3,(.ptr 3 0))],[(3,(.lit [(eB false),(.pv (.list []))])),(2,(.lit [(eB a.neg),(.pv (ag a.num))])),(1,(.lit [(eB a.neg),(.pv (ag a.num)),(.pv (ag a.den))]))]⟩)=uv bT lz fn.ntmps (br (focus [0,2,0,0,2,1,2,0,2,0] [.code (aA fn)])) (kW (br (focus [0,2,0,0,2,1,2,0,2,0] [.code (aA fn)])) []) (iL (br (focus [0,2,0,0,2,1,2,0,2,0] [.code (aA fn)])) []) [.none,.none,.none,.none,(.ja (a.den:List UInt32).length 0 ((a.den:List UInt32).map ai)),.none,.none,.none] (wB lz fn.ntmps (br (focus [0,2,0,0,2,1,2,0,2,0] [.code (aA fn)])) [] ⟨[(1,(.ptr 1 0)),(2,(.ptr 2 0)),(3,(.ptr 3 0))],[(3,(.lit [(eB false),(.pv (.list []))])),(2,(.lit [(eB a.neg),(.pv (ag a.num))])),(1,(.lit [(eB a.neg),(.pv (ag a.num)),(.pv (ag a.den))]))]⟩):=by kernel_rfl
theorem e2(a:ah)(b:Bool)(h1:Cp 164 [a.pv] (vB b))(h2:b=true)(h3:a.num.length≠0)(h4:(([]:Ws)++a.num:Ws).length*4≤140737488355328)(h5:(([]:Ws)++a.den:Ws).length*4≤140737488355328):Cp 92 [a.pv] (.aB [(⟨a.neg,a.num⟩:aI).pv,(⟨false,a.den⟩:aI).pv]) :=
 eD func92 93 [1,1,1,1,1,1,1,1,6,3,1,6,3,1] [.q,.ba [.o,(.pv (vB b)),.o,.o,.o,.o,(iI (a.num.length:Int)),.o,(.dec false)],.f,.aP [1,2,3],.any [] [.none,.none,.none,.none,.none,(.ja (a.num:Ws).length 0 ((a.num:Ws).map ai)),.none,.none],.aP [1,2,3],.any [] [.none,.none,.none,.none,(.ja (a.den:Ws).length 0 ((a.den:Ws).map ai)),.none,.none,.none]] (QZ h1 (ay h2) (ay h2) (ay h2) (au ai a.num) (ay h2) (ay h2) (aC h3) (s6 cx ([]:Ws) (a.num:Ws) 4 (Eq.refl ([]:Ws).length) h4 rfl) (eR cx (a.num:Ws) (Eq.refl (a.num:Ws).length)) (S6 a) (s6 cx ([]:Ws) (a.den:Ws) 4 (Eq.refl ([]:Ws).length) h5 rfl) (eR cx (a.den:Ws) (Eq.refl (a.den:Ws).length)) (S7 a))
end r6
namespace gV
theorem e0(a:ah)(h1:a.num.length=0)(h2:a.den.length=0):Cp 111 [a.pv] (vB (!a.neg)) :=
 eD func111 84 [1,1,1,1,1,1,1,1] [.q,.ba [.o,.o,(iI (a.num.length:Int)),.o,.o,.o,.o,(iI (a.den.length:Int)),.o,(.dec true)],.t,.q] (y8 (au ai a.num) (aL h1) (aL h1) (aL h1) (au ai a.den) (aL h1) (aL h1) (aL h2))
theorem e3(a:ah)(b:Bool)(h1:a.num.length=0)(h2:a.den.length≠0)(h3:Cp 189 [ag a.num] (vB b))(h4:b=false):Cp 111 [a.pv] (vB false) :=
 eD func111 87 [1,1,1,1,1,1,1,1,1,1,1,1,1,1,1,1,1,1,1,1,1,1,1] [.q,.ba [.o,.o,(iI (a.num.length:Int)),.o,.o,.o,.o,(iI (a.den.length:Int)),.o,(.dec true)],.f,.ba [.o,.o,(.pv (vB b)),.o,.skip,.skip,.skip,(.dec false),.o,.skip,.skip,.skip,.skip,.skip,.skip,.skip,.skip,.skip,.skip]] (y23 (au ai a.num) (aL h1) (aL h1) (aL h1) (au ai a.den) (aL h1) (aL h1) (aC h2) h3 h4 h4 h4 h4 (Eq.refl false) (Eq.refl false) (Eq.refl false) (Eq.refl false) (Eq.refl false) (Eq.refl false) (Eq.refl false) (Eq.refl false) (Eq.refl false) (Eq.refl false))
theorem e4(a:ah)(b c:Bool)(d g:aI)(i:Int)(h1:a.num.length≠0)(h2:Cp 189 [ag a.num] (vB b))(h3:b=true)(h4:Cp 189 [ag a.den] (vB c))(h5:c=true)(h6:Cp 191 [(⟨false,a.num⟩:aI).pv,(⟨false,a.den⟩:aI).pv] d.pv)(h7:Cp 172 [] g.pv)(h8:Cp 190 [d.pv,g.pv] (vI i)):Cp 111 [a.pv] (vB (i==0)) :=
 eD func111 87 [1,1,1,1,1,1,1,1,1,1,1,1,1,1,1,1,1,1,1,1,1,1,1,1,1,1] [.q,.ba [.o,.o,(iI (a.num.length:Int)),.o,.o,.skip,.skip,.skip,.skip,(.dec false)],.a,.ba [.o,.o,(.pv (vB b)),.o,.o,.o,(.pv (vB c)),(.dec true),.o,.o,.o,.o,.o,.o,.o,(.pv d.pv),(.pv g.pv),(.pv (vI i)),.o,(.dec true)]] (ZB (au ai a.num) (aC h1) (aC h1) (aC h1) (aC h1) (aC h1) h2 h3 h3 h3 h4 h3 h5 h5 h5 h5 h5 h5 h5 h6 h5 h7 h5 h8 h5 h5)
theorem e5(a:ah)(b c:Bool)(h1:a.num.length≠0)(h2:Cp 189 [ag a.num] (vB b))(h3:b=true)(h4:Cp 189 [ag a.den] (vB c))(h5:c=false):Cp 111 [a.pv] (vB false) :=
 eD func111 87 [1,1,1,1,1,1,1,1,1,1,1,1,1,1,1,1,1,1,1,1,1,1,1] [.q,.ba [.o,.o,(iI (a.num.length:Int)),.o,.o,.skip,.skip,.skip,.skip,(.dec false)],.a,.ba [.o,.o,(.pv (vB b)),.o,.o,.o,(.pv (vB c)),(.dec true),.o,.skip,.skip,.skip,.skip,.skip,.skip,.skip,.skip,.skip,.skip,(.dec false)]] (y23 (au ai a.num) (aC h1) (aC h1) (aC h1) (aC h1) (aC h1) h2 h3 h3 h3 h4 h3 h5 h5 h5 h5 h5 h5 h5 h5 h5 h5 h5)
theorem e6(a:ah)(b:Bool)(h1:a.num.length≠0)(h2:Cp 189 [ag a.num] (vB b))(h3:b=false):Cp 111 [a.pv] (vB false) :=
 eD func111 87 [1,1,1,1,1,1,1,1,1,1,1,1,1,1,1,1,1,1,1,1,1] [.q,.ba [.o,.o,(iI (a.num.length:Int)),.o,.o,.skip,.skip,.skip,.skip,(.dec false)],.a,.ba [.o,.o,(.pv (vB b)),.o,.skip,.skip,.skip,(.dec false),.o,.skip,.skip,.skip,.skip,.skip,.skip,.skip,.skip,.skip,.skip]] (Xm (au ai a.num) (aC h1) (aC h1) (aC h1) (aC h1) (aC h1) h2 h3 h3 h3 h3 (Eq.refl false) (Eq.refl false) (Eq.refl false) (Eq.refl false) (Eq.refl false) (Eq.refl false) (Eq.refl false) (Eq.refl false) (Eq.refl false) (Eq.refl false))
end gV
namespace oy
theorem e0(n d:aI)(a:Int)(h1:Cp 93 [n.pv] (vI a))(h2:a=0):Cp 113 [n.pv,d.pv] ((⟨false,[],[]⟩:ah).pv) :=
 eD func113 84 [1,1] [.q,.h 1 (.pv (vI a)),.t,.q] (y2 h1 (aF h2))
theorem e1(n d:aI)(a b:Int)(c g i:aI)(j:Int)(k l m:aI)(o:Option Int)(p s:aI)(u:Option Int)(h1:Cp 93 [n.pv] (vI a))(h2:a≠0)(h3:Cp 93 [d.pv] (vI b))(h4:b<0)(h5:Cp 169 [n.pv] c.pv)(h6:Cp 169 [d.pv] g.pv)(h7:Cp 192 [c.pv,g.pv] i.pv)(h8:Cp 93 [c.pv] (vI j))(h9:j<0)(dM:Cp 169 [c.pv] k.pv)(gy:Cp 132 [k.pv,i.pv] (.aB [l.pv,m.pv,bC o]))(j8:Cp 132 [g.pv,i.pv] (.aB [p.pv,s.pv,bC u])):Cp 113 [n.pv,d.pv] ((⟨(decide (j<0)),l.fS,p.fS⟩:ah).pv) :=
 eD func113 141 [1,1,1,1,1,1,1,1,1,1,1,1] [.q,.h 1 (.pv (vI a)),.f,.h 1 (.pv (vI b)),.t,dr 4 2 [.none,(.pv c.pv),.none,(.pv g.pv)],.h 2 (.pv i.pv),.h 1 (.pv (vI j)),.q,.t,.h 1 (.pv k.pv),.h 2 (.pv (.aB [l.pv,m.pv,bC o])),.h 2 (.pv (.aB [p.pv,s.pv,bC u])),.q] (Pp h1 (aN h2) h3 (dJ h4) h5 h6 h7 h8 (dJ h9) dM gy j8)
theorem e2(n d:aI)(a b:Int)(c g i:aI)(j:Int)(k l:aI)(m:Option Int)(o p:aI)(s:Option Int)(h1:Cp 93 [n.pv] (vI a))(h2:a≠0)(h3:Cp 93 [d.pv] (vI b))(h4:b<0)(h5:Cp 169 [n.pv] c.pv)(h6:Cp 169 [d.pv] g.pv)(h7:Cp 192 [c.pv,g.pv] i.pv)(h8:Cp 93 [c.pv] (vI j))(h9:0≤j)(dM:Cp 132 [c.pv,i.pv] (.aB [k.pv,l.pv,bC m]))(gy:Cp 132 [g.pv,i.pv] (.aB [o.pv,p.pv,bC s])):Cp 113 [n.pv,d.pv] ((⟨(decide (j<0)),k.fS,o.fS⟩:ah).pv) :=
 eD func113 141 [1,1,1,1,1,1,1,1,1,1,1] [.q,.h 1 (.pv (vI a)),.f,.h 1 (.pv (vI b)),.t,dr 4 2 [.none,(.pv c.pv),.none,(.pv g.pv)],.h 2 (.pv i.pv),.h 1 (.pv (vI j)),.q,.f,.h 2 (.pv (.aB [k.pv,l.pv,bC m])),.h 2 (.pv (.aB [o.pv,p.pv,bC s])),.q] (FO h1 (aN h2) h3 (dJ h4) h5 h6 h7 h8 (bQ h9) dM gy)
theorem e3(n d:aI)(a b:Int)(c:aI)(g:Int)(i j k:aI)(l:Option Int)(m o:aI)(p:Option Int)(h1:Cp 93 [n.pv] (vI a))(h2:a≠0)(h3:Cp 93 [d.pv] (vI b))(h4:0≤b)(h5:Cp 192 [n.pv,d.pv] c.pv)(h6:Cp 93 [n.pv] (vI g))(h7:g<0)(h8:Cp 169 [n.pv] i.pv)(h9:Cp 132 [i.pv,c.pv] (.aB [j.pv,k.pv,bC l]))(dM:Cp 132 [d.pv,c.pv] (.aB [m.pv,o.pv,bC p])):Cp 113 [n.pv,d.pv] ((⟨(decide (g<0)),j.fS,m.fS⟩:ah).pv) :=
 eD func113 141 [1,1,1,1,1,1,1,1,1,1] [.q,.h 1 (.pv (vI a)),.f,.h 1 (.pv (vI b)),.f,.h 2 (.pv c.pv),.h 1 (.pv (vI g)),.q,.t,.h 1 (.pv i.pv),.h 2 (.pv (.aB [j.pv,k.pv,bC l])),.h 2 (.pv (.aB [m.pv,o.pv,bC p])),.q] (Iu h1 (aN h2) h3 (bQ h4) h5 h6 (dJ h7) h8 h9 dM)
theorem e4(n d:aI)(a b:Int)(c:aI)(g:Int)(i j:aI)(k:Option Int)(l m:aI)(o:Option Int)(h1:Cp 93 [n.pv] (vI a))(h2:a≠0)(h3:Cp 93 [d.pv] (vI b))(h4:0≤b)(h5:Cp 192 [n.pv,d.pv] c.pv)(h6:Cp 93 [n.pv] (vI g))(h7:0≤g)(h8:Cp 132 [n.pv,c.pv] (.aB [i.pv,j.pv,bC k]))(h9:Cp 132 [d.pv,c.pv] (.aB [l.pv,m.pv,bC o])):Cp 113 [n.pv,d.pv] ((⟨(decide (g<0)),i.fS,l.fS⟩:ah).pv) :=
 eD func113 141 [1,1,1,1,1,1,1,1,1] [.q,.h 1 (.pv (vI a)),.f,.h 1 (.pv (vI b)),.f,.h 2 (.pv c.pv),.h 1 (.pv (vI g)),.q,.f,.h 2 (.pv (.aB [i.pv,j.pv,bC k])),.h 2 (.pv (.aB [l.pv,m.pv,bC o])),.q] (y9 h1 (aN h2) h3 (bQ h4) h5 h6 (bQ h7) h8 h9)
end oy
namespace C9
theorem e0(of:aI)(h1:Cp 67 [vI 1] of.pv):Cp 114 [] of.pv :=
 eD func114 72 [1] [.q,.h 0 (.pv of.pv)] (y1 h1)
end C9
namespace vo
theorem e0(a:ah)(b c:aI)(d:Int)(h1:Cp 144 [a.pv] (.aB [b.pv,c.pv]))(h2:Cp 211 [b.pv] (vI d)):Cp 124 [a.pv] (vI d) :=
 eD func124 78 [1,1] [.q,.h 1 (.pv (.aB [b.pv,c.pv])),.h 1 (.pv (vI d))] (y2 h1 h2)
end vo
namespace kj
@[reducible] def fn:Func:=Tryz.f140
def bK:List gC:=focus [0,2,0,0,2,1,2,0,2,0,0,2,0,0] [.code (aA fn)]
def inv1(bits:Int)(Hd:Nat)(a:ah)(iQ:aI):St:=⟨[(2,(.ptr 2 0)),(4,(.ptr 4 0)),(6,(.ptr 6 0)),(20,(eI bits)),(21,(eI (Hd:Int)))],[(2,(.lit [(eB a.neg),(.pv (ag a.num)),(.pv (ag a.den))])),(4,(.lit [(eB false),(.pv (.list [])),(.pv (.list []))])),(6,(.lit [(eB iQ.neg),(.pv (ag iQ.fS))]))]⟩
@[reducible] def aj(bits:Int)(Hd:Nat)(a:ah)(iQ:aI)(r:PV):Prop:=L bT fn bK (inv1 bits Hd a iQ) r
theorem e2(a:ah)(b:Int)(c:aI){r:PV}(h1:0≤b)(h2:b≤256)(h3:Cp 172 [] c.pv)(hL:aj b 0 a c r):Cp 140 [a.pv,vI b] r :=
 eG func140 102 [1,1,1,1,1] [.q,.h 5 (.dec false),.f,.h 0 (.pv c.pv),.q,.aP [2,4,6,20,21],.ord [2,4,6]] (y5 (bQ h1) (bQ h1) (bQ h1) (bQ h2) h3) hL
theorem l10(b:Int)(c:Nat)(a:ah)(d g:aI){r:PV}(h1:(c:Int)<b)(h2:Cp 146 [d.pv,d.pv] g.pv)(h3:(c+1)<9223372036854775808)(hL:aj b (c+1) a g r):aj b c a d r :=
 lG 135 [1,1,1] [.a,.q,.t,.h 2 (.pv g.pv),.h 0 (iI (((c+1):Nat):Int)),.aP [2,4,6,20,21]] (y3 (dJ h1) h2 (aR h3)) hL
theorem dw(b:Int)(c:Nat)(a:ah)(d g i j k l:aI)(m:Int)(n:ah)(o:Int)(h1:b≤(c:Int))(h2:Cp 144 [a.pv] (.aB [g.pv,i.pv]))(h3:Cp 147 [g.pv,d.pv] j.pv)(h4:Cp 223 [j.pv,i.pv] (.aB [k.pv,l.pv,vI m]))(h5:Cp 224 [k.pv,d.pv] (.aB [n.pv,vI o])):aj b c a d (.aB [n.pv,vI o]) :=
 lD 147 [1,1,1,1,1] [.a,.q,.f,.h 1 (.pv (.aB [g.pv,i.pv])),dr 13 1 [.none,.none,(.pv j.pv),.none,(.pv (.aB [k.pv,l.pv,vI m]))],.h 2 (.pv (.aB [n.pv,vI o]))] (y5 (bQ h1) h2 h3 h4 h5)
end kj
namespace wQ
theorem e0(a b c d:ah)(h1:Cp 88 [b.pv] c.pv)(h2:Cp 70 [a.pv,c.pv] d.pv):Cp 143 [a.pv,b.pv] d.pv :=
 eD func143 72 [1,1] [.q,dr 4 1 [.none,.none,(.pv c.pv),(.pv d.pv)]] (y2 h1 h2)
end wQ
namespace mM
theorem e0(a:ah)(b:Bool)(c:aI)(h1:Cp 111 [a.pv] (vB b))(h2:b=false)(h3:Cp 172 [] c.pv):Cp 144 [a.pv] (.aB [(⟨false,[]⟩:aI).pv,c.pv]) :=
 eD func144 84 [1,1,1,1,1,1,1] [.q,.ba [.o,(.pv (vB b)),.o,.o,.skip,.skip,.skip,.skip,(.dec true)],.a,.h 1 (.pv c.pv)] (y7 h1 (bB h2) (bB h2) (bB h2) (bB h2) (bB h2) h3)
theorem e1(a:ah)(b:Bool)(c:aI)(h1:Cp 111 [a.pv] (vB b))(h2:b=true)(h3:a.num.length=0)(h4:Cp 172 [] c.pv):Cp 144 [a.pv] (.aB [(⟨false,[]⟩:aI).pv,c.pv]) :=
 eD func144 84 [1,1,1,1,1,1,1,1,1] [.q,.ba [.o,(.pv (vB b)),.o,.o,.o,.o,(iI (a.num.length:Int)),.o,(.dec false)],.t,.h 1 (.pv c.pv)] (y9 h1 (ay h2) (ay h2) (ay h2) (au ai a.num) (ay h2) (ay h2) (aL h3) h4)
theorem e2(a:ah)(b:Bool)(h1:Cp 111 [a.pv] (vB b))(h2:b=true)(h3:a.num.length≠0):Cp 144 [a.pv] (.aB [(⟨a.neg,a.num⟩:aI).pv,(⟨false,a.den⟩:aI).pv]) :=
 eD func144 87 [1,1,1,1,1,1,1,1] [.q,.ba [.o,(.pv (vB b)),.o,.o,.o,.o,(iI (a.num.length:Int)),.o,(.dec false)],.f,dr 9 1 []] (y8 h1 (ay h2) (ay h2) (ay h2) (au ai a.num) (ay h2) (ay h2) (aC h3))
end mM
namespace nO
theorem e0(n d:aI)(a:Int)(h1:Cp 211 [n.pv] (vI a))(h2:a=0):Cp 145 [n.pv,d.pv] ((⟨false,[],[]⟩:ah).pv) :=
 eD func145 84 [1,1] [.q,.h 1 (.pv (vI a)),.t,.q] (y2 h1 (aF h2))
theorem e1(n d:aI)(a b:Int)(c g i j k:aI)(l:Int)(m o:aI)(p:Int)(h1:Cp 211 [n.pv] (vI a))(h2:a≠0)(h3:Cp 211 [d.pv] (vI b))(h4:b<0)(h5:Cp 170 [n.pv] c.pv)(h6:Cp 170 [d.pv] g.pv)(h7:Cp 191 [c.pv,g.pv] i.pv)(h8:Cp 223 [c.pv,i.pv] (.aB [j.pv,k.pv,vI l]))(h9:Cp 223 [g.pv,i.pv] (.aB [m.pv,o.pv,vI p])):Cp 145 [n.pv,d.pv] ((⟨j.neg,j.fS,m.fS⟩:ah).pv) :=
 eD func145 120 [1,1,1,1,1,1,1,1,1] [.q,.h 1 (.pv (vI a)),.f,.h 1 (.pv (vI b)),.t,dr 4 2 [.none,(.pv c.pv),.none,(.pv g.pv)],.h 2 (.pv i.pv),.h 2 (.pv (.aB [j.pv,k.pv,vI l])),.h 2 (.pv (.aB [m.pv,o.pv,vI p])),.q] (y9 h1 (aN h2) h3 (dJ h4) h5 h6 h7 h8 h9)
theorem e2(n d:aI)(a b:Int)(c g i:aI)(j:Int)(k l:aI)(m:Int)(h1:Cp 211 [n.pv] (vI a))(h2:a≠0)(h3:Cp 211 [d.pv] (vI b))(h4:0≤b)(h5:Cp 191 [n.pv,d.pv] c.pv)(h6:Cp 223 [n.pv,c.pv] (.aB [g.pv,i.pv,vI j]))(h7:Cp 223 [d.pv,c.pv] (.aB [k.pv,l.pv,vI m])):Cp 145 [n.pv,d.pv] ((⟨g.neg,g.fS,k.fS⟩:ah).pv) :=
 eD func145 120 [1,1,1,1,1,1,1] [.q,.h 1 (.pv (vI a)),.f,.h 1 (.pv (vI b)),.f,.h 2 (.pv c.pv),.h 2 (.pv (.aB [g.pv,i.pv,vI j])),.h 2 (.pv (.aB [k.pv,l.pv,vI m])),.q] (y7 h1 (aN h2) h3 (bQ h4) h5 h6 h7)
end nO
namespace wR
theorem e0(a b:ah)(c d g i j k:aI)(l:ah)(m:Int)(h1:Cp 144 [a.pv] (.aB [c.pv,d.pv]))(h2:Cp 144 [b.pv] (.aB [g.pv,i.pv]))(h3:Cp 147 [c.pv,i.pv] j.pv)(h4:Cp 147 [d.pv,g.pv] k.pv)(h5:Cp 224 [j.pv,k.pv] (.aB [l.pv,vI m])):Cp 148 [a.pv,b.pv] (.aB [l.pv,vI m]) :=
 eD func148 84 [1,1,1,1,1] [.q,.h 1 (.pv (.aB [c.pv,d.pv])),.h 1 (.pv (.aB [g.pv,i.pv])),dr 9 2 [.none,.none,(.pv j.pv),.none,.none,(.pv k.pv),(.pv (.aB [l.pv,vI m]))]] (y5 h1 h2 h3 h4 h5)
end wR
namespace lL
theorem e0(a:ah)(h1:a.num.length=0)(h2:a.den.length=0):Cp 164 [a.pv] (vB (!a.neg)) :=
 eD func164 84 [1,1,1,1,1,1,1,1] [.q,.ba [.o,.o,(iI (a.num.length:Int)),.o,.o,.o,.o,(iI (a.den.length:Int)),.o,(.dec true)],.t,.q] (y8 (au ai a.num) (aL h1) (aL h1) (aL h1) (au ai a.den) (aL h1) (aL h1) (aL h2))
theorem e1(a:ah)(h1:a.num.length=0)(h2:a.den.length≠0):Cp 164 [a.pv] (vB false) :=
 eD func164 105 [1,1,1,1,1,1,1,1,1,1,1,1,1,1,1,1,1,1,1,1] [.q,.ba [.o,.o,(iI (a.num.length:Int)),.o,.o,.o,.o,(iI (a.den.length:Int)),.o,(.dec true)],.f,dr 9 1 [],.ba [.o,.o,(iI (a.num.length:Int)),.o,.o,.skip,.skip,.skip,.skip,(.dec true),.o,.skip,.skip,.skip,.o,.o,.skip,.skip,.skip],.a,.q] (S4 (au ai a.num) (aL h1) (aL h1) (aL h1) (au ai a.den) (aL h1) (aL h1) (aC h2) (au ai a.num) (aL h1) (aL h1) (aL h1) (aL h1) (aL h1) (Eq.refl true) (Eq.refl true) (Eq.refl true) (Eq.refl true) (Eq.refl true) (Eq.refl true))
theorem e2(a:ah)(h1:a.num.length≠0)(h2:a.den.length=0):Cp 164 [a.pv] (vB false) :=
 eD func164 105 [1,1,1,1,1,1,1,1,1,1,1,1,1,1,1,1,1,1,1,1] [.q,.ba [.o,.o,(iI (a.num.length:Int)),.o,.o,.skip,.skip,.skip,.skip,(.dec false)],.a,dr 9 1 [],.ba [.o,.o,(iI (a.num.length:Int)),.o,.o,.o,.o,(iI (a.den.length:Int)),.o,(.dec false),.o,.skip,.skip,.skip,(.dec true),.o,.skip,.skip,.skip],.a,.q] (S4 (au ai a.num) (aC h1) (aC h1) (aC h1) (aC h1) (aC h1) (au ai a.num) (aC h1) (aC h1) (aC h1) (au ai a.den) (aC h1) (aC h1) (aL h2) (aL h2) (aL h2) (aL h2) (Eq.refl true) (Eq.refl true) (Eq.refl true))
theorem e3(a:ah)(b:Bool)(h1:a.num.length≠0)(h2:a.den.length≠0)(h3:Cp 220 [(⟨false,a.num⟩:aI).pv] (vB b))(h4:b=false):Cp 164 [a.pv] (vB false) :=
 eD func164 105 [1,1,1,1,1,1,1,1,1,1,1,1,1,1,1,1,1,1,1,1,1,1] [.q,.ba [.o,.o,(iI (a.num.length:Int)),.o,.o,.skip,.skip,.skip,.skip,(.dec false)],.a,dr 9 1 [],.ba [.o,.o,(iI (a.num.length:Int)),.o,.o,.o,.o,(iI (a.den.length:Int)),.o,(.dec false),.o,.o,(.pv (vB b)),.o,(.dec false),.o,.skip,.skip,.skip,(.dec true)],.a,.q] (ZA (au ai a.num) (aC h1) (aC h1) (aC h1) (aC h1) (aC h1) (au ai a.num) (aC h1) (aC h1) (aC h1) (au ai a.den) (aC h1) (aC h1) (aC h2) (aC h2) h3 (aC h2) (aC h2) (bB h4) (bB h4) (bB h4) (bB h4))
theorem e4(a:ah)(b c:Bool)(h1:a.num.length≠0)(h2:a.den.length≠0)(h3:Cp 220 [(⟨false,a.num⟩:aI).pv] (vB b))(h4:b=true)(h5:Cp 220 [(⟨false,a.den⟩:aI).pv] (vB c))(h6:c=false):Cp 164 [a.pv] (vB false) :=
 eD func164 105 [1,1,1,1,1,1,1,1,1,1,1,1,1,1,1,1,1,1,1,1,1,1,1,1] [.q,.ba [.o,.o,(iI (a.num.length:Int)),.o,.o,.skip,.skip,.skip,.skip,(.dec false)],.a,dr 9 1 [],.ba [.o,.o,(iI (a.num.length:Int)),.o,.o,.o,.o,(iI (a.den.length:Int)),.o,(.dec false),.o,.o,(.pv (vB b)),.o,(.dec false),.o,.o,(.pv (vB c)),.o,(.dec false)],.t,.q] (Yj (au ai a.num) (aC h1) (aC h1) (aC h1) (aC h1) (aC h1) (au ai a.num) (aC h1) (aC h1) (aC h1) (au ai a.den) (aC h1) (aC h1) (aC h2) (aC h2) h3 (aC h2) (aC h2) (ay h4) (ay h4) h5 (ay h4) (ay h4) (bB h6))
theorem e5(a:ah)(b c:Bool)(d g:aI)(i:Int)(h1:a.num.length≠0)(h2:a.den.length≠0)(h3:Cp 220 [(⟨false,a.num⟩:aI).pv] (vB b))(h4:b=true)(h5:Cp 220 [(⟨false,a.den⟩:aI).pv] (vB c))(h6:c=true)(h7:Cp 192 [(⟨false,a.num⟩:aI).pv,(⟨false,a.den⟩:aI).pv] d.pv)(h8:Cp 114 [] g.pv)(h9:Cp 94 [d.pv,g.pv] (vI i)):Cp 164 [a.pv] (vB (i==0)) :=
 eD func164 108 [1,1,1,1,1,1,1,1,1,1,1,1,1,1,1,1,1,1,1,1,1,1,1,1,1,1,1] [.q,.ba [.o,.o,(iI (a.num.length:Int)),.o,.o,.skip,.skip,.skip,.skip,(.dec false)],.a,dr 9 1 [],.ba [.o,.o,(iI (a.num.length:Int)),.o,.o,.o,.o,(iI (a.den.length:Int)),.o,(.dec false),.o,.o,(.pv (vB b)),.o,(.dec false),.o,.o,(.pv (vB c)),.o,(.dec false)],.f,.ba [.o,.o,(.pv d.pv),(.pv g.pv),(.pv (vI i))]] (y27 (au ai a.num) (aC h1) (aC h1) (aC h1) (aC h1) (aC h1) (au ai a.num) (aC h1) (aC h1) (aC h1) (au ai a.den) (aC h1) (aC h1) (aC h2) (aC h2) h3 (aC h2) (aC h2) (ay h4) (ay h4) h5 (ay h4) (ay h4) (ay h6) h7 h8 h9)
end lL
namespace wS
theorem e0(of:aI)(h1:Cp 171 [vI 1] of.pv):Cp 172 [] of.pv :=
 eD func172 72 [1] [.q,.h 0 (.pv of.pv)] (y1 h1)
end wS
namespace qx
theorem e0(m:Ws)(k:Nat)(v:UInt32)(h1:0<m.length)(h2:aw ((m.length:Int)-1))(h3:((m.length:Int)-1)=(k:Int))(h4:m[k]? = some v):Cp 189 [ag m] (vB ((v.toNat:Int) != 0)) :=
 eD func189 72 [1,1,1,1,1,1,1,1,3,1,1,1] [.q,.ba [.o,(iI (m.length:Int)),.o,.o,.o,.o,(iI (m.length:Int)),(iI ((m.length:Int)-1)),(.row k (ai v)),.o,.o,(.dec true)]] (Pp (au ai m) (ak h1) (ak h1) (ak h1) (au ai m) (ak h1) (aX h2) (ak h1) (bU ai h3 h4) (ak h1) (ak h1) (ak h1))
theorem e1(m:Ws)(h1:m.length≤0):Cp 189 [ag m] (vB false) :=
 eD func189 72 [1,1,1,1,1,1,1,1,1] [.q,.ba [.o,(iI (m.length:Int)),.o,.o,.skip,.skip,.skip,.skip,.skip,.skip,.skip,(.dec false)]] (y9 (au ai m) (ax h1) (ax h1) (ax h1) (ax h1) (ax h1) (ax h1) (ax h1) (ax h1))
end qx
namespace Da
theorem e0(a b:ah)(c d g i j k:aI)(l:ah)(h1:Cp 92 [a.pv] (.aB [c.pv,d.pv]))(h2:Cp 92 [b.pv] (.aB [g.pv,i.pv]))(h3:Cp 95 [c.pv,g.pv] j.pv)(h4:Cp 95 [d.pv,i.pv] k.pv)(h5:Cp 113 [j.pv,k.pv] l.pv):Cp 198 [a.pv,b.pv] l.pv :=
 eD func198 84 [1,1,1,1,1] [.q,.h 1 (.pv (.aB [c.pv,d.pv])),.h 1 (.pv (.aB [g.pv,i.pv])),dr 7 1 [.none,.none,(.pv j.pv),.none,.none,(.pv k.pv),(.pv l.pv)]] (y5 h1 h2 h3 h4 h5)
end Da
namespace Af
theorem e0(a:ah)(b c d g:aI)(i:Option Int)(h1:Cp 92 [a.pv] (.aB [b.pv,c.pv]))(h2:Cp 132 [b.pv,c.pv] (.aB [d.pv,g.pv,bC i])):Cp 218 [a.pv] d.pv :=
 eD func218 84 [1,1] [.q,.h 1 (.pv (.aB [b.pv,c.pv])),.h 2 (.pv (.aB [d.pv,g.pv,bC i])),.q] (y2 h1 h2)
end Af
namespace vp
theorem e1(n d:aI)(a:Int)(b:ah)(h1:Cp 211 [d.pv] (vI a))(h2:a≠0)(h3:Cp 145 [n.pv,d.pv] b.pv):Cp 224 [n.pv,d.pv] (.aB [b.pv,vI 0]) :=
 eD func224 87 [1,1,1] [.q,.h 1 (.pv (vI a)),.f,.h 2 (.pv b.pv)] (y3 h1 (aN h2) h3)
end vp
namespace Db
theorem e0(a b:ah)(c d g i j k:aI)(l:ah)(m:Option Int)(h1:Cp 92 [a.pv] (.aB [c.pv,d.pv]))(h2:Cp 92 [b.pv] (.aB [g.pv,i.pv]))(h3:Cp 95 [c.pv,i.pv] j.pv)(h4:Cp 95 [d.pv,g.pv] k.pv)(h5:Cp 90 [j.pv,k.pv] (.aB [l.pv,bC m])):Cp 234 [a.pv,b.pv] (.aB [l.pv,bC m]) :=
 eD func234 84 [1,1,1,1,1] [.q,.h 1 (.pv (.aB [c.pv,d.pv])),.h 1 (.pv (.aB [g.pv,i.pv])),dr 9 2 [.none,.none,(.pv j.pv),.none,.none,(.pv k.pv),(.pv (.aB [l.pv,bC m]))]] (y5 h1 h2 h3 h4 h5)
end Db
namespace yI
theorem e0(a:ah)(b:Int)(c:ah)(h1:Cp 33 [a.pv] (vI b))(h2:b<0)(h3:Cp 87 [a.pv] c.pv):Cp 235 [a.pv] c.pv :=
 eD func235 84 [1,1,1] [.q,.h 1 (.pv (vI b)),.t,.h 1 (.pv c.pv)] (y3 h1 (dJ h2) h3)
theorem e1(a:ah)(b:Int)(c d:aI)(g:ah)(h1:Cp 33 [a.pv] (vI b))(h2:0≤b)(h3:Cp 92 [a.pv] (.aB [c.pv,d.pv]))(h4:Cp 113 [c.pv,d.pv] g.pv):Cp 235 [a.pv] g.pv :=
 eD func235 87 [1,1,1,1] [.q,.h 1 (.pv (vI b)),.f,.ba [.o,(.pv (.aB [c.pv,d.pv])),.o,.o,(.pv g.pv)]] (y4 h1 (bQ h2) h3 h4)
end yI
namespace r7
theorem e0(a:ah)(b:Int)(c:ah)(h1:Cp 124 [a.pv] (vI b))(h2:b<0)(h3:Cp 88 [a.pv] c.pv):Cp 240 [a.pv] c.pv :=
 eD func240 84 [1,1,1] [.q,.h 1 (.pv (vI b)),.t,.h 1 (.pv c.pv)] (y3 h1 (dJ h2) h3)
theorem e1(a:ah)(b:Int)(c:ah)(h1:Cp 124 [a.pv] (vI b))(h2:0≤b)(h3:Cp 70 [a.pv,(⟨false,[],[]⟩:ah).pv] c.pv):Cp 240 [a.pv] c.pv :=
 eD func240 87 [1,1,1] [.q,.h 1 (.pv (vI b)),.f,.h 2 (.pv c.pv)] (y3 h1 (bQ h2) h3)
end r7
namespace wT
theorem e0(a b:ah)(c d g i j k:aI)(l:ah)(h1:Cp 144 [a.pv] (.aB [c.pv,d.pv]))(h2:Cp 144 [b.pv] (.aB [g.pv,i.pv]))(h3:Cp 147 [c.pv,g.pv] j.pv)(h4:Cp 147 [d.pv,i.pv] k.pv)(h5:Cp 145 [j.pv,k.pv] l.pv):Cp 245 [a.pv,b.pv] l.pv :=
 eD func245 84 [1,1,1,1,1] [.q,.h 1 (.pv (.aB [c.pv,d.pv])),.h 1 (.pv (.aB [g.pv,i.pv])),dr 7 1 [.none,.none,(.pv j.pv),.none,.none,(.pv k.pv),(.pv l.pv)]] (y5 h1 h2 h3 h4 h5)
end wT
namespace vq
theorem e0(n d:Int)(of a:aI)(b:ah)(c:Int)(h1:Cp 171 [vI n] of.pv)(h2:Cp 171 [vI d] a.pv)(h3:Cp 224 [of.pv,a.pv] (.aB [b.pv,vI c])):Cp 275 [vI n,vI d] (.aB [b.pv,vI c]) :=
 eD func275 72 [1,1,1] [.q,.ba [.o,(.pv of.pv),.o,(.pv a.pv),(.pv (.aB [b.pv,vI c]))]] (y3 h1 h2 h3)
end vq
namespace yJ
theorem e0(a b:ah)(c:Int)(d g:aI)(i:ah)(h1:Cp 34 [a.pv,b.pv] (vI c))(h2:c≤0)(h3:Cp 92 [a.pv] (.aB [d.pv,g.pv]))(h4:Cp 113 [d.pv,g.pv] i.pv):Cp 282 [a.pv,b.pv] i.pv :=
 eD func282 84 [1,1,1,1] [.q,.h 2 (.pv (vI c)),.t,.ba [.o,(.pv (.aB [d.pv,g.pv])),.o,.o,(.pv i.pv)]] (y4 h1 (jv h2) h3 h4)
theorem e1(a b:ah)(c:Int)(d g:aI)(i:ah)(h1:Cp 34 [a.pv,b.pv] (vI c))(h2:0<c)(h3:Cp 92 [b.pv] (.aB [d.pv,g.pv]))(h4:Cp 113 [d.pv,g.pv] i.pv):Cp 282 [a.pv,b.pv] i.pv :=
 eD func282 87 [1,1,1,1] [.q,.h 2 (.pv (vI c)),.f,.ba [.o,(.pv (.aB [d.pv,g.pv])),.o,.o,(.pv i.pv)]] (y4 h1 (kL h2) h3 h4)
end yJ
namespace yK
theorem e0(a b:ah)(c:Int)(d g:aI)(i:ah)(h1:Cp 34 [a.pv,b.pv] (vI c))(h2:0≤c)(h3:Cp 92 [a.pv] (.aB [d.pv,g.pv]))(h4:Cp 113 [d.pv,g.pv] i.pv):Cp 283 [a.pv,b.pv] i.pv :=
 eD func283 84 [1,1,1,1] [.q,.h 2 (.pv (vI c)),.t,.ba [.o,(.pv (.aB [d.pv,g.pv])),.o,.o,(.pv i.pv)]] (y4 h1 (jv h2) h3 h4)
theorem e1(a b:ah)(c:Int)(d g:aI)(i:ah)(h1:Cp 34 [a.pv,b.pv] (vI c))(h2:c<0)(h3:Cp 92 [b.pv] (.aB [d.pv,g.pv]))(h4:Cp 113 [d.pv,g.pv] i.pv):Cp 283 [a.pv,b.pv] i.pv :=
 eD func283 87 [1,1,1,1] [.q,.h 2 (.pv (vI c)),.f,.ba [.o,(.pv (.aB [d.pv,g.pv])),.o,.o,(.pv i.pv)]] (y4 h1 (kL h2) h3 h4)
end yK
namespace r8
theorem e0(a b:ah)(c:Int)(d:ah)(h1:Cp 69 [a.pv,b.pv] (vI c))(h2:c≤0)(h3:Cp 70 [a.pv,(⟨false,[],[]⟩:ah).pv] d.pv):Cp 284 [a.pv,b.pv] d.pv :=
 eD func284 84 [1,1,1] [.q,.h 2 (.pv (vI c)),.t,.h 2 (.pv d.pv)] (y3 h1 (jv h2) h3)
theorem e1(a b:ah)(c:Int)(d:ah)(h1:Cp 69 [a.pv,b.pv] (vI c))(h2:0<c)(h3:Cp 70 [b.pv,(⟨false,[],[]⟩:ah).pv] d.pv):Cp 284 [a.pv,b.pv] d.pv :=
 eD func284 87 [1,1,1] [.q,.h 2 (.pv (vI c)),.f,.h 2 (.pv d.pv)] (y3 h1 (kL h2) h3)
end r8
namespace r9
theorem e0(a b:ah)(c:Int)(d:ah)(h1:Cp 69 [a.pv,b.pv] (vI c))(h2:0≤c)(h3:Cp 70 [a.pv,(⟨false,[],[]⟩:ah).pv] d.pv):Cp 285 [a.pv,b.pv] d.pv :=
 eD func285 84 [1,1,1] [.q,.h 2 (.pv (vI c)),.t,.h 2 (.pv d.pv)] (y3 h1 (jv h2) h3)
theorem e1(a b:ah)(c:Int)(d:ah)(h1:Cp 69 [a.pv,b.pv] (vI c))(h2:c<0)(h3:Cp 70 [b.pv,(⟨false,[],[]⟩:ah).pv] d.pv):Cp 285 [a.pv,b.pv] d.pv :=
 eD func285 87 [1,1,1] [.q,.h 2 (.pv (vI c)),.f,.h 2 (.pv d.pv)] (y3 h1 (kL h2) h3)
end r9
namespace Dc
theorem e1(p q b:Rs)(h1:Cp 125 [(bq (an ah.cells) [p,q])] .aq)(h2:0<p.length)(h3:0<q.length)(h4:(p.length+q.length)<9223372036854775808)(h5:aw ((((p.length+q.length):Nat):Int)-2))(h6:((((p.length+q.length):Nat):Int)-2)≤64)(h7:Cp 126 [ae p,ae q] (ae b)):Cp 57 [ae p,ae q] (.aB [ae b,.aq]) :=
 eD func57 108 [3,1,1,1,1,1,1,1,1,1,1,1,1,1,1,1,1,1,1,1,1,1] [.q,.ba [.o,.o,(.ja 0 0 (([p,q]:List (Rs)).map (an ah.cells))),(.pv .aq)],.q,.a,.ba [.o,(iI (p.length:Int)),.o,.o,.o,(iI (q.length:Int)),.o,(.dec true),.o,.o,(iI (p.length:Int)),.o,(iI (q.length:Int)),(iI (((p.length+q.length):Nat):Int)),(iI ((((p.length+q.length):Nat):Int)-2)),.o,(.dec true)],.f,.h 2 (.pv (ae b))] (ZA (fP (og ah.cells) ([p,q]:List (Rs))) h1 (au ah.cells p) (ak h2) (ak h2) (au ah.cells q) (ak h2) (ak h2) (ak h3) (ak h3) (au ah.cells p) (ak h3) (ak h3) (au ah.cells q) (ak h3) (aR h4) (ak h3) (aX h5) (ak h3) (ak h3) (bQ h6) h7)
theorem e2(p q b:Rs)(h1:Cp 125 [(bq (an ah.cells) [p,q])] .aq)(h2:0<p.length)(h3:q.length≤0)(h4:Cp 126 [ae p,ae q] (ae b)):Cp 57 [ae p,ae q] (.aB [ae b,.aq]) :=
 eD func57 108 [3,1,1,1,1,1,1,1,1,1,1,1,1,1,1,1,1] [.q,.ba [.o,.o,(.ja 0 0 (([p,q]:List (Rs)).map (an ah.cells))),(.pv .aq)],.q,.a,.ba [.o,(iI (p.length:Int)),.o,.o,.o,(iI (q.length:Int)),.o,(.dec true),.o,.skip,.skip,.skip,.skip,.skip,.skip,.skip,(.dec false)],.a,.h 2 (.pv (ae b))] (Pq (fP (og ah.cells) ([p,q]:List (Rs))) h1 (au ah.cells p) (ak h2) (ak h2) (au ah.cells q) (ak h2) (ak h2) (ax h3) (ax h3) (ax h3) (ax h3) (ax h3) (ax h3) (ax h3) (ax h3) h4)
theorem e3(p q b:Rs)(h1:Cp 125 [(bq (an ah.cells) [p,q])] .aq)(h2:p.length≤0)(h3:Cp 126 [ae p,ae q] (ae b)):Cp 57 [ae p,ae q] (.aB [ae b,.aq]) :=
 eD func57 108 [3,1,1,1,1,1,1,1,1,1,1,1,1,1,1] [.q,.ba [.o,.o,(.ja 0 0 (([p,q]:List (Rs)).map (an ah.cells))),(.pv .aq)],.q,.a,.ba [.o,(iI (p.length:Int)),.o,.o,.skip,.skip,.skip,(.dec false),.o,.skip,.skip,.skip,.skip,.skip,.skip,.skip],.a,.h 2 (.pv (ae b))] (Cy (fP (og ah.cells) ([p,q]:List (Rs))) h1 (au ah.cells p) (ax h2) (ax h2) (ax h2) (ax h2) (Eq.refl false) (Eq.refl false) (Eq.refl false) (Eq.refl false) (Eq.refl false) (Eq.refl false) (Eq.refl false) h3)
end Dc
namespace Lh
theorem e0(p q:Rs)(of:ah)(b:Rs)(h1:Cp 125 [(bq (an ah.cells) [p,q])] .aq)(h2:Cp 46 [vI 1] of.pv)(h3:Cp 127 [ae p,ae q,of.pv] (ae b)):Cp 58 [ae p,ae q] (.aB [ae b,.aq]) :=
 eD func58 93 [3,1,1,1] [.q,.ba [.o,.o,(.ja 0 0 (([p,q]:List (Rs)).map (an ah.cells))),(.pv .aq)],.q,.a,.ba [.o,.o,(.pv of.pv),(.pv (ae b))]] (y4 (fP (og ah.cells) ([p,q]:List (Rs))) h1 h2 h3)
end Lh
namespace I5
theorem e1(p b c d g i:Rs)(h1:Cp 79 [ae p] .aq)(h2:p.length≠0)(h3:Cp 155 [ae p] (ae b))(h4:Cp 154 [ae p,ae b] (ae c))(h5:Cp 153 [ae p,ae c] (.aB [ae d,ae g]))(h6:Cp 156 [ae d] (ae i)):Cp 76 [ae p] (.aB [ae i,.aq]) :=
 eD func76 114 [1,1,1,1,1,1,1] [.q,.h 1 (.pv .aq),.q,.a,.h 1 (iI (p.length:Int)),.f,.ba [.o,.o,.o,(.pv (ae b)),(.pv (ae c)),(.pv (.aB [ae d,ae g]))],.h 1 (.pv (ae i))] (y7 h1 (au ah.cells p) (aC h2) h3 h4 h5 h6)
end I5
namespace jq
@[reducible] def fn:Func:=Tryz.f79
def bK:List gC:=focus [0,2,0,0,2,1,2,0,0,2,0,0] [.code (aA fn)]
def inv1(p:List ah)(MY:Nat):St:=⟨[(0,(.pv (ae p))),(9,(.pv (ae p))),(10,(eI (p.length:Int))),(11,(eI (MY:Int)))],[]⟩
@[reducible] def aj(p:List ah)(MY:Nat)(r:PV):Prop:=L bT fn bK (inv1 p MY) r
theorem e0(p:Rs)(h1:65<p.length):Cp 79 [ae p] (.iface 67 (vI 4)) :=
 eD func79 84 [1,1] [.q,.h 1 (iI (p.length:Int)),.t,.q] (y2 (au ah.cells p) (ak h1))
theorem e1(p:Rs){r:PV}(h1:p.length≤65)(hL:aj p 0 r):Cp 79 [ae p] r :=
 eG func79 96 [1,1,1] [.q,.h 1 (iI (p.length:Int)),.f,.h 1 (iI (p.length:Int)),.aP [0,9,10,11]] (y3 (au ah.cells p) (ax h1) (au ah.cells p)) hL
theorem l10(p:Rs)(b:Nat)(v:ah)(c:Bool)(h1:b<p.length)(h2:p[b]? = some v)(h3:Cp 164 [v.pv] (vB c))(h4:c=false):aj p b (.iface 67 (vI 2)) :=
 lD 141 [1,3,1,1] [.a,.q,.t,.h 0 (.row b (ah.cells v)),.h 1 (.pv (vB c)),.t,.q] (y4 (ak h1) (bU ah.cells (Eq.refl (((b:Nat):Int):Int)) h2) h3 (bB h4))
theorem dw(p:Rs)(b:Nat)(v:ah)(c:Bool){r:PV}(h1:b<p.length)(h2:p[b]? = some v)(h3:Cp 164 [v.pv] (vB c))(h4:c=true)(h5:(b+1)<9223372036854775808)(hL:aj p (b+1) r):aj p b r :=
 lG 144 [1,3,1,1,1] [.a,.q,.t,.h 0 (.row b (ah.cells v)),.h 1 (.pv (vB c)),.f,.h 0 (iI (((b+1):Nat):Int)),.aP [0,9,10,11],.drop [4]] (y5 (ak h1) (bU ah.cells (Eq.refl (((b:Nat):Int):Int)) h2) h3 (ay h4) (aR h5)) hL
theorem ji(p:Rs)(b k:Nat)(v:ah)(c:Int)(h1:p.length≤b)(h2:0<p.length)(h3:aw ((p.length:Int)-1))(h4:((p.length:Int)-1)=(k:Int))(h5:p[k]? = some v)(h6:Cp 33 [v.pv] (vI c))(h7:c=0):aj p b (.iface 67 (vI 8)) :=
 lD 141 [1,1,1,1,1,1,1,1,1,3,1,1,1,1,1,1] [.a,.q,.f,.ba [.o,(iI (p.length:Int)),.o,.o,.o,.o,(iI (p.length:Int)),(iI ((p.length:Int)-1)),(.row k (ah.cells v)),.o,(.pv (vI c)),.o,(.dec true)],.t,.q] (Cz (ax h1) (au ah.cells p) (ak h2) (ak h2) (ak h2) (au ah.cells p) (ak h2) (aX h3) (ak h2) (bU ah.cells h4 h5) (ak h2) (ak h2) h6 (ak h2) (ak h2) (aF h7))
theorem oK(p:Rs)(b k:Nat)(v:ah)(c:Int)(h1:p.length≤b)(h2:0<p.length)(h3:aw ((p.length:Int)-1))(h4:((p.length:Int)-1)=(k:Int))(h5:p[k]? = some v)(h6:Cp 33 [v.pv] (vI c))(h7:c≠0):aj p b .aq :=
 lD 144 [1,1,1,1,1,1,1,1,1,3,1,1,1,1,1,1] [.a,.q,.f,.ba [.o,(iI (p.length:Int)),.o,.o,.o,.o,(iI (p.length:Int)),(iI ((p.length:Int)-1)),(.row k (ah.cells v)),.o,(.pv (vI c)),.o,(.dec true)],.f,.q] (Cz (ax h1) (au ah.cells p) (ak h2) (ak h2) (ak h2) (au ah.cells p) (ak h2) (aX h3) (ak h2) (bU ah.cells h4 h5) (ak h2) (ak h2) h6 (ak h2) (ak h2) (aN h7))
theorem AS(p:Rs)(b:Nat)(h1:p.length≤b)(h2:p.length≤0):aj p b .aq :=
 lD 144 [1,1,1,1,1,1,1,1,1,1,1] [.a,.q,.f,.ba [.o,(iI (p.length:Int)),.o,.o,.skip,.skip,.skip,.skip,.skip,.skip,.skip,.skip,(.dec false)],.a,.q] (FO (ax h1) (au ah.cells p) (ax h2) (ax h2) (ax h2) (ax h2) (ax h2) (ax h2) (ax h2) (ax h2) (ax h2))
end jq
namespace E2
theorem e0(p b:Rs)(h1:Cp 79 [ae p] .aq)(h2:Cp 155 [ae p] (ae b)):Cp 80 [ae p] (.aB [ae b,.aq]) :=
 eD func80 93 [1,1] [.q,.h 1 (.pv .aq),.q,.a,.h 1 (.pv (ae b))] (y2 h1 h2)
end E2
namespace Ag
theorem e0(p q b:Rs)(h1:Cp 125 [(bq (an ah.cells) [p,q])] .aq)(h2:Cp 154 [ae p,ae q] (ae b)):Cp 81 [ae p,ae q] (.aB [ae b,.aq]) :=
 eD func81 93 [3,1,1] [.q,.ba [.o,.o,(.ja 0 0 (([p,q]:List (Rs)).map (an ah.cells))),(.pv .aq)],.q,.a,.h 2 (.pv (ae b))] (y3 (fP (og ah.cells) ([p,q]:List (Rs))) h1 h2)
end Ag
namespace pr
@[reducible] def fn:Func:=Tryz.f125
def bK:List gC:=focus [0,2,0,0,2,0,0] [.code (aA fn)]
def inv1(list:List (List ah))(uE:Nat):St:=⟨[(6,(.pv (bq (an ah.cells) list))),(7,(eI (list.length:Int))),(8,(eI (uE:Int)))],[]⟩
@[reducible] def aj(list:List (List ah))(uE:Nat)(r:PV):Prop:=L bT fn bK (inv1 list uE) r
theorem e0 (a : List (Rs)) {r : PV}  (hL : aj a 0 r) : Cp 125 [(bq (an ah.cells) a)] r :=
 eG func125 81 [1] [.q,.h 1 (iI (a.length:Int)),.aP [6,7,8]] (y1 (au (an ah.cells) a)) hL
theorem l10(b:List (Rs))(c:Nat)(v:Rs){r:PV}(h1:c<b.length)(h2:b[c]? = some v)(h3:Cp 79 [ae v] .aq)(h4:(c+1)<9223372036854775808)(hL:aj b (c+1) r):aj b c r :=
 lG 135 [1,3,1,1] [.a,.q,.t,.h 0 (.row c ((an ah.cells) v)),.h 1 (.pv .aq),.q,.a,.h 0 (iI (((c+1):Nat):Int)),.aP [6,7,8]] (y4 (ak h1) (bU (an ah.cells) (Eq.refl (((c:Nat):Int):Int)) h2) h3 (aR h4)) hL
theorem dw(b:List (Rs))(c:Nat)(v:Rs)(d:Int)(h1:c<b.length)(h2:b[c]? = some v)(h3:Cp 79 [ae v] (.iface 67 (vI d))):aj b c (.iface 67 (vI d)) :=
 lD 132 [1,3,1] [.a,.q,.t,.h 0 (.row c ((an ah.cells) v)),.h 1 (.pv (.iface 67 (vI d))),.q,.a,.q] (y3 (ak h1) (bU (an ah.cells) (Eq.refl (((c:Nat):Int):Int)) h2) h3)
theorem ji(b:List (Rs))(c:Nat)(h1:b.length≤c):aj b c .aq :=
 lD 114 [1] [.a,.q,.f,.q] (y1 (ax h1))
end pr
namespace mF
@[reducible] def fn:Func:=Tryz.f126
def bK:List gC:=focus [0,2,0,0,2,1,2,0,2,0,0,2,0,0] [.code (aA fn)]
def inv1(q:List ah)(m:Nat)(p:List ah)(He:Nat)(yL:List ah):St:=⟨[(1,(.pv (ae q))),(5,(.row 24 0 m 3)),(25,(.pv (ae p))),(26,(eI (p.length:Int))),(27,(eI (He:Int)))],[(24,(.pure ((yL:List ah).map ah.cells).flatten))]⟩
@[reducible] def aj(q:List ah)(m:Nat)(p:List ah)(He:Nat)(yL:List ah)(r:PV):Prop:=L bT fn bK (inv1 q m p He yL) r
def qv:List gC:=focus [0,2,0,0,2,1,2,0,2,0,0,2,0,0,0,0,2,0,0,2,0,0,0,2,0,2,0,0] [.code (aA fn)]
def inv2(q:List ah)(m MW:Nat)(p:List ah)(He Vf:Nat)(v:ah)(yL:List ah):St:=⟨[(1,(.pv (ae q))),(5,(.row 24 0 m 3)),(6,(eI (MW:Int))),(7,(.ptr 7 0)),(25,(.pv (ae p))),(26,(eI (p.length:Int))),(27,(eI (He:Int))),(32,(.pv (ae q))),(33,(eI (q.length:Int))),(34,(eI (Vf:Int)))],[(7,(.lit [(eB v.neg),(.pv (ag v.num)),(.pv (ag v.den))])),(24,(.pure ((yL:List ah).map ah.cells).flatten))]⟩
@[reducible] def cz(q:List ah)(m MW:Nat)(p:List ah)(He Vf:Nat)(v:ah)(yL:List ah)(r:PV):Prop:=L bT fn qv (inv2 q m MW p He Vf v yL) r
theorem e0(p q:Rs)(h1:p.length=0):Cp 126 [ae p,ae q] (ae []) :=
 eD func126 84 [1,1,1,1,1] [.q,.ba [.o,(iI (p.length:Int)),.o,.o,.skip,.skip,.skip,(.dec true)],.a,.q] (y5 (au ah.cells p) (aL h1) (aL h1) (aL h1) (aL h1))
theorem e1(p q:Rs)(h1:p.length≠0)(h2:q.length=0):Cp 126 [ae p,ae q] (ae []) :=
 eD func126 84 [1,1,1,1,1,1,1] [.q,.ba [.o,(iI (p.length:Int)),.o,.o,.o,(iI (q.length:Int)),.o,(.dec false)],.t,.q] (y7 (au ah.cells p) (aC h1) (aC h1) (au ah.cells q) (aC h1) (aC h1) (aL h2))
theorem e2(p q:Rs)(m:Nat){r:PV}(h1:p.length≠0)(h2:q.length≠0)(h3:(p.length+q.length)<9223372036854775808)(h4:aw ((((p.length+q.length):Nat):Int)-1))(h5:((((p.length+q.length):Nat):Int)-1)=(m:Int))(h6:56*m≤140737488355328)(hL:aj q m p 0 (List.replicate m (⟨false,[],[]⟩:ah)) r):Cp 126 [ae p,ae q] r :=
 eG func126 102 [1,1,1,1,1,1,1,1,1,1,1,5,1] [.q,.ba [.o,(iI (p.length:Int)),.o,.o,.o,(iI (q.length:Int)),.o,(.dec false)],.f,.ba [.o,(iI (p.length:Int)),.o,(iI (q.length:Int)),(iI (((p.length+q.length):Nat):Int)),(iI ((((p.length+q.length):Nat):Int)-1)),(.app m ((List.replicate m (⟨false,[],[]⟩:ah):Rs).map ah.cells).flatten)],.h 1 (iI (p.length:Int)),.aP [1,5,25,26,27]] (Fz (au ah.cells p) (aC h1) (aC h1) (au ah.cells q) (aC h1) (aC h1) (aC h2) (au ah.cells p) (au ah.cells q) (aR h3) (aX h4) (yy ah.cells (⟨false,[],[]⟩:ah) 56 m h5 h6 rfl) (au ah.cells p)) hL
theorem l10(q:Rs)(m:Nat)(p:Rs)(b:Nat)(c:Rs)(v:ah){r:PV}(h1:b<p.length)(h2:p[b]? = some v)(hL:cz q m b p b 0 v c r):aj q m p b c r :=
 lG 144 [1,3,1] [.a,.q,.t,.h 1 (.row b (ah.cells v)),.h 1 (iI (q.length:Int)),.aP [1,5,6,7,25,26,27,32,33,34]] (y3 (ak h1) (bU ah.cells (Eq.refl (((b:Nat):Int):Int)) h2) (au ah.cells q)) hL
theorem dw(q:Rs)(m:Nat)(p:Rs)(b:Nat)(c d:Rs)(h1:p.length≤b)(h2:m=c.length)(h3:Cp 182 [ae c] (ae d)):aj q m p b c (ae d) :=
 lD 135 [1,3,1] [.a,.q,.f,.iZ 5 ((c:Rs).map ah.cells),.h 1 (.pv (ae d))] (y3 (ax h1) (eR bM (c:Rs) h2) h3)
theorem xl(q:Rs)(m b:Nat)(p:Rs)(c d:Nat)(v:ah)(g:Rs)(v1 v2 i j:ah){r:PV}(h1:d<q.length)(h2:q[d]? = some v1)(h3:(b+d)<9223372036854775808)(h4:(b+d)<m)(h5:g[(b+d)]? = some v2)(h6:Cp 198 [v.pv,v1.pv] i.pv)(h7:Cp 91 [v2.pv,i.pv] j.pv)(h8:(b+d)<g.length)(h9:(d+1)<9223372036854775808)(hL:cz q m b p c (d+1) v (g.set (b+d) j) r):cz q m b p c d v g r :=
 lG 183 [1,3,1,1,2,2,1,1,2,2,1] [.a,.q,.t,.h 1 (.row d (ah.cells v1)),dr 15 1 [.none,.none,.none,(iI (((b+d):Nat):Int)),.none,.none,.none,(iI (((b+d):Nat):Int)),(.nat (b+d)),(.Ky [vB v2.neg,ag v2.num,ag v2.den]),.none,.none,(.pv i.pv),(.pv j.pv),(.nat (b+d)),(.cells (.pure (((g.set (b+d) j):Rs).map ah.cells).flatten))],.h 0 (iI (((d+1):Nat):Int)),.aP [1,5,6,7,25,26,27,32,33,34],.drop [9]] (FO (ak h1) (bU ah.cells (Eq.refl (((d:Nat):Int):Int)) h2) (aR h3) (aR h3) (cj (Eq.refl ((((b+d):Nat):Int):Int)) h4) (wE bM h5) h6 h7 (cj (Eq.refl ((((b+d):Nat):Int):Int)) h4) (mm bM (g:Rs) j h8) (aR h9)) hL
theorem AR(q:Rs)(m b:Nat)(p:Rs)(c d:Nat)(v:ah)(g:Rs){r:PV}(h1:q.length≤d)(h2:(c+1)<9223372036854775808)(hL:aj q m p (c+1) g r):cz q m b p c d v g r :=
 lG 177 [1,1] [.a,.q,.f,.h 0 (iI (((c+1):Nat):Int)),.aP [1,5,25,26,27],.drop [7]] (y2 (ax h1) (aR h2)) hL
end mF
namespace xM
@[reducible] def fn:Func:=Tryz.f127
def bK:List gC:=focus [0,2,0,2,0,0,2,0,0] [.code (aA fn)]
def inv1(p q:List ah)(MV:Nat)(c:ah)(rU:List ah):St:=⟨[(0,(.pv (ae p))),(1,(.pv (ae q))),(5,(.ptr 5 0)),(7,(.row 14 0 (max p.length q.length) 3)),(16,(eI (((max p.length q.length):Nat):Int))),(17,(eI (MV:Int)))],[(5,(.lit [(eB c.neg),(.pv (ag c.num)),(.pv (ag c.den))])),(14,(.pure ((rU:List ah).map ah.cells).flatten))]⟩
@[reducible] def aj(p q:List ah)(MV:Nat)(c:ah)(rU:List ah)(r:PV):Prop:=L bT fn bK (inv1 p q MV c rU) r
theorem e0(p q:Rs)(c:ah){r:PV}(h1:56*(max p.length q.length)≤140737488355328)(hL:aj p q 0 c (List.replicate (max p.length q.length) (⟨false,[],[]⟩:ah)) r):Cp 127 [ae p,ae q,c.pv] r :=
 eG func127 87 [1,1,1,5] [.q,.ba [.o,(iI (p.length:Int)),.o,(iI (q.length:Int)),(iI (((max p.length q.length):Nat):Int)),(.app (max p.length q.length) ((List.replicate (max p.length q.length) (⟨false,[],[]⟩:ah):Rs).map ah.cells).flatten)],.q,.aP [0,1,5,7,16,17],.ord [5,14]] (y4 (au ah.cells p) (au ah.cells q) (BO p.length q.length) (yy ah.cells (⟨false,[],[]⟩:ah) 56 (max p.length q.length) (Eq.refl ((((max p.length q.length):Nat):Int):Int)) h1 rfl)) hL
theorem l10(p q:Rs)(b:Nat)(c:ah)(d:Rs)(g i j k:ah){r:PV}(h1:b<(max p.length q.length))(h2:Cp 212 [ae p,(vI (b:Int))] g.pv)(h3:Cp 212 [ae q,(vI (b:Int))] i.pv)(h4:Cp 198 [c.pv,i.pv] j.pv)(h5:Cp 91 [g.pv,j.pv] k.pv)(h6:b<d.length)(h7:(b+1)<9223372036854775808)(hL:aj p q (b+1) c (d.set b k) r):aj p q b c d r :=
 lG 126 [1,1,1,1,1,2,2,1] [.a,.q,.t,.q,dr 12 1 [.none,.none,.none,.none,(.pv g.pv),.none,.none,.none,(.pv i.pv),(.pv j.pv),(.pv k.pv),(.nat b),(.cells (.pure (((d.set b k):Rs).map ah.cells).flatten))],.h 0 (iI (((b+1):Nat):Int)),.aP [0,1,5,7,16,17]] (y8 (ak h1) h2 h3 h4 h5 (cj (Eq.refl (((b:Nat):Int):Int)) h1) (mm bM (d:Rs) k h6) (aR h7)) hL
theorem dw(p q:Rs)(b:Nat)(c:ah)(d g:Rs)(h1:(max p.length q.length)≤b)(h2:(max p.length q.length)=d.length)(h3:Cp 182 [ae d] (ae g)):aj p q b c d (ae g) :=
 lD 120 [1,3,1] [.a,.q,.f,.iZ 7 ((d:Rs).map ah.cells),.h 1 (.pv (ae g))] (y3 (ax h1) (eR bM (d:Rs) h2) h3)
end xM
namespace xN
@[reducible] def fn:Func:=Tryz.f133
def bK:List gC:=focus [0,2,0,0,2,0,2,1,2,0,2,0,0,2,0,0] [.code (aA fn)]
def inv1(p:List ah)(G8:Int)(x fC:ah):St:=⟨[(0,(.pv (ae p))),(3,(.ptr 3 0)),(4,(.ptr 4 0)),(7,(.ptr 7 0)),(8,(eI G8))],[(3,(.lit [(eB x.neg),(.pv (ag x.num)),(.pv (ag x.den))])),(4,(.lit [(eB false),(.pv (.list [])),(.pv (.list []))])),(7,(.lit [(eB fC.neg),(.pv (ag fC.num)),(.pv (ag fC.den))]))]⟩
@[reducible] def aj(p:List ah)(G8:Int)(x fC:ah)(r:PV):Prop:=L bT fn bK (inv1 p G8 x fC) r
theorem e0(p:Rs)(x:ah){r:PV}(h1:Cp 79 [ae p] .aq)(h2:aw ((p.length:Int)-1))(hL:aj p ((p.length:Int)-1) x (⟨false,[],[]⟩:ah) r):Cp 133 [ae p,x.pv] r :=
 eG func133 108 [1,1,1] [.q,.h 1 (.pv .aq),.q,.a,.q,.ba [.o,(iI (p.length:Int)),(iI ((p.length:Int)-1))],.aP [0,3,4,7,8],.ord [3,4,7]] (y3 h1 (au ah.cells p) (aX h2)) hL
theorem l10(p:Rs)(b:Int)(x c d:ah)(k:Nat)(v g:ah){r:PV}(h1:0≤b)(h2:Cp 198 [c.pv,x.pv] d.pv)(h3:b=(k:Int))(h4:p[k]? = some v)(h5:Cp 91 [d.pv,v.pv] g.pv)(h6:aw (b-1))(hL:aj p (b-1) x g r):aj p b x c r :=
 lG 141 [1,1,3,1,1] [.a,.q,.t,dr 8 1 [.none,.none,(.pv d.pv),.none,.none,(.row k (ah.cells v)),.none,(.pv g.pv)],.h 1 (iI (b-1)),.aP [0,3,4,7,8]] (y5 (jv h1) h2 (bU ah.cells h3 h4) h5 (aX h6)) hL
theorem dw(p:Rs)(b:Int)(x c:ah)(h1:b<0):aj p b x c (.aB [c.pv,.aq]) :=
 lD 141 [1] [.a,.q,.f,.q] (y1 (kL h1))
end xN
namespace nA
@[reducible] def fn:Func:=Tryz.f153
def bK:List gC:=focus [0,2,0,2,0,2,0,2,0,0,0] [.code (aA fn)]
def inv1(q:List ah)(BV m:Nat)(v:ah)(nN yM:List ah):St:=⟨[(1,(.pv (ae q))),(6,(.row 15 0 BV 3)),(7,(.row 23 0 m 3)),(8,(.ptr 8 0))],[(8,(.lit [(eB v.neg),(.pv (ag v.num)),(.pv (ag v.den))])),(15,(.pure ((nN:List ah).map ah.cells).flatten)),(23,(.pure ((yM:List ah).map ah.cells).flatten))]⟩
@[reducible] def aj(q:List ah)(BV m:Nat)(v:ah)(nN yM:List ah)(r:PV):Prop:=L bT fn bK (inv1 q BV m v nN yM) r
def qv:List gC:=focus [0,2,0,2,0,2,0,2,0,0,0,0,0,0,2,0,2,0,0,2,0,2,0,2,0,0,2,0,0] [.code (aA fn)]
def inv2(q:List ah)(BV m:Nat)(JY:Int)(Vg:Nat)(v div:ah)(nN yM:List ah):St:=⟨[(1,(.pv (ae q))),(6,(.row 15 0 BV 3)),(7,(.row 23 0 m 3)),(8,(.ptr 8 0)),(9,(eI JY)),(10,(.ptr 10 0)),(55,(.pv (ae q))),(56,(eI (q.length:Int))),(57,(eI (Vg:Int)))],[(8,(.lit [(eB v.neg),(.pv (ag v.num)),(.pv (ag v.den))])),(10,(.lit [(eB div.neg),(.pv (ag div.num)),(.pv (ag div.den))])),(15,(.pure ((nN:List ah).map ah.cells).flatten)),(23,(.pure ((yM:List ah).map ah.cells).flatten))]⟩
@[reducible] def cz(q:List ah)(BV m:Nat)(JY:Int)(Vg:Nat)(v div:ah)(nN yM:List ah)(r:PV):Prop:=L bT fn qv (inv2 q BV m JY Vg v div nN yM) r
theorem e0(p q z:Rs)(n m k:Nat)(v:ah){r:PV}(h1:av bT 182 [.pv (ae p)] [] (.row 0 0 n 3) [(0,(.pure ((z:Rs).map ah.cells).flatten))])(h2:aw ((p.length:Int)-(q.length:Int)))(h3:aw (((p.length:Int)-(q.length:Int))+1))(h4:(max 0 (((p.length:Int)-(q.length:Int))+1))=(m:Int))(h5:56*m≤140737488355328)(h6:aw ((q.length:Int)-1))(h7:((q.length:Int)-1)=(k:Int))(h8:q[k]? = some v)(hL:aj q n m v z (List.replicate m (⟨false,[],[]⟩:ah)) r):Cp 153 [ae p,ae q] r :=
 eG func153 93 [1,1,1,1,1,1,5,1,1,3] [.q,.h 1 (.bI [] (some (0,15)) (.row 0 0 n 3) [(0,(.pure ((z:Rs).map ah.cells).flatten))]),.ba [.o,(iI (p.length:Int)),.o,(iI (q.length:Int)),(iI ((p.length:Int)-(q.length:Int))),(iI (((p.length:Int)-(q.length:Int))+1)),(iI (max 0 (((p.length:Int)-(q.length:Int))+1))),(.app m ((List.replicate m (⟨false,[],[]⟩:ah):Rs).map ah.cells).flatten)],.ba [.o,.o,(iI (q.length:Int)),(iI ((q.length:Int)-1)),(.row k (ah.cells v))],.aP [1,6,7,8],.ord [8,15,23]] (Iu h1 (au ah.cells p) (au ah.cells q) (aX h2) (xi h3) (MT 0 (((p.length:Int)-(q.length:Int))+1)) (yy ah.cells (⟨false,[],[]⟩:ah) 56 m h4 h5 rfl) (au ah.cells q) (aX h6) (bU ah.cells h7 h8)) hL
theorem l10(q:Rs)(b m:Nat)(v:ah)(c d:Rs)(k:Nat)(v1 g:ah)(i:Option Int)(k1:Nat){r:PV}(h1:q.length≤b)(h2:aw ((b:Int)-(q.length:Int)))(h3:aw ((b:Int)-1))(h4:((b:Int)-1)=(k:Int))(h5:k<b)(h6:c[k]? = some v1)(h7:Cp 234 [v1.pv,v.pv] (.aB [g.pv,bC i]))(h8:((b:Int)-(q.length:Int))=(k1:Int))(h9:k1<m)(dM:k1<d.length)(hL:cz q b m ((b:Int)-(q.length:Int)) 0 v g c (d.set k1 g) r):aj q b m v c d r :=
 lG 147 [1,1,1,1,1,2,2,1,2,2,1] [.a,.h 3 (iI (q.length:Int)),.t,.ba [.o,.o,.o,(iI (q.length:Int)),(iI ((b:Int)-(q.length:Int)))],dr 13 1 [.none,.none,.none,(iI ((b:Int)-1)),(.nat k),(.Ky [vB v1.neg,ag v1.num,ag v1.den]),.none,(.pv (.aB [g.pv,bC i]))],.ba [.o,.o,.o,(.nat k1),(.cells (.pure (((d.set k1 g):Rs).map ah.cells).flatten))],.h 1 (iI (q.length:Int)),.aP [1,6,7,8,9,10,55,56,57],.ord [8,10,15,23]] (FO (au ah.cells q) (cP h1) (au ah.cells q) (aX h2) (aX h3) (cj h4 h5) (wE bM h6) h7 (cj h8 h9) (mm bM (d:Rs) g dM) (au ah.cells q)) hL
theorem dw(q:Rs)(b m:Nat)(v:ah)(c d g:Rs)(h1:b<q.length)(h2:m=d.length)(h3:Cp 182 [ae d] (ae g))(h4:b=c.length):aj q b m v c d (.aB [ae g,ae c]) :=
 lD 126 [1,1,3,1,3] [.a,.h 3 (iI (q.length:Int)),.f,.iZ 7 ((d:Rs).map ah.cells),.h 1 (.pv (ae g)),.iZ 5 ((c:Rs).map ah.cells)] (y5 (au ah.cells q) (cN h1) (eR bM (d:Rs) h2) h3 (eR bM (c:Rs) h4))
theorem xl(q:Rs)(b m:Nat)(c:Int)(d:Nat)(v g:ah)(i j:Rs)(v1:ah)(k:Nat)(v2 l n:ah)(k1:Nat){r:PV}(h1:d<q.length)(h2:q[d]? = some v1)(h3:aw (c+(d:Int)))(h4:(c+(d:Int))=(k:Int))(h5:k<b)(h6:i[k]? = some v2)(h7:Cp 198 [g.pv,v1.pv] l.pv)(h8:Cp 32 [v2.pv,l.pv] n.pv)(h9:(c+(d:Int))=(k1:Int))(dM:k1<b)(gy:k1<i.length)(j8:(d+1)<9223372036854775808)(hL:cz q b m c (d+1) v g (i.set k1 n) j r):cz q b m c d v g i j r :=
 lG 186 [1,3,1,1,2,2,1,1,2,2,1] [.a,.q,.t,.h 1 (.row d (ah.cells v1)),dr 15 1 [.none,.none,.none,(iI (c+(d:Int))),.none,.none,.none,(iI (c+(d:Int))),(.nat k),(.Ky [vB v2.neg,ag v2.num,ag v2.den]),.none,.none,(.pv l.pv),(.pv n.pv),(.nat k1),(.cells (.pure (((i.set k1 n):Rs).map ah.cells).flatten))],.h 0 (iI (((d+1):Nat):Int)),.aP [1,6,7,8,9,10,55,56,57],.drop [13]] (FO (ak h1) (bU ah.cells (Eq.refl (((d:Nat):Int):Int)) h2) (xi h3) (xi h3) (cj h4 h5) (wE bM h6) h7 h8 (cj h9 dM) (mm bM (i:Rs) n gy) (aR j8)) hL
theorem AR(q:Rs)(b m:Nat)(c:Int)(d:Nat)(v g:ah)(i j z:Rs)(n:Nat){r:PV}(h1:q.length≤d)(h2:b=i.length)(h3:av bT 182 [.pv (ae i)] [] (.row 0 0 n 3) [(0,(.pure ((z:Rs).map ah.cells).flatten))])(hL:aj q n m v z j r):cz q b m c d v g i j r :=
 lG 180 [1,3,1] [.a,.q,.f,.iZ 6 ((i:Rs).map ah.cells),.h 1 (.bI [] (some (0,79)) (.row 0 0 n 3) [(0,(.pure ((z:Rs).map ah.cells).flatten))]),.aP [1,6,7,8],.drop [10],.l7 79 15,.ord [8,15,23]] (y3 (ax h1) (eR bM (i:Rs) h2) h3) hL
end nA
namespace eS
@[reducible] def fn:Func:=Tryz.f154
def bK:List gC:=focus [0,2,0,0,0] [.code (aA fn)]
def inv1(Vh Vi:List ah):St:=⟨[(0,(.pv (ae Vh))),(1,(.pv (ae Vi)))],[]⟩
@[reducible] def aj(Vh Vi:List ah)(r:PV):Prop:=L bT fn bK (inv1 Vh Vi) r
theorem e0 (p q : Rs) {r : PV}  (hL : aj p q r) : Cp 154 [ae p, ae q] r :=
 eG func154 75 [] [.q,.aP [0,1]] True.intro hL
theorem l10(b c d g i:Rs){r:PV}(h1:0<c.length)(h2:Cp 153 [ae b,ae c] (.aB [ae d,ae g]))(h3:Cp 156 [ae g] (ae i))(hL:aj c i r):aj b c r :=
 lG 108 [1,1,1,1] [.a,.h 1 (iI (c.length:Int)),.t,.h 2 (.pv (.aB [ae d,ae g])),.h 2 (.pv (ae i)),.aP [0,1]] (y4 (au ah.cells c) (ak h1) h2 h3) hL
theorem dw(b c d:Rs)(h1:c.length≤0)(h2:Cp 156 [ae b] (ae d)):aj b c (ae d) :=
 lD 108 [1,1,1] [.a,.h 1 (iI (c.length:Int)),.f,.h 1 (.pv (ae d))] (y3 (au ah.cells c) (ax h1) h2)
end eS
namespace tQ
@[reducible] def fn:Func:=Tryz.f155
def bK:List gC:=focus [0,2,0,2,0,0,2,0,0] [.code (aA fn)]
def inv1(p FQ:List ah)(ZM:Nat):St:=⟨[(0,(.pv (ae p))),(3,(.row 20 0 FQ.length 3)),(4,(eI (ZM:Int)))],[(20,(.pure ((FQ:List ah).map ah.cells).flatten))]⟩
@[reducible] def aj(p FQ:List ah)(ZM:Nat)(r:PV):Prop:=L bT fn bK (inv1 p FQ ZM) r
theorem e0 (p : Rs) {r : PV}  (hL : aj p [] 1 r) : Cp 155 [ae p] r :=
 eG func155 87 [] [.q,.h 0 .nil,.ju 3 20 3,.q,.aP [0,3,4]] True.intro hL
theorem l10(p b:Rs)(c:Nat)(of v d:ah){r:PV}(h1:c<p.length)(h2:Cp 46 [(vI (c:Int))] of.pv)(h3:p[c]? = some v)(h4:Cp 198 [of.pv,v.pv] d.pv)(h5:((b++[d]):Rs).length*56≤140737488355328)(h6:(c+1)<9223372036854775808)(hL:aj p (b++[d]) (c+1) r):aj p b c r :=
 lG 120 [1,1,1,3,1,6,1] [.a,.h 2 (iI (p.length:Int)),.t,dr 9 2 [.none,.none,(.pv of.pv),.none,.none,(.row c (ah.cells v)),.none,(.pv d.pv),.none,(.app ((b++[d]):Rs).length (((b++[d]):Rs).map ah.cells).flatten)],.h 1 (iI (((c+1):Nat):Int)),.aP [0,3,4],.drop [19]] (y7 (au ah.cells p) (ak h1) h2 (bU ah.cells (Eq.refl (((c:Nat):Int):Int)) h3) h4 (gm bM (b:Rs) ([d]:Rs) 56 (Eq.refl (b:Rs).length) (Eq.refl ([d]:Rs).length) h5 rfl) (aR h6)) hL
theorem dw(p b:Rs)(c:Nat)(d:Rs)(h1:p.length≤c)(h2:Cp 182 [ae b] (ae d)):aj p b c (ae d) :=
 lD 120 [1,1,3,1] [.a,.h 2 (iI (p.length:Int)),.f,.iZ 3 ((b:Rs).map ah.cells),.h 1 (.pv (ae d))] (y4 (au ah.cells p) (ax h1) (eR bM (b:Rs) (Eq.refl (b:Rs).length)) h2)
end tQ
namespace BW
theorem e0(p:Rs)(h1:p.length=0):Cp 156 [ae p] (ae []) :=
 eD func156 84 [1,1] [.q,.h 1 (iI (p.length:Int)),.t,.q] (y2 (au ah.cells p) (aL h1))
theorem e1(p:Rs)(of:ah)(k:Nat)(v a:ah)(b:Option Int)(c:Rs)(h1:p.length≠0)(h2:Cp 46 [vI 1] of.pv)(h3:aw ((p.length:Int)-1))(h4:((p.length:Int)-1)=(k:Int))(h5:p[k]? = some v)(h6:Cp 234 [of.pv,v.pv] (.aB [a.pv,bC b]))(h7:Cp 127 [(ae []),ae p,a.pv] (ae c)):Cp 156 [ae p] (ae c) :=
 eD func156 93 [1,1,1,1,1,3,1,1] [.q,.h 1 (iI (p.length:Int)),.f,dr 13 1 [(.pv of.pv),.none,.none,(iI (p.length:Int)),(iI ((p.length:Int)-1)),(.row k (ah.cells v)),.none,(.pv (.aB [a.pv,bC b]))],.h 2 (.pv (ae c))] (y8 (au ah.cells p) (aC h1) h2 (au ah.cells p) (aX h3) (bU ah.cells h4 h5) h6 h7)
end BW
namespace qb
@[reducible] def fn:Func:=Tryz.f182
def bK:List gC:=focus [0,2,0,2,0,0,2,0,0] [.code (aA fn)]
def inv1(fJ l:List ah)(uE:Nat):St:=⟨[(3,(.row 17 0 fJ.length 3)),(6,(.pv (ae l))),(7,(eI (l.length:Int))),(8,(eI (uE:Int)))],[(17,(.pure ((fJ:List ah).map ah.cells).flatten))]⟩
@[reducible] def aj(fJ l:List ah)(uE:Nat)(r:PV):Prop:=L bT fn bK (inv1 fJ l uE) r
def qv:List gC:=focus [0,2,0,2,0,0,2,0,0,0,0,2,0,1,2,2,2,2,0,0,0] [.code (aA fn)]
def inv2(fJ:List ah):St:=⟨[(3,(.row 17 0 fJ.length 3))],[(17,(.pure ((fJ:List ah).map ah.cells).flatten))]⟩
@[reducible] def cz(fJ:List ah)(r:PV):Prop:=L bT fn qv (inv2 fJ) r
theorem e0 (l : Rs) {r : PV}  (hL : aj [] l 0 r) : Cp 182 [ae l] r :=
 eG func182 87 [1] [.q,.h 0 .nil,.ju 3 17 3,.h 1 (iI (l.length:Int)),.aP [3,6,7,8]] (y1 (au ah.cells l)) hL
theorem l10(b l:Rs)(c:Nat)(v d:ah){r:PV}(h1:c<l.length)(h2:l[c]? = some v)(h3:Cp 91 [v.pv,(⟨false,[],[]⟩:ah).pv] d.pv)(h4:((b++[d]):Rs).length*56≤140737488355328)(h5:(c+1)<9223372036854775808)(hL:aj (b++[d]) l (c+1) r):aj b l c r :=
 lG 126 [1,3,1,6,1] [.a,.q,.t,.h 0 (.row c (ah.cells v)),.ba [.o,.o,.o,(.pv d.pv),.o,(.app ((b++[d]):Rs).length (((b++[d]):Rs).map ah.cells).flatten)],.h 0 (iI (((c+1):Nat):Int)),.aP [3,6,7,8],.drop [16,5]] (y5 (ak h1) (bU ah.cells (Eq.refl (((c:Nat):Int):Int)) h2) h3 (gm bM (b:Rs) ([d]:Rs) 56 (Eq.refl (b:Rs).length) (Eq.refl ([d]:Rs).length) h4 rfl) (aR h5)) hL
theorem dw(b l:Rs)(c:Nat){r:PV}(h1:l.length≤c)(hL:cz b r):aj b l c r :=
 lG 123 [1] [.a,.q,.f,.aP [3]] (y1 (ax h1)) hL
theorem xl(b:Rs)(k:Nat)(v:ah)(c:Int)(u:Nat){r:PV}(h1:0<b.length)(h2:aw ((b.length:Int)-1))(h3:((b.length:Int)-1)=(k:Int))(h4:k<b.length)(h5:b[k]? = some v)(h6:Cp 33 [v.pv] (vI c))(h7:c=0)(h8:((b.length:Int)-1)=(u:Int))(h9:u≤(b:Rs).length)(hL:cz (b.take u) r):cz b r :=
 lG 150 [1,1,1,1,1,1,2,1,2,1,1,1,1,1,1,5,1] [.a,.ba [.o,.o,.o,.o,.o,.o,.o,(iI ((b.length:Int)-1)),(.nat k),(.Ky [vB v.neg,ag v.num,ag v.den]),(.pv (vI c)),.o,(.dec true)],.t,.ba [.o,.o,.o,(iI ((b.length:Int)-1)),(.ja 0 ((b.take u).length) [])],.cut 17 (u*3) (((b.take u):Rs).map ah.cells).flatten,.aP [3]] (Pq (ak h1) (ak h1) (ak h1) (ak h1) (aX h2) (ak h1) (cj h3 h4) (ak h1) (wE bM h5) (ak h1) h6 (ak h1) (ak h1) (aF h7) (aX h2) (Le (b:Rs) h8 h9) (Bs bM (b:Rs) u)) hL
theorem AR(b:Rs)(k:Nat)(v:ah)(c:Int)(h1:0<b.length)(h2:aw ((b.length:Int)-1))(h3:((b.length:Int)-1)=(k:Int))(h4:k<b.length)(h5:b[k]? = some v)(h6:Cp 33 [v.pv] (vI c))(h7:c≠0):cz b (ae b) :=
 lD 156 [1,1,1,1,1,1,2,1,2,1,1,1,1,1,3] [.a,.ba [.o,.o,.o,.o,.o,.o,.o,(iI ((b.length:Int)-1)),(.nat k),(.Ky [vB v.neg,ag v.num,ag v.den]),(.pv (vI c)),.o,(.dec true)],.f,.q,.iZ 2 ((b:Rs).map ah.cells)] (Cy (ak h1) (ak h1) (ak h1) (ak h1) (aX h2) (ak h1) (cj h3 h4) (ak h1) (wE bM h5) (ak h1) h6 (ak h1) (ak h1) (aN h7) (eR bM (b:Rs) (Eq.refl (b:Rs).length)))
theorem Ol(b:Rs)(h1:b.length≤0):cz b (ae b) :=
 lD 156 [1,1,1,1,1,1,1,1,1,3] [.a,.ba [.o,.o,.o,.o,.skip,.skip,.skip,.skip,.skip,.skip,.skip,.skip,(.dec false)],.a,.q,.iZ 2 ((b:Rs).map ah.cells)] (Iu (ax h1) (ax h1) (ax h1) (ax h1) (ax h1) (ax h1) (ax h1) (ax h1) (ax h1) (eR bM (b:Rs) (Eq.refl (b:Rs).length)))
end qb
namespace nP
@[reducible] def fn:Func:=Tryz.f182
def bK:List gC:=focus [0,2,0,2,0,0,2,0,0] [.code (aA fn)]
def inv1(fJ l:List ah)(uE:Nat):St:=⟨[(3,(.row 17 0 fJ.length 3)),(6,(.pv (ae l))),(7,(eI (l.length:Int))),(8,(eI (uE:Int)))],[(17,(.pure ((fJ:List ah).map ah.cells).flatten))]⟩
@[reducible] def aj(fJ l:List ah)(uE:Nat)(sin:cq)(r:EV)(sout:cq):Prop:=LX bT fn bK (inv1 fJ l uE) sin r sout
def qv:List gC:=focus [0,2,0,2,0,0,2,0,0,0,0,2,0,1,2,2,2,2,0,0,0] [.code (aA fn)]
def inv2(fJ:List ah):St:=⟨[(3,(.row 17 0 fJ.length 3))],[(17,(.pure ((fJ:List ah).map ah.cells).flatten))]⟩
@[reducible] def cz(fJ:List ah)(sin:cq)(r:EV)(sout:cq):Prop:=LX bT fn qv (inv2 fJ) sin r sout
theorem e0 (l : Rs) {r : EV} {sout : cq}  (hL : aj [] l 0 [] r sout) : av bT 182 [(.pv (ae l))] [] r sout :=
 QY func182 87 [1] [.q,.h 0 .nil,.ju 3 17 3,.h 1 (iI (l.length:Int)),.aP [3,6,7,8]] (y1 (au ah.cells l)) hL
theorem l10(b l:Rs)(c:Nat)(v d:ah){r:EV}{sout:cq}{sin:cq}(hs:sin.all (fun p=>Nat.ble fn.ntmps p.1)=true)(h1:c<l.length)(h2:l[c]? = some v)(h3:Cp 91 [v.pv,(⟨false,[],[]⟩:ah).pv] d.pv)(h4:((b++[d]):Rs).length*56≤140737488355328)(h5:(c+1)<9223372036854775808)(hL:aj (b++[d]) l (c+1) sin r sout):aj b l c sin r sout :=
 Po 126 [1,3,1,6,1] [.a,.q,.t,.h 0 (.row c (ah.cells v)),.ba [.o,.o,.o,(.pv d.pv),.o,(.app ((b++[d]):Rs).length (((b++[d]):Rs).map ah.cells).flatten)],.h 0 (iI (((c+1):Nat):Int)),.aP [3,6,7,8],.drop [16,5]] hs (y5 (ak h1) (bU ah.cells (Eq.refl (((c:Nat):Int):Int)) h2) h3 (gm bM (b:Rs) ([d]:Rs) 56 (Eq.refl (b:Rs).length) (Eq.refl ([d]:Rs).length) h4 rfl) (aR h5)) hL
theorem dw(b l:Rs)(c:Nat){r:EV}{sout:cq}{sin:cq}(hs:sin.all (fun p=>Nat.ble fn.ntmps p.1)=true)(h1:l.length≤c)(hL:cz b sin r sout):aj b l c sin r sout :=
 Po 123 [1] [.a,.q,.f,.aP [3]] hs (y1 (ax h1)) hL
theorem xl(b:Rs)(k:Nat)(v:ah)(c:Int)(u:Nat){r:EV}{sout:cq}{sin:cq}(hs:sin.all (fun p=>Nat.ble fn.ntmps p.1)=true)(h1:0<b.length)(h2:aw ((b.length:Int)-1))(h3:((b.length:Int)-1)=(k:Int))(h4:k<b.length)(h5:b[k]? = some v)(h6:Cp 33 [v.pv] (vI c))(h7:c=0)(h8:((b.length:Int)-1)=(u:Int))(h9:u≤(b:Rs).length)(hL:cz (b.take u) sin r sout):cz b sin r sout :=
 Po 150 [1,1,1,1,1,1,2,1,2,1,1,1,1,1,1,5,1] [.a,.ba [.o,.o,.o,.o,.o,.o,.o,(iI ((b.length:Int)-1)),(.nat k),(.Ky [vB v.neg,ag v.num,ag v.den]),(.pv (vI c)),.o,(.dec true)],.t,.ba [.o,.o,.o,(iI ((b.length:Int)-1)),(.ja 0 ((b.take u).length) [])],.cut 17 (u*3) (((b.take u):Rs).map ah.cells).flatten,.aP [3]] hs (Pq (ak h1) (ak h1) (ak h1) (ak h1) (aX h2) (ak h1) (cj h3 h4) (ak h1) (wE bM h5) (ak h1) h6 (ak h1) (ak h1) (aF h7) (aX h2) (Le (b:Rs) h8 h9) (Bs bM (b:Rs) u)) hL
theorem AR(b:Rs)(k:Nat)(v:ah)(c:Int){sin:cq}(hs:sin.all (fun p=>Nat.ble fn.ntmps p.1)=true)(hi:sin.all (fun p=>Cw p.1||(cq.get [(0,(.pure ((b:Rs).map ah.cells).flatten))] p.1).isSome)=true)(h1:0<b.length)(h2:aw ((b.length:Int)-1))(h3:((b.length:Int)-1)=(k:Int))(h4:k<b.length)(h5:b[k]? = some v)(h6:Cp 33 [v.pv] (vI c))(h7:c≠0):cz b sin (.row 0 0 b.length 3) [(0,(.pure ((b:Rs).map ah.cells).flatten))] :=
 Kv 156 [1,1,1,1,1,1,2,1,2,1,1,1,1,1] [.a,.ba [.o,.o,.o,.o,.o,.o,.o,(iI ((b.length:Int)-1)),(.nat k),(.Ky [vB v.neg,ag v.num,ag v.den]),(.pv (vI c)),.o,(.dec true)],.f,.q,.l7 17 0,.ord [0]] hs hi (QZ (ak h1) (ak h1) (ak h1) (ak h1) (aX h2) (ak h1) (cj h3 h4) (ak h1) (wE bM h5) (ak h1) h6 (ak h1) (ak h1) (aN h7))
theorem Ol(b:Rs){sin:cq}(hs:sin.all (fun p=>Nat.ble fn.ntmps p.1)=true)(hi:sin.all (fun p=>Cw p.1||(cq.get [(0,(.pure ((b:Rs).map ah.cells).flatten))] p.1).isSome)=true)(h1:b.length≤0):cz b sin (.row 0 0 b.length 3) [(0,(.pure ((b:Rs).map ah.cells).flatten))] :=
 Kv 156 [1,1,1,1,1,1,1,1,1] [.a,.ba [.o,.o,.o,.o,.skip,.skip,.skip,.skip,.skip,.skip,.skip,.skip,(.dec false)],.a,.q,.l7 17 0,.ord [0]] hs hi (y9 (ax h1) (ax h1) (ax h1) (ax h1) (ax h1) (ax h1) (ax h1) (ax h1) (ax h1))
end nP
namespace mV
@[reducible] def fn:Func:=Tryz.f202
def bK:List gC:=focus [0,2,0,0,2,0,2,1,2,0,2,0,0,2,0,0] [.code (aA fn)]
def inv1(p:List ah)(G8:Int)(rV fC:af):St:=⟨[(0,(.pv (ae p))),(3,(.ptr 3 0)),(4,(.ptr 4 0)),(7,(.ptr 7 0)),(8,(eI G8))],[(3,(.lit [(eB rV.lo.neg),(.pv (ag rV.lo.num)),(.pv (ag rV.lo.den)),(eB rV.hi.neg),(.pv (ag rV.hi.num)),(.pv (ag rV.hi.den))])),(4,(.lit [(eB false),(.pv (.list [])),(.pv (.list [])),(eB false),(.pv (.list [])),(.pv (.list []))])),(7,(.lit [(eB fC.lo.neg),(.pv (ag fC.lo.num)),(.pv (ag fC.lo.den)),(eB fC.hi.neg),(.pv (ag fC.hi.num)),(.pv (ag fC.hi.den))]))]⟩
@[reducible] def aj(p:List ah)(G8:Int)(rV fC:af)(r:PV):Prop:=L bT fn bK (inv1 p G8 rV fC) r
theorem e0(p:Rs)(rV:af){r:PV}(h1:Cp 79 [ae p] .aq)(h2:aw ((p.length:Int)-1))(hL:aj p ((p.length:Int)-1) rV (⟨(⟨false,[],[]⟩:ah),(⟨false,[],[]⟩:ah)⟩:af) r):Cp 202 [ae p,rV.pv] r :=
 eG func202 108 [1,1,1] [.q,.h 1 (.pv .aq),.q,.a,.q,.ba [.o,(iI (p.length:Int)),(iI ((p.length:Int)-1))],.aP [0,3,4,7,8],.ord [3,4,7]] (y3 h1 (au ah.cells p) (aX h2)) hL
theorem l10(p:Rs)(b:Int)(rV c:af)(k:Nat)(v:ah)(d:af){r:PV}(h1:0≤b)(h2:aw ((p.length:Int)-1))(h3:b=((p.length:Int)-1))(h4:b=(k:Int))(h5:p[k]? = some v)(h6:Cp 65 [v.pv] d.pv)(h7:aw (b-1))(hL:aj p (b-1) rV d r):aj p b rV c r :=
 lG 162 [1,1,1,1,3,1,1] [.a,.q,.t,.ba [.o,.o,(iI (p.length:Int)),(iI ((p.length:Int)-1))],.t,.ba [.o,.o,(.row k (ah.cells v)),.o,(.pv d.pv)],.h 1 (iI (b-1)),.aP [0,3,4,7,8]] (y7 (jv h1) (au ah.cells p) (aX h2) (aF h3) (bU ah.cells h4 h5) h6 (aX h7)) hL
theorem dw(p:Rs)(b:Int)(rV c d:af)(k:Nat)(v:ah)(g i:af){r:PV}(h1:0≤b)(h2:aw ((p.length:Int)-1))(h3:b≠((p.length:Int)-1))(h4:Cp 257 [c.pv,rV.pv] d.pv)(h5:b=(k:Int))(h6:p[k]? = some v)(h7:Cp 65 [v.pv] g.pv)(h8:Cp 256 [d.pv,g.pv] i.pv)(h9:aw (b-1))(hL:aj p (b-1) rV i r):aj p b rV c r :=
 lG 156 [1,1,1,1,1,3,1,1,1] [.a,.q,.t,.ba [.o,.o,(iI (p.length:Int)),(iI ((p.length:Int)-1))],.f,dr 9 1 [.none,.none,(.pv d.pv),.none,.none,(.row k (ah.cells v)),.none,(.pv g.pv),(.pv i.pv)],.h 1 (iI (b-1)),.aP [0,3,4,7,8]] (y9 (jv h1) (au ah.cells p) (aX h2) (aN h3) h4 (bU ah.cells h5 h6) h7 h8 (aX h9)) hL
theorem ji(p:Rs)(b:Int)(rV c:af)(h1:b<0):aj p b rV c (.aB [c.pv,.aq]) :=
 lD 141 [1] [.a,.q,.f,.q] (y1 (kL h1))
end mV
namespace tc
theorem e0(p:Rs)(i:Int)(k:Nat)(v:ah)(h1:i<(p.length:Int))(h2:i=(k:Int))(h3:p[k]? = some v):Cp 212 [ae p,vI i] v.pv :=
 eD func212 84 [1,1,3] [.q,.h 2 (iI (p.length:Int)),.t,.h 2 (.row k (ah.cells v))] (y3 (au ah.cells p) (dJ h1) (bU ah.cells h2 h3))
theorem e1(p:Rs)(i:Int)(h1:(p.length:Int)≤i):Cp 212 [ae p,vI i] ((⟨false,[],[]⟩:ah).pv) :=
 eD func212 87 [1,1] [.q,.h 2 (iI (p.length:Int)),.f,.q] (y2 (au ah.cells p) (bQ h1))
end tc
namespace Lj
theorem e1(p q b c:Rs)(h1:Cp 125 [(bq (an ah.cells) [p,q])] .aq)(h2:q.length≠0)(h3:Cp 153 [ae p,ae q] (.aB [ae b,ae c])):Cp 236 [ae p,ae q] (.aB [ae b,ae c,.aq]) :=
 eD func236 114 [3,1,1,1,1] [.q,.ba [.o,.o,(.ja 0 0 (([p,q]:List (Rs)).map (an ah.cells))),(.pv .aq)],.q,.a,.h 1 (iI (q.length:Int)),.f,.h 2 (.pv (.aB [ae b,ae c])),.q] (y5 (fP (og ah.cells) ([p,q]:List (Rs))) h1 (au ah.cells q) (aC h2) h3)
end Lj
namespace Hf
theorem e0(p:Rs)(c:ah)(b:Rs)(h1:Cp 79 [ae p] .aq)(h2:Cp 127 [(ae []),ae p,c.pv] (ae b)):Cp 237 [ae p,c.pv] (.aB [ae b,.aq]) :=
 eD func237 93 [1,1] [.q,.h 1 (.pv .aq),.q,.a,.h 2 (.pv (ae b))] (y2 h1 h2)
end Hf
end Go.Proofs.YtllmkadmohkbfaaGreatDoor.Sym.Path
end
