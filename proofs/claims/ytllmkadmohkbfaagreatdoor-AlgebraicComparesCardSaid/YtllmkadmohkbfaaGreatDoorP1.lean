/- Lemmas for the statements of this seat. -/
import Derived.Test.YtllmkadmohkbfaaGreatDoorT0
noncomputable section
namespace Go.Proofs.YtllmkadmohkbfaaGreatDoor.Sym.Path
open Go Tryz
set_option maxRecDepth 20000
set_option linter.unusedVariables false
namespace oS
theorem e0(a b:aI)(c d:Ws)(g i j:Bool)(k:Ws)(l:aI)(h1:Cp 227 [a.pv] (ag c))(h2:Cp 227 [b.pv] (ag d))(h3:Cp 228 [a.pv] (vB g))(h4:Cp 228 [b.pv] (vB i))(h5:g=i)(h6:Cp 228 [a.pv] (vB j))(h7:Cp 230 [ag c,ag d] (ag k))(h8:Cp 229 [vB j,ag k] l.pv):Cp 146 [a.pv,b.pv] l.pv :=
 eD func146 90 [1,1,1,1,1,1,1,1] [.q,dr 4 2 [.none,(.pv (ag c)),.none,(.pv (ag d))],dr 5 0 [.none,(.pv (vB g)),.none,(.pv (vB i))],.t,.ba [.o,(.pv (vB j)),.o,.o,(.pv (ag k)),(.pv l.pv)]] (y8 h1 h2 h3 h4 (wC h5) h6 h7 h8)
theorem e1(a b:aI)(c d:Ws)(g i:Bool)(j:Int)(k:Bool)(l:Ws)(m:aI)(h1:Cp 227 [a.pv] (ag c))(h2:Cp 227 [b.pv] (ag d))(h3:Cp 228 [a.pv] (vB g))(h4:Cp 228 [b.pv] (vB i))(h5:g≠i)(h6:Cp 231 [ag c,ag d] (vI j))(h7:0≤j)(h8:Cp 228 [a.pv] (vB k))(h9:Cp 232 [ag c,ag d] (ag l))(dM:Cp 229 [vB k,ag l] m.pv):Cp 146 [a.pv,b.pv] m.pv :=
 eD func146 105 [1,1,1,1,1,1,1,1,1,1] [.q,dr 4 2 [.none,(.pv (ag c)),.none,(.pv (ag d))],dr 5 0 [.none,(.pv (vB g)),.none,(.pv (vB i))],.f,.h 2 (.pv (vI j)),.t,.ba [.o,(.pv (vB k)),.o,.o,(.pv (ag l)),(.pv m.pv)]] (Iu h1 h2 h3 h4 (Br h5) h6 (jv h7) h8 h9 dM)
theorem e2(a b:aI)(c d:Ws)(g i:Bool)(j:Int)(k:Bool)(l:Ws)(m:aI)(h1:Cp 227 [a.pv] (ag c))(h2:Cp 227 [b.pv] (ag d))(h3:Cp 228 [a.pv] (vB g))(h4:Cp 228 [b.pv] (vB i))(h5:g≠i)(h6:Cp 231 [ag c,ag d] (vI j))(h7:j<0)(h8:Cp 228 [b.pv] (vB k))(h9:Cp 232 [ag d,ag c] (ag l))(dM:Cp 229 [vB k,ag l] m.pv):Cp 146 [a.pv,b.pv] m.pv :=
 eD func146 108 [1,1,1,1,1,1,1,1,1,1] [.q,dr 4 2 [.none,(.pv (ag c)),.none,(.pv (ag d))],dr 5 0 [.none,(.pv (vB g)),.none,(.pv (vB i))],.f,.h 2 (.pv (vI j)),.f,.ba [.o,(.pv (vB k)),.o,.o,(.pv (ag l)),(.pv m.pv)]] (Iu h1 h2 h3 h4 (Br h5) h6 (kL h7) h8 h9 dM)
end oS
namespace wI
theorem e0(a b:aI)(c d:Bool)(g i j:Ws)(k:aI)(h1:Cp 228 [a.pv] (vB c))(h2:Cp 228 [b.pv] (vB d))(h3:Cp 227 [a.pv] (ag g))(h4:Cp 227 [b.pv] (ag i))(h5:Cp 233 [ag g,ag i] (ag j))(h6:Cp 229 [(vB (!(c==d))),ag j] k.pv):Cp 147 [a.pv,b.pv] k.pv :=
 eD func147 72 [1,1,1,1,1,1] [.q,dr 11 1 [.none,(.pv (vB c)),.none,(.pv (vB d)),.none,.none,(.pv (ag g)),.none,(.pv (ag i)),(.pv (ag j)),(.pv k.pv)]] (y6 h1 h2 h3 h4 h5 h6)
end wI
namespace wJ
theorem e0(a:aI)(b:Bool)(c:Ws)(d:aI)(h1:Cp 228 [a.pv] (vB b))(h2:Cp 227 [a.pv] (ag c))(h3:Cp 229 [(vB (!b)),ag c] d.pv):Cp 170 [a.pv] d.pv :=
 eD func170 72 [1,1,1] [.q,dr 6 1 [.none,(.pv (vB b)),.none,.none,(.pv (ag c)),(.pv d.pv)]] (y3 h1 h2 h3)
end wJ
namespace s9
theorem e0(n:Int)(m m1:Nat)(w:UInt32)(z:Nat)(w1:UInt32)(a:aI)(h1:n%18446744073709551616=(m:Int))(h2:n<0)(h3:(0-(m:Int))%18446744073709551616=(m1:Int))(h4:m1%4294967296=w.toNat)(h5:m1/2^(min 32 64)=z)(h6:z%4294967296=w1.toNat)(h7:Cp 229 [(vB (decide (n<0))),(ag [w,w1])] a.pv):Cp 171 [vI n] a.pv :=
 eD func171 93 [1,1,1,1,1,1,3,1] [.q,.h 1 (iU m),.q,.t,.h 1 (iU m1),.ba [.o,.o,.o,iW w,.o,iU z,iW w1,(.ja 0 0 (([w,w1]:Ws).map ai)),(.pv a.pv)]] (y8 (JQ h1) (dJ h2) (GY h3) (gd h4) (gE (k := .u64) h5) (gd h6) (fP cx ([w,w1]:Ws)) h7)
theorem e1(n:Int)(m:Nat)(w:UInt32)(z:Nat)(w1:UInt32)(a:aI)(h1:n%18446744073709551616=(m:Int))(h2:0≤n)(h3:m%4294967296=w.toNat)(h4:m/2^(min 32 64)=z)(h5:z%4294967296=w1.toNat)(h6:Cp 229 [(vB (decide (n<0))),(ag [w,w1])] a.pv):Cp 171 [vI n] a.pv :=
 eD func171 93 [1,1,1,1,1,3,1] [.q,.h 1 (iU m),.q,.f,.ba [.o,.o,.o,iW w,.o,iU z,iW w1,(.ja 0 0 (([w,w1]:Ws).map ai)),(.pv a.pv)]] (y7 (JQ h1) (bQ h2) (gd h3) (gE (k := .u64) h4) (gd h5) (fP cx ([w,w1]:Ws)) h6)
end s9
namespace wK
theorem e0(a b c:aI)(d:Int)(h1:Cp 254 [a.pv,b.pv] c.pv)(h2:Cp 211 [c.pv] (vI d)):Cp 190 [a.pv,b.pv] (vI d) :=
 eD func190 72 [1,1] [.q,.ba [.o,.o,(.pv c.pv),(.pv (vI d))]] (y2 h1 h2)
end wK
namespace wL
theorem e0(a b:aI)(c d g:Ws)(i:aI)(h1:Cp 227 [a.pv] (ag c))(h2:Cp 227 [b.pv] (ag d))(h3:Cp 255 [ag c,ag d] (ag g))(h4:Cp 229 [vB false,ag g] i.pv):Cp 191 [a.pv,b.pv] i.pv :=
 eD func191 72 [1,1,1,1] [.q,dr 6 1 [.none,(.pv (ag c)),.none,(.pv (ag d)),(.pv (ag g)),(.pv i.pv)]] (y4 h1 h2 h3 h4)
end wL
namespace nM
theorem e0(a:aI)(b:Ws)(h1:Cp 227 [a.pv] (ag b))(h2:b.length=0):Cp 211 [a.pv] (vI 0) :=
 eD func211 84 [1,1,1] [.q,.ba [.o,(.pv (ag b)),(iI (b.length:Int))],.t,.q] (y3 h1 (au ai b) (aL h2))
theorem e1(a:aI)(b:Ws)(c:Bool)(h1:Cp 227 [a.pv] (ag b))(h2:b.length≠0)(h3:Cp 228 [a.pv] (vB c))(h4:c=true):Cp 211 [a.pv] (vI (-1)) :=
 eD func211 99 [1,1,1,1,1] [.q,.ba [.o,(.pv (ag b)),(iI (b.length:Int))],.f,.h 1 (.pv (vB c)),.t,.q] (y5 h1 (au ai b) (aC h2) h3 h4)
theorem e2(a:aI)(b:Ws)(c:Bool)(h1:Cp 227 [a.pv] (ag b))(h2:b.length≠0)(h3:Cp 228 [a.pv] (vB c))(h4:c=false):Cp 211 [a.pv] (vI 1) :=
 eD func211 102 [1,1,1,1,1] [.q,.ba [.o,(.pv (ag b)),(iI (b.length:Int))],.f,.h 1 (.pv (vB c)),.f,.q] (y5 h1 (au ai b) (aC h2) h3 h4)
end nM
namespace oT
@[reducible] def fn:Func:=Tryz.f223
theorem S5(a b:aI)(fS div Xr:List UInt32)(neg:Bool)(plu Xs Xt:List UInt32):uu bT lz fn.ntmps (br (focus [0,2,0,0,2,1,2,0,2,0,0,2,0] [.code (aA fn)])) (kW (br (focus [0,2,0,0,2,1,2,0,2,0,0,2,0] [.code (aA fn)])) [0,5]) (iL (br (focus [0,2,0,0,2,1,2,0,2,0,0,2,0] [.code (aA fn)])) [0,5]) [.none,(.ja 0 0 (([(1:UInt32)]:List UInt32).map ai)),(.pv (ag plu)),.none,(.pv (ag Xs)),.none,(.pv (ag Xt)),.none,.none] (wB lz fn.ntmps (br (focus [0,2,0,0,2,1,2,0,2,0,0,2,0] [.code (aA fn)])) [0,5] ⟨[(2,(.ptr 2 0)),(3,(.ptr 3 0)),(4,(.ptr 4 0)),(5,(.ptr 5 0)),(7,(.pv (ag div))),(8,(.pv (ag Xr)))],[(5,(.lit [(eB false),(.pv (.list []))])),(4,(.lit [(eB false),(.pv (.list []))])),(3,(.lit [(eB b.neg),(.pv (ag b.fS))])),(2,(.lit [(eB a.neg),(.pv (ag a.fS))]))]⟩)=uv bT lz fn.ntmps (br (focus [0,2,0,0,2,1,2,0,2,0,0,2,0] [.code (aA fn)])) (kW (br (focus [0,2,0,0,2,1,2,0,2,0,0,2,0] [.code (aA fn)])) [0,5]) (iL (br (focus [0,2,0,0,2,1,2,0,2,0,0,2,0] [.code (aA fn)])) [0,5]) [.none,(.ja 0 0 (([(1:UInt32)]:List UInt32).map ai)),(.pv (ag plu)),.none,(.pv (ag Xs)),.none,(.pv (ag Xt)),.none,.none] (wB lz fn.ntmps (br (focus [0,2,0,0,2,1,2,0,2,0,0,2,0] [.code (aA fn)])) [0,5] ⟨[(2,(.ptr 2 0)),(3,(.ptr 3 0)),(4,(.ptr 4 0)),(5,(.ptr 5 0)),(7,(.pv (ag div))),(8,(.pv (ag Xr)))],[(5,(.lit [(eB false),(.pv (.list []))])),(4,(.lit [(eB false),(.pv (.list []))])),(3,(.lit [(eB b.neg),(.pv (ag b.fS))])),(2,(.lit [(eB a.neg),(.pv (ag a.fS))]))]⟩):=by kernel_rfl
theorem e1(a b:aI)(c:Int)(d g i j:Ws)(k:Bool)(l m n:Ws)(p s:Bool)(u v:aI)(h1:Cp 211 [b.pv] (vI c))(h2:c≠0)(h3:Cp 227 [a.pv] (ag d))(h4:Cp 227 [b.pv] (ag g))(h5:Cp 274 [ag d,ag g] (.aB [ag i,ag j]))(h6:Cp 228 [a.pv] (vB k))(h7:k=true)(h8:0<j.length)(h9:Cp 230 [ag i,(ag [(1:UInt32)])] (ag l))(dM:Cp 227 [b.pv] (ag m))(gy:Cp 232 [ag m,ag j] (ag n))(j8:Cp 228 [a.pv] (vB p))(nK:Cp 228 [b.pv] (vB s))(l9:Cp 229 [(vB (!(p==s))),ag l] u.pv)(om:Cp 229 [vB false,ag n] v.pv):Cp 223 [a.pv,b.pv] (.aB [u.pv,v.pv,vI 0]) :=
 eD func223 108 [1,1,1,1,1,1,1,1,1,1,1,1,3,1,1,1,1,1,1,1,1] [.q,.h 1 (.pv (vI c)),.f,dr 9 1 [.none,(.pv (ag d)),.none,(.pv (ag g)),(.pv (.aB [ag i,ag j]))],.ba [.o,(.pv (vB k)),.o,.o,(iI (j.length:Int)),.o,(.dec true)],.t,.aP [2,3,4,5,7,8],.any [0,5] [.none,(.ja 0 0 (([(1:UInt32)]:Ws).map ai)),(.pv (ag l)),.none,(.pv (ag m)),.none,(.pv (ag n)),.none,.none],dr 9 3 [.none,(.pv (vB p)),.none,(.pv (vB s)),.none,.none,(.pv u.pv),.none,(.pv v.pv)]] (Xm h1 (aN h2) h3 h4 h5 h6 h7 h7 (au ai j) h7 h7 (ak h8) (fP cx ([(1:UInt32)]:Ws)) h9 dM gy (S5 a b d i j k l m n) j8 nK l9 om)
theorem e2(a b:aI)(c:Int)(d g i j:Ws)(k l m:Bool)(n p:aI)(h1:Cp 211 [b.pv] (vI c))(h2:c≠0)(h3:Cp 227 [a.pv] (ag d))(h4:Cp 227 [b.pv] (ag g))(h5:Cp 274 [ag d,ag g] (.aB [ag i,ag j]))(h6:Cp 228 [a.pv] (vB k))(h7:k=true)(h8:j.length≤0)(h9:Cp 228 [a.pv] (vB l))(dM:Cp 228 [b.pv] (vB m))(gy:Cp 229 [(vB (!(l==m))),ag i] n.pv)(j8:Cp 229 [vB false,ag j] p.pv):Cp 223 [a.pv,b.pv] (.aB [n.pv,p.pv,vI 0]) :=
 eD func223 108 [1,1,1,1,1,1,1,1,1,1,1,1,1,1,1,1] [.q,.h 1 (.pv (vI c)),.f,dr 9 1 [.none,(.pv (ag d)),.none,(.pv (ag g)),(.pv (.aB [ag i,ag j]))],.ba [.o,(.pv (vB k)),.o,.o,(iI (j.length:Int)),.o,(.dec true)],.f,dr 9 3 [.none,(.pv (vB l)),.none,(.pv (vB m)),.none,.none,(.pv n.pv),.none,(.pv p.pv)]] (Cz h1 (aN h2) h3 h4 h5 h6 h7 h7 (au ai j) h7 h7 (ax h8) h9 dM gy j8)
theorem e3(a b:aI)(c:Int)(d g i j:Ws)(k l m:Bool)(n p:aI)(h1:Cp 211 [b.pv] (vI c))(h2:c≠0)(h3:Cp 227 [a.pv] (ag d))(h4:Cp 227 [b.pv] (ag g))(h5:Cp 274 [ag d,ag g] (.aB [ag i,ag j]))(h6:Cp 228 [a.pv] (vB k))(h7:k=false)(h8:Cp 228 [a.pv] (vB l))(h9:Cp 228 [b.pv] (vB m))(dM:Cp 229 [(vB (!(l==m))),ag i] n.pv)(gy:Cp 229 [vB false,ag j] p.pv):Cp 223 [a.pv,b.pv] (.aB [n.pv,p.pv,vI 0]) :=
 eD func223 108 [1,1,1,1,1,1,1,1,1,1,1,1,1,1] [.q,.h 1 (.pv (vI c)),.f,dr 9 1 [.none,(.pv (ag d)),.none,(.pv (ag g)),(.pv (.aB [ag i,ag j]))],.ba [.o,(.pv (vB k)),.o,.skip,.skip,.skip,(.dec false)],.a,dr 9 3 [.none,(.pv (vB l)),.none,(.pv (vB m)),.none,.none,(.pv n.pv),.none,(.pv p.pv)]] (QZ h1 (aN h2) h3 h4 h5 h6 h7 h7 h7 h7 h8 h9 dM gy)
end oT
namespace rZ
theorem e0(a:aI)(b:Bool)(h1:Cp 276 [a.pv] (vB b))(h2:b=false):Cp 227 [a.pv] (ag []) :=
 eD func227 84 [1,1] [.q,.h 1 (.pv (vB b)),.t,.q] (y2 h1 (bB h2))
theorem e1(a:aI)(b:Bool)(h1:Cp 276 [a.pv] (vB b))(h2:b=true):Cp 227 [a.pv] (ag a.fS) :=
 eD func227 87 [1,1] [.q,.h 1 (.pv (vB b)),.f,.q] (y2 h1 (ay h2))
end rZ
namespace r4
theorem e0(a:aI)(b:Bool)(h1:Cp 276 [a.pv] (vB b))(h2:b=true):Cp 228 [a.pv] (vB a.neg) :=
 eD func228 72 [1,1,1,1] [.q,.ba [.o,(.pv (vB b)),.o,.o,.o,(.dec true)]] (y4 h1 h2 h2 h2)
theorem e1(a:aI)(b:Bool)(h1:Cp 276 [a.pv] (vB b))(h2:b=false):Cp 228 [a.pv] (vB false) :=
 eD func228 72 [1,1,1,1] [.q,.ba [.o,(.pv (vB b)),.o,.skip,.skip,(.dec false)]] (y4 h1 h2 h2 h2)
end r4
namespace re
theorem e0(a:Bool)(m b:Ws)(h1:Cp 277 [ag m] (ag b))(h2:b.length=0):Cp 229 [vB a,ag m] ((⟨false,[]⟩:aI).pv) :=
 eD func229 90 [1,1,1] [.q,.h 1 (.pv (ag b)),.h 1 (iI (b.length:Int)),.t,.q] (y3 h1 (au ai b) (aL h2))
theorem e1(a:Bool)(m b:Ws)(h1:Cp 277 [ag m] (ag b))(h2:b.length≠0):Cp 229 [vB a,ag m] ((⟨a,b⟩:aI).pv) :=
 eD func229 93 [1,1,1] [.q,.h 1 (.pv (ag b)),.h 1 (iI (b.length:Int)),.f,.q] (y3 h1 (au ai b) (aC h2))
end re
namespace lJ
@[reducible] def fn:Func:=Tryz.f230
def bK:List gC:=focus [0,2,0,2,0,2,0,0,2,0,0] [.code (aA fn)]
def inv1(a b FP:List UInt32)(yA BT:Nat):St:=⟨[(0,(.pv (ag a))),(1,(.pv (ag b))),(5,(.row 31 0 FP.length 1)),(6,(eU yA)),(14,(eI ((((max a.length b.length)+1):Nat):Int))),(15,(eI (BT:Int)))],[(31,(.pure ((FP:List UInt32).map ai).flatten))]⟩
@[reducible] def aj(a b FP:List UInt32)(yA BT:Nat)(r:PV):Prop:=L bT fn bK (inv1 a b FP yA BT) r
theorem e0(a b:Ws){r:PV}(h1:((max a.length b.length)+1)<9223372036854775808)(hL:aj a b [] 0 0 r):Cp 230 [ag a,ag b] r :=
 eG func230 93 [1,1,1,1] [.q,.h 0 .nil,.ju 5 31 1,.q,.ba [.o,(iI (a.length:Int)),.o,(iI (b.length:Int)),(iI (((max a.length b.length):Nat):Int)),(iI ((((max a.length b.length)+1):Nat):Int))],.aP [0,1,5,6,14,15]] (y4 (au ai a) (au ai b) (BO a.length b.length) (aR h1)) hL
theorem l10(a b c:Ws)(d g i j s s1:Nat)(w:UInt32)(z:Nat){r:PV}(h1:g<((max a.length b.length)+1))(h2:Cp 278 [ag a,(vI (g:Int))] (vU i))(h3:Cp 278 [ag b,(vI (g:Int))] (vU j))(h4:(i+j)%18446744073709551616=s)(h5:(s+d)%18446744073709551616=s1)(h6:s1%4294967296=w.toNat)(h7:((c++[w]):Ws).length*4≤140737488355328)(h8:s1/2^(min 32 64)=z)(h9:(g+1)<9223372036854775808)(hL:aj a b (c++[w]) z (g+1) r):aj a b c d g r :=
 lG 138 [1,1,1,1,1,1,6,1,1] [.a,.q,.t,.q,.ba [.o,.o,(.pv (vU i)),.o,.o,(.pv (vU j)),iU s,.o,iU s1],.ba [.o,.o,iW w,.o,(.app ((c++[w]):Ws).length (((c++[w]):Ws).map ai).flatten),.o,iU z],.h 0 (iI (((g+1):Nat):Int)),.aP [0,1,5,6,14,15],.drop [30]] (y9 (ak h1) h2 h3 (iP h4) (iP h5) (gd h6) (gm cx (c:Ws) ([w]:Ws) 4 (Eq.refl (c:Ws).length) (Eq.refl ([w]:Ws).length) h7 rfl) (gE (k := .u64) h8) (aR h9)) hL
theorem dw(a b c:Ws)(d g:Nat)(i:Ws)(h1:((max a.length b.length)+1)≤g)(h2:Cp 277 [ag c] (ag i)):aj a b c d g (ag i) :=
 lD 126 [1,3,1] [.a,.q,.f,.iZ 5 ((c:Ws).map ai),.h 1 (.pv (ag i))] (y3 (ax h1) (eR cx (c:Ws) (Eq.refl (c:Ws).length)) h2)
end lJ
namespace gY
@[reducible] def fn:Func:=Tryz.f231
def bK:List gC:=focus [0,2,0,0,2,0,0] [.code (aA fn)]
def inv1(a b:List UInt32)(G7:Int):St:=⟨[(0,(.pv (ag a))),(1,(.pv (ag b))),(5,(eI G7))],[]⟩
@[reducible] def aj(a b:List UInt32)(G7:Int)(r:PV):Prop:=L bT fn bK (inv1 a b G7) r
theorem e0(a b:Ws){r:PV}(h1:aw ((((max a.length b.length):Nat):Int)-1))(hL:aj a b ((((max a.length b.length):Nat):Int)-1) r):Cp 231 [ag a,ag b] r :=
 eG func231 81 [1,1,1,1] [.q,.ba [.o,(iI (a.length:Int)),.o,(iI (b.length:Int)),(iI (((max a.length b.length):Nat):Int)),(iI ((((max a.length b.length):Nat):Int)-1))],.aP [0,1,5]] (y4 (au ai a) (au ai b) (BO a.length b.length) (aX h1)) hL
theorem l10(a b:Ws)(c:Int)(d g i j:Nat)(h1:0≤c)(h2:Cp 278 [ag a,vI c] (vU d))(h3:Cp 278 [ag b,vI c] (vU g))(h4:d≠g)(h5:Cp 278 [ag a,vI c] (vU i))(h6:Cp 278 [ag b,vI c] (vU j))(h7:i<j):aj a b c (vI (-1)) :=
 lD 132 [1,1,1,1,1,1,1] [.a,.q,.t,.ba [.o,.o,(.pv (vU d)),.o,.o,(.pv (vU g))],.t,.ba [.o,.o,(.pv (vU i)),.o,.o,(.pv (vU j))],.t,.q] (y7 (jv h1) h2 h3 (nH h4) h5 h6 (ak h7))
theorem dw(a b:Ws)(c:Int)(d g i j:Nat)(h1:0≤c)(h2:Cp 278 [ag a,vI c] (vU d))(h3:Cp 278 [ag b,vI c] (vU g))(h4:d≠g)(h5:Cp 278 [ag a,vI c] (vU i))(h6:Cp 278 [ag b,vI c] (vU j))(h7:j≤i):aj a b c (vI 1) :=
 lD 135 [1,1,1,1,1,1,1] [.a,.q,.t,.ba [.o,.o,(.pv (vU d)),.o,.o,(.pv (vU g))],.t,.ba [.o,.o,(.pv (vU i)),.o,.o,(.pv (vU j))],.f,.q] (y7 (jv h1) h2 h3 (nH h4) h5 h6 (ax h7))
theorem ji(a b:Ws)(c:Int)(d g:Nat){r:PV}(h1:0≤c)(h2:Cp 278 [ag a,vI c] (vU d))(h3:Cp 278 [ag b,vI c] (vU g))(h4:d=g)(h5:aw (c-1))(hL:aj a b (c-1) r):aj a b c r :=
 lG 123 [1,1,1,1,1] [.a,.q,.t,.ba [.o,.o,(.pv (vU d)),.o,.o,(.pv (vU g))],.f,.h 1 (iI (c-1)),.aP [0,1,5]] (y5 (jv h1) h2 h3 (gj h4) (aX h5)) hL
theorem oK(a b:Ws)(c:Int)(h1:c<0):aj a b c (vI 0) :=
 lD 114 [1] [.a,.q,.f,.q] (y1 (kL h1))
end gY
namespace gF
@[reducible] def fn:Func:=Tryz.f231
def bK:List gC:=focus [0,2,0,0,2,0,0] [.code (aA fn)]
def inv1(len:Nat)(b:List UInt32)(G7:Int)(dN:List UInt32):St:=⟨[(0,(.row 100000 0 len 1)),(1,(.pv (ag b))),(5,(eI G7))],[(100000,(.pure ((dN:List UInt32).map ai).flatten))]⟩
@[reducible] def aj(len:Nat)(b:List UInt32)(G7:Int)(dN:List UInt32)(sin:cq)(r:EV)(sout:cq):Prop:=LX bT fn bK (inv1 len b G7 dN) sin r sout
theorem e0(a:Ws)(c:Nat)(b:Ws){r:EV}{sout:cq}(h1:aw ((((max c b.length):Nat):Int)-1))(hL:aj c b ((((max c b.length):Nat):Int)-1) a [(100000,(.pure ((a:Ws).map ai).flatten))] r sout):av bT 231 [(.row 100000 0 c 1),(.pv (ag b))] [(100000,(.pure ((a:Ws).map ai).flatten))] r sout :=
 QY func231 81 [1,1,1] [.q,.ba [.o,.o,.o,(iI (b.length:Int)),(iI (((max c b.length):Nat):Int)),(iI ((((max c b.length):Nat):Int)-1))],.aP [0,1,5]] (y3 (au ai b) (BO c b.length) (aX h1)) hL
theorem l10(c:Nat)(b:Ws)(d:Int)(g z:Ws)(i j:Nat)(z1:Ws)(k l:Nat){sin:cq}(hs:sin.all (fun p=>Nat.ble fn.ntmps p.1)=true)(hi:sin.all (fun p=>Cw p.1||(cq.get [(100000,(.pure ((z1:Ws).map ai).flatten))] p.1).isSome)=true)(h1:0≤d)(h2:av bT 278 [.row 100000 0 c 1,.pv (vI d)] [(100000,(.pure ((g:Ws).map ai).flatten))] (.pv (vU i)) [(100000,(.pure ((z:Ws).map ai).flatten))])(h3:Cp 278 [ag b,vI d] (vU j))(h4:i≠j)(h5:av bT 278 [.row 100000 0 c 1,.pv (vI d)] [(100000,(.pure ((z:Ws).map ai).flatten))] (.pv (vU k)) [(100000,(.pure ((z1:Ws).map ai).flatten))])(h6:Cp 278 [ag b,vI d] (vU l))(h7:k<l):aj c b d g sin (.pv (vI (-1))) [(100000,(.pure ((z1:Ws).map ai).flatten))] :=
 Kv 132 [1,1,1,1,1,1,1] [.a,.q,.t,.ba [.o,.o,(.bI [(100000,100000)] none (.pv (vU i)) [(100000,(.pure ((z:Ws).map ai).flatten))]),.o,.o,(.pv (vU j))],.t,.ba [.o,.o,(.bI [(100000,100000)] none (.pv (vU k)) [(100000,(.pure ((z1:Ws).map ai).flatten))]),.o,.o,(.pv (vU l))],.t,.q,.ord [100000]] hs hi (y7 (jv h1) h2 h3 (nH h4) h5 h6 (ak h7))
theorem dw(c:Nat)(b:Ws)(d:Int)(g z:Ws)(i j:Nat)(z1:Ws)(k l:Nat){sin:cq}(hs:sin.all (fun p=>Nat.ble fn.ntmps p.1)=true)(hi:sin.all (fun p=>Cw p.1||(cq.get [(100000,(.pure ((z1:Ws).map ai).flatten))] p.1).isSome)=true)(h1:0≤d)(h2:av bT 278 [.row 100000 0 c 1,.pv (vI d)] [(100000,(.pure ((g:Ws).map ai).flatten))] (.pv (vU i)) [(100000,(.pure ((z:Ws).map ai).flatten))])(h3:Cp 278 [ag b,vI d] (vU j))(h4:i≠j)(h5:av bT 278 [.row 100000 0 c 1,.pv (vI d)] [(100000,(.pure ((z:Ws).map ai).flatten))] (.pv (vU k)) [(100000,(.pure ((z1:Ws).map ai).flatten))])(h6:Cp 278 [ag b,vI d] (vU l))(h7:l≤k):aj c b d g sin (.pv (vI 1)) [(100000,(.pure ((z1:Ws).map ai).flatten))] :=
 Kv 135 [1,1,1,1,1,1,1] [.a,.q,.t,.ba [.o,.o,(.bI [(100000,100000)] none (.pv (vU i)) [(100000,(.pure ((z:Ws).map ai).flatten))]),.o,.o,(.pv (vU j))],.t,.ba [.o,.o,(.bI [(100000,100000)] none (.pv (vU k)) [(100000,(.pure ((z1:Ws).map ai).flatten))]),.o,.o,(.pv (vU l))],.f,.q,.ord [100000]] hs hi (y7 (jv h1) h2 h3 (nH h4) h5 h6 (ax h7))
theorem ji(c:Nat)(b:Ws)(d:Int)(g z:Ws)(i j:Nat){r:EV}{sout:cq}{sin:cq}(hs:sin.all (fun p=>Nat.ble fn.ntmps p.1)=true)(h1:0≤d)(h2:av bT 278 [.row 100000 0 c 1,.pv (vI d)] [(100000,(.pure ((g:Ws).map ai).flatten))] (.pv (vU i)) [(100000,(.pure ((z:Ws).map ai).flatten))])(h3:Cp 278 [ag b,vI d] (vU j))(h4:i=j)(h5:aw (d-1))(hL:aj c b (d-1) z sin r sout):aj c b d g sin r sout :=
 Po 123 [1,1,1,1,1] [.a,.q,.t,.ba [.o,.o,(.bI [(100000,100000)] none (.pv (vU i)) [(100000,(.pure ((z:Ws).map ai).flatten))]),.o,.o,(.pv (vU j))],.f,.h 1 (iI (d-1)),.aP [0,1,5]] hs (y5 (jv h1) h2 h3 (gj h4) (aX h5)) hL
theorem oK(c:Nat)(b:Ws)(d:Int)(g:Ws){sin:cq}(hs:sin.all (fun p=>Nat.ble fn.ntmps p.1)=true)(hi:sin.all (fun p=>Cw p.1||(cq.get [(100000,(.pure ((g:Ws).map ai).flatten))] p.1).isSome)=true)(h1:d<0):aj c b d g sin (.pv (vI 0)) [(100000,(.pure ((g:Ws).map ai).flatten))] :=
 Kv 114 [1] [.a,.q,.f,.q,.ord [100000]] hs hi (y1 (kL h1))
end gF
namespace gn
@[reducible] def fn:Func:=Tryz.f231
def bK:List gC:=focus [0,2,0,0,2,0,0] [.code (aA fn)]
def inv1(len vj:Nat)(G7:Int)(dN po:List UInt32):St:=⟨[(0,(.row 100000 0 len 1)),(1,(.row 100001 0 vj 1)),(5,(eI G7))],[(100000,(.pure ((dN:List UInt32).map ai).flatten)),(100001,(.pure ((po:List UInt32).map ai).flatten))]⟩
@[reducible] def aj(len vj:Nat)(G7:Int)(dN po:List UInt32)(sin:cq)(r:EV)(sout:cq):Prop:=LX bT fn bK (inv1 len vj G7 dN po) sin r sout
theorem e0(a:Ws)(c:Nat)(b:Ws)(d:Nat){r:EV}{sout:cq}(h1:aw ((((max c d):Nat):Int)-1))(hL:aj c d ((((max c d):Nat):Int)-1) a b [(100000,(.pure ((a:Ws).map ai).flatten)),(100001,(.pure ((b:Ws).map ai).flatten))] r sout):av bT 231 [(.row 100000 0 c 1),(.row 100001 0 d 1)] [(100000,(.pure ((a:Ws).map ai).flatten)),(100001,(.pure ((b:Ws).map ai).flatten))] r sout :=
 QY func231 81 [1,1] [.q,.ba [.o,.o,.o,.o,(iI (((max c d):Nat):Int)),(iI ((((max c d):Nat):Int)-1))],.aP [0,1,5]] (y2 (BO c d) (aX h1)) hL
theorem l10(b c:Nat)(d:Int)(g i z:Ws)(j:Nat)(z1:Ws)(k:Nat)(z2:Ws)(l:Nat)(z3:Ws)(m:Nat){sin:cq}(hs:sin.all (fun p=>Nat.ble fn.ntmps p.1)=true)(hi:sin.all (fun p=>Cw p.1||(cq.get [(100000,(.pure ((z2:Ws).map ai).flatten)),(100001,(.pure ((z3:Ws).map ai).flatten))] p.1).isSome)=true)(h1:0≤d)(h2:av bT 278 [.row 100000 0 b 1,.pv (vI d)] [(100000,(.pure ((g:Ws).map ai).flatten))] (.pv (vU j)) [(100000,(.pure ((z:Ws).map ai).flatten))])(h3:av bT 278 [.row 100000 0 c 1,.pv (vI d)] [(100000,(.pure ((i:Ws).map ai).flatten))] (.pv (vU k)) [(100000,(.pure ((z1:Ws).map ai).flatten))])(h4:j≠k)(h5:av bT 278 [.row 100000 0 b 1,.pv (vI d)] [(100000,(.pure ((z:Ws).map ai).flatten))] (.pv (vU l)) [(100000,(.pure ((z2:Ws).map ai).flatten))])(h6:av bT 278 [.row 100000 0 c 1,.pv (vI d)] [(100000,(.pure ((z1:Ws).map ai).flatten))] (.pv (vU m)) [(100000,(.pure ((z3:Ws).map ai).flatten))])(h7:l<m):aj b c d g i sin (.pv (vI (-1))) [(100000,(.pure ((z2:Ws).map ai).flatten)),(100001,(.pure ((z3:Ws).map ai).flatten))] :=
 Kv 132 [1,1,1,1,1,1,1] [.a,.q,.t,.ba [.o,.o,(.bI [(100000,100000)] none (.pv (vU j)) [(100000,(.pure ((z:Ws).map ai).flatten))]),.o,.o,(.bI [(100001,100000)] none (.pv (vU k)) [(100000,(.pure ((z1:Ws).map ai).flatten))])],.t,.ba [.o,.o,(.bI [(100000,100000)] none (.pv (vU l)) [(100000,(.pure ((z2:Ws).map ai).flatten))]),.o,.o,(.bI [(100001,100000)] none (.pv (vU m)) [(100000,(.pure ((z3:Ws).map ai).flatten))])],.t,.q,.ord [100000,100001]] hs hi (y7 (jv h1) h2 h3 (nH h4) h5 h6 (ak h7))
theorem dw(b c:Nat)(d:Int)(g i z:Ws)(j:Nat)(z1:Ws)(k:Nat)(z2:Ws)(l:Nat)(z3:Ws)(m:Nat){sin:cq}(hs:sin.all (fun p=>Nat.ble fn.ntmps p.1)=true)(hi:sin.all (fun p=>Cw p.1||(cq.get [(100000,(.pure ((z2:Ws).map ai).flatten)),(100001,(.pure ((z3:Ws).map ai).flatten))] p.1).isSome)=true)(h1:0≤d)(h2:av bT 278 [.row 100000 0 b 1,.pv (vI d)] [(100000,(.pure ((g:Ws).map ai).flatten))] (.pv (vU j)) [(100000,(.pure ((z:Ws).map ai).flatten))])(h3:av bT 278 [.row 100000 0 c 1,.pv (vI d)] [(100000,(.pure ((i:Ws).map ai).flatten))] (.pv (vU k)) [(100000,(.pure ((z1:Ws).map ai).flatten))])(h4:j≠k)(h5:av bT 278 [.row 100000 0 b 1,.pv (vI d)] [(100000,(.pure ((z:Ws).map ai).flatten))] (.pv (vU l)) [(100000,(.pure ((z2:Ws).map ai).flatten))])(h6:av bT 278 [.row 100000 0 c 1,.pv (vI d)] [(100000,(.pure ((z1:Ws).map ai).flatten))] (.pv (vU m)) [(100000,(.pure ((z3:Ws).map ai).flatten))])(h7:m≤l):aj b c d g i sin (.pv (vI 1)) [(100000,(.pure ((z2:Ws).map ai).flatten)),(100001,(.pure ((z3:Ws).map ai).flatten))] :=
 Kv 135 [1,1,1,1,1,1,1] [.a,.q,.t,.ba [.o,.o,(.bI [(100000,100000)] none (.pv (vU j)) [(100000,(.pure ((z:Ws).map ai).flatten))]),.o,.o,(.bI [(100001,100000)] none (.pv (vU k)) [(100000,(.pure ((z1:Ws).map ai).flatten))])],.t,.ba [.o,.o,(.bI [(100000,100000)] none (.pv (vU l)) [(100000,(.pure ((z2:Ws).map ai).flatten))]),.o,.o,(.bI [(100001,100000)] none (.pv (vU m)) [(100000,(.pure ((z3:Ws).map ai).flatten))])],.f,.q,.ord [100000,100001]] hs hi (y7 (jv h1) h2 h3 (nH h4) h5 h6 (ax h7))
theorem ji(b c:Nat)(d:Int)(g i z:Ws)(j:Nat)(z1:Ws)(k:Nat){r:EV}{sout:cq}{sin:cq}(hs:sin.all (fun p=>Nat.ble fn.ntmps p.1)=true)(h1:0≤d)(h2:av bT 278 [.row 100000 0 b 1,.pv (vI d)] [(100000,(.pure ((g:Ws).map ai).flatten))] (.pv (vU j)) [(100000,(.pure ((z:Ws).map ai).flatten))])(h3:av bT 278 [.row 100000 0 c 1,.pv (vI d)] [(100000,(.pure ((i:Ws).map ai).flatten))] (.pv (vU k)) [(100000,(.pure ((z1:Ws).map ai).flatten))])(h4:j=k)(h5:aw (d-1))(hL:aj b c (d-1) z z1 sin r sout):aj b c d g i sin r sout :=
 Po 123 [1,1,1,1,1] [.a,.q,.t,.ba [.o,.o,(.bI [(100000,100000)] none (.pv (vU j)) [(100000,(.pure ((z:Ws).map ai).flatten))]),.o,.o,(.bI [(100001,100000)] none (.pv (vU k)) [(100000,(.pure ((z1:Ws).map ai).flatten))])],.f,.h 1 (iI (d-1)),.aP [0,1,5]] hs (y5 (jv h1) h2 h3 (gj h4) (aX h5)) hL
theorem oK(b c:Nat)(d:Int)(g i:Ws){sin:cq}(hs:sin.all (fun p=>Nat.ble fn.ntmps p.1)=true)(hi:sin.all (fun p=>Cw p.1||(cq.get [(100000,(.pure ((g:Ws).map ai).flatten)),(100001,(.pure ((i:Ws).map ai).flatten))] p.1).isSome)=true)(h1:d<0):aj b c d g i sin (.pv (vI 0)) [(100000,(.pure ((g:Ws).map ai).flatten)),(100001,(.pure ((i:Ws).map ai).flatten))] :=
 Kv 114 [1] [.a,.q,.f,.q,.ord [100000,100001]] hs hi (y1 (kL h1))
end gn
namespace kX
@[reducible] def fn:Func:=Tryz.f232
def bK:List gC:=focus [0,2,0,2,0,2,0,0,2,0,0] [.code (aA fn)]
def inv1(a b jE:List UInt32)(vh MY:Nat):St:=⟨[(0,(.pv (ag a))),(1,(.pv (ag b))),(5,(.row 28 0 jE.length 1)),(6,(eU vh)),(10,(eI (a.length:Int))),(11,(eI (MY:Int)))],[(28,(.pure ((jE:List UInt32).map ai).flatten))]⟩
@[reducible] def aj(a b jE:List UInt32)(vh MY:Nat)(r:PV):Prop:=L bT fn bK (inv1 a b jE vh MY) r
theorem e0 (a b : Ws) {r : PV}  (hL : aj a b [] 0 0 r) : Cp 232 [ag a, ag b] r :=
 eG func232 93 [1] [.q,.h 0 .nil,.ju 5 28 1,.q,.h 1 (iI (a.length:Int)),.aP [0,1,5,6,10,11]] (y1 (au ai a)) hL
theorem l10(a b c:Ws)(g i j s l d d1:Nat)(w:UInt32)(z d2:Nat){r:PV}(h1:i<a.length)(h2:Cp 278 [ag a,(vI (i:Int))] (vU j))(h3:(4294967296+j)%18446744073709551616=s)(h4:Cp 278 [ag b,(vI (i:Int))] (vU l))(h5:((s:Nat)-(l:Nat):Int)%18446744073709551616=(d:Int))(h6:((d:Nat)-(g:Nat):Int)%18446744073709551616=(d1:Int))(h7:d1%4294967296=w.toNat)(h8:((c++[w]):Ws).length*4≤140737488355328)(h9:d1/2^(min 32 64)=z)(dM:((1:Nat)-(z:Nat):Int)%18446744073709551616=(d2:Int))(gy:(i+1)<9223372036854775808)(hL:aj a b (c++[w]) d2 (i+1) r):aj a b c g i r :=
 lG 138 [1,1,1,1,1,1,1,6,1,1,1] [.a,.q,.t,.q,.ba [.o,.o,(.pv (vU j)),iU s,.o,.o,(.pv (vU l)),iU d,.o,iU d1],.ba [.o,.o,iW w,.o,(.app ((c++[w]):Ws).length (((c++[w]):Ws).map ai).flatten),.o,iU z,iU d2],.h 0 (iI (((i+1):Nat):Int)),.aP [0,1,5,6,10,11],.drop [27]] (FO (ak h1) h2 (iP h3) h4 (ir h5) (ir h6) (gd h7) (gm cx (c:Ws) ([w]:Ws) 4 (Eq.refl (c:Ws).length) (Eq.refl ([w]:Ws).length) h8 rfl) (gE (k := .u64) h9) (ir dM) (aR gy)) hL
theorem dw(a b c:Ws)(d g:Nat)(i:Ws)(h1:a.length≤g)(h2:Cp 277 [ag c] (ag i)):aj a b c d g (ag i) :=
 lD 126 [1,3,1] [.a,.q,.f,.iZ 5 ((c:Ws).map ai),.h 1 (.pv (ag i))] (y3 (ax h1) (eR cx (c:Ws) (Eq.refl (c:Ws).length)) h2)
end kX
namespace gf
@[reducible] def fn:Func:=Tryz.f233
def bK:List gC:=focus [0,2,0,2,0,0,2,0,0] [.code (aA fn)]
def inv1(a b:List UInt32)(MZ:Nat)(nN:List UInt32):St:=⟨[(0,(.pv (ag a))),(1,(.pv (ag b))),(5,(.row 15 0 (a.length+b.length) 1)),(17,(eI (a.length:Int))),(18,(eI (MZ:Int)))],[(15,(.pure ((nN:List UInt32).map ai).flatten))]⟩
@[reducible] def aj(a b:List UInt32)(MZ:Nat)(nN:List UInt32)(r:PV):Prop:=L bT fn bK (inv1 a b MZ nN) r
def qv:List gC:=focus [0,2,0,2,0,0,2,0,0,0,0,2,0,0,2,0,0,0,2,0,2,0,0,2,0,0] [.code (aA fn)]
def inv2(a b:List UInt32)(MW yG MZ Vb:Nat)(nN:List UInt32):St:=⟨[(0,(.pv (ag a))),(1,(.pv (ag b))),(5,(.row 15 0 (a.length+b.length) 1)),(6,(eI (MW:Int))),(7,(eU yG)),(17,(eI (a.length:Int))),(18,(eI (MZ:Int))),(22,(eI (b.length:Int))),(23,(eI (Vb:Int)))],[(15,(.pure ((nN:List UInt32).map ai).flatten))]⟩
@[reducible] def cz(a b:List UInt32)(MW yG MZ Vb:Nat)(nN:List UInt32)(r:PV):Prop:=L bT fn qv (inv2 a b MW yG MZ Vb nN) r
theorem e0(a b:Ws){r:PV}(h1:(a.length+b.length)<9223372036854775808)(h2:4*(a.length+b.length)≤140737488355328)(hL:aj a b 0 (List.replicate (a.length+b.length) (0:UInt32)) r):Cp 233 [ag a,ag b] r :=
 eG func233 87 [1,1,1,5,1] [.q,.ba [.o,(iI (a.length:Int)),.o,(iI (b.length:Int)),(iI (((a.length+b.length):Nat):Int)),(.app (a.length+b.length) ((List.replicate (a.length+b.length) (0:UInt32):Ws).map ai).flatten)],.h 1 (iI (a.length:Int)),.aP [0,1,5,17,18]] (y5 (au ai a) (au ai b) (aR h1) (yy ai 0 4 (a.length+b.length) (Eq.refl ((((a.length+b.length):Nat):Int):Int)) h2 rfl) (au ai a)) hL
theorem l10(a b:Ws)(c:Nat)(d:Ws){r:PV}(h1:c<a.length)(hL:cz a b c 0 c 0 d r):aj a b c d r :=
 lG 138 [1,1] [.a,.q,.t,.q,.q,.h 1 (iI (b.length:Int)),.aP [0,1,5,6,7,17,18,22,23]] (y2 (ak h1) (au ai b)) hL
theorem dw(a b:Ws)(c:Nat)(d g:Ws)(h1:a.length≤c)(h2:(a.length+b.length)=d.length)(h3:Cp 277 [ag d] (ag g)):aj a b c d (ag g) :=
 lD 120 [1,3,1] [.a,.q,.f,.iZ 5 ((d:Ws).map ai),.h 1 (.pv (ag g))] (y3 (ax h1) (eR cx (d:Ws) h2) h3)
theorem xl(a b:Ws)(c d g i:Nat)(j:Ws)(v v1:UInt32)(p:Nat)(v2:UInt32)(s s1:Nat)(w:UInt32)(z:Nat){r:PV}(h1:i<b.length)(h2:a[c]? = some v)(h3:b[i]? = some v1)(h4:(v.toNat*v1.toNat)%18446744073709551616=p)(h5:(c+i)<9223372036854775808)(h6:(c+i)<(a.length+b.length))(h7:j[(c+i)]? = some v2)(h8:(p+v2.toNat)%18446744073709551616=s)(h9:(s+d)%18446744073709551616=s1)(dM:s1%4294967296=w.toNat)(gy:s1/2^(min 32 64)=z)(j8:(c+i)<j.length)(nK:(i+1)<9223372036854775808)(hL:cz a b c z g (i+1) (j.set (c+i) w) r):cz a b c d g i j r :=
 lG 183 [1,3,1,3,1,1,1,2,1,1,1,1,1,1,1,2,2,1] [.a,.q,.t,.q,dr 21 1 [.none,.none,(.row c (ai v)),.none,iU v.toNat,.none,.none,(.row i (ai v1)),.none,iU v1.toNat,iU p,.none,.none,.none,(iI (((c+i):Nat):Int)),(.nat (c+i)),(.ev (.pv (vW v2))),iU v2.toNat,iU s,.none,iU s1],.ba [.o,.o,.o,(iI (((c+i):Nat):Int)),.o,iW w,.o,iU z,(.nat (c+i)),(.cells (.pure (((j.set (c+i) w):Ws).map ai).flatten))],.h 0 (iI (((i+1):Nat):Int)),.aP [0,1,5,6,7,17,18,22,23]] (PU (ak h1) (bU ai (Eq.refl (((c:Nat):Int):Int)) h2) (tM v) (bU ai (Eq.refl (((i:Nat):Int):Int)) h3) (tM v1) (sY h4) (aR h5) (cj (Eq.refl ((((c+i):Nat):Int):Int)) h6) (j5 (enc:=ai) (f:=fun a=>(vW a)) (fun _=>rfl) h7) (tM v2) (iP h8) (iP h9) (aR h5) (gd dM) (gE (k := .u64) gy) (cj (Eq.refl ((((c+i):Nat):Int):Int)) h6) (mm cx (j:Ws) w j8) (aR nK)) hL
theorem AR(a b:Ws)(c d g i:Nat)(j:Ws)(w:UInt32){r:PV}(h1:b.length≤i)(h2:(c+b.length)<9223372036854775808)(h3:d%4294967296=w.toNat)(h4:(c+b.length)<(a.length+b.length))(h5:(c+b.length)<j.length)(h6:(g+1)<9223372036854775808)(hL:aj a b (g+1) (j.set (c+b.length) w) r):cz a b c d g i j r :=
 lG 174 [1,1,1,1,2,2,1] [.a,.q,.f,.ba [.o,.o,.o,(iI (b.length:Int)),(iI (((c+b.length):Nat):Int)),.o,iW w,(.nat (c+b.length)),(.cells (.pure (((j.set (c+b.length) w):Ws).map ai).flatten))],.h 0 (iI (((g+1):Nat):Int)),.aP [0,1,5,17,18]] (y7 (ax h1) (au ai b) (aR h2) (gd h3) (cj (Eq.refl ((((c+b.length):Nat):Int):Int)) h4) (mm cx (j:Ws) w h5) (aR h6)) hL
end gf
namespace wM
theorem e0(a b c d:aI)(h1:Cp 170 [b.pv] c.pv)(h2:Cp 146 [a.pv,c.pv] d.pv):Cp 254 [a.pv,b.pv] d.pv :=
 eD func254 72 [1,1] [.q,dr 4 1 [.none,.none,(.pv c.pv),(.pv d.pv)]] (y2 h1 h2)
end wM
namespace ct
@[reducible] def fn:Func:=Tryz.f255
def bK:List gC:=focus [0,2,0,2,0,0,2,1,2,0,0,2,1,2,0,2,0,0,0] [.code (aA fn)]
def inv1(vk vl rf:Nat)(fC nL:List UInt32):St:=⟨[(0,(.row 7 0 vk 1)),(1,(.row 9 0 vl 1)),(5,(eI (rf:Int)))],[(7,(.pure ((fC:List UInt32).map ai).flatten)),(9,(.pure ((nL:List UInt32).map ai).flatten))]⟩
@[reducible] def aj(vk vl rf:Nat)(fC nL:List UInt32)(r:PV):Prop:=L bT fn bK (inv1 vk vl rf fC nL) r
def qv:List gC:=focus [0,2,0,2,0,0,2,1,2,0,0,2,1,2,0,2,0,0,0,0,0,0,2,1,2,2,2,2,0,0,0] [.code (aA fn)]
def inv2(vk vl rf:Nat)(fC nL:List UInt32):St:=⟨[(0,(.row 7 0 vk 1)),(1,(.row 9 0 vl 1)),(5,(eI (rf:Int)))],[(7,(.pure ((fC:List UInt32).map ai).flatten)),(9,(.pure ((nL:List UInt32).map ai).flatten))]⟩
@[reducible] def cz(vk vl rf:Nat)(fC nL:List UInt32)(r:PV):Prop:=L bT fn qv (inv2 vk vl rf fC nL) r
def Q2:List gC:=focus [0,2,0,2,0,0,2,1,2,0,0,2,1,2,0,2,0,0,0,0,0,0,2,1,2,2,2,2,0,0,0,0,0,0,2,0,2,0,0,0,0] [.code (aA fn)]
def Q3(vk vl rf:Nat)(fC nL:List UInt32):St:=⟨[(0,(.row 7 0 vk 1)),(1,(.row 9 0 vl 1)),(5,(eI (rf:Int)))],[(7,(.pure ((fC:List UInt32).map ai).flatten)),(9,(.pure ((nL:List UInt32).map ai).flatten))]⟩
@[reducible] def oV(vk vl rf:Nat)(fC nL:List UInt32)(r:PV):Prop:=L bT fn Q2 (Q3 vk vl rf fC nL) r
def ZG:List gC:=focus [0,2,0,2,0,0,2,1,2,0,0,2,1,2,0,2,0,0,0,0,0,0,2,1,2,2,2,2,0,0,0,0,0,0,2,1,2,2,2,2,0,0,2,0,0] [.code (aA fn)]
def ZH(ZI:List UInt32)(FA Vc:Nat):St:=⟨[(1,(.pv (ag ZI))),(64,(eI (FA:Int))),(65,(eI (Vc:Int)))],[]⟩
@[reducible] def Lg(ZI:List UInt32)(FA Vc:Nat)(r:PV):Prop:=L bT fn ZG (ZH ZI FA Vc) r
def ZJ:List gC:=focus [0,2,0,2,0,0,2,1,2,0,0,2,1,2,0,2,0,0,0,0,0,0,2,1,2,2,2,2,0,0,0,0,0,0,2,0,2,0,0,0,0,0,0,0,2,1,2,2,2,2,0,0,0] [.code (aA fn)]
def ZK(vk vl rf:Nat)(fC nL:List UInt32):St:=⟨[(0,(.row 7 0 vk 1)),(1,(.row 9 0 vl 1)),(5,(eI (rf:Int)))],[(7,(.pure ((fC:List UInt32).map ai).flatten)),(9,(.pure ((nL:List UInt32).map ai).flatten))]⟩
@[reducible] def Hc(vk vl rf:Nat)(fC nL:List UInt32)(r:PV):Prop:=L bT fn ZJ (ZK vk vl rf fC nL) r
theorem e0(a b z:Ws)(n:Nat)(z1:Ws)(n1:Nat)(h1:av bT 277 [.pv (ag a)] [] (.row 0 0 n 1) [(0,(.pure ((z:Ws).map ai).flatten))])(h2:av bT 277 [.pv (ag b)] [] (.row 0 0 n1 1) [(0,(.pure ((z1:Ws).map ai).flatten))])(h3:n=0)(h4:n1=z1.length):Cp 255 [ag a,ag b] (ag z1) :=
 eD func255 90 [1,1,1,3] [.q,.ba [.o,(.bI [] (some (0,7)) (.row 0 0 n 1) [(0,(.pure ((z:Ws).map ai).flatten))]),.o,(.bI [] (some (0,9)) (.row 0 0 n1 1) [(0,(.pure ((z1:Ws).map ai).flatten))])],.q,.t,.q,.iZ 4 ((z1:Ws).map ai)] (y4 h1 h2 (aL h3) (eR cx (z1:Ws) h4))
theorem e1(a b z:Ws)(n:Nat)(z1:Ws)(n1:Nat)(h1:av bT 277 [.pv (ag a)] [] (.row 0 0 n 1) [(0,(.pure ((z:Ws).map ai).flatten))])(h2:av bT 277 [.pv (ag b)] [] (.row 0 0 n1 1) [(0,(.pure ((z1:Ws).map ai).flatten))])(h3:n≠0)(h4:n1=0)(h5:n=z.length):Cp 255 [ag a,ag b] (ag z) :=
 eD func255 105 [1,1,1,1,3] [.q,.ba [.o,(.bI [] (some (0,7)) (.row 0 0 n 1) [(0,(.pure ((z:Ws).map ai).flatten))]),.o,(.bI [] (some (0,9)) (.row 0 0 n1 1) [(0,(.pure ((z1:Ws).map ai).flatten))])],.q,.f,.q,.t,.q,.iZ 4 ((z:Ws).map ai)] (y5 h1 h2 (aC h3) (aL h4) (eR cx (z:Ws) h5))
theorem e2(a b z:Ws)(n:Nat)(z1:Ws)(n1:Nat){r:PV}(h1:av bT 277 [.pv (ag a)] [] (.row 0 0 n 1) [(0,(.pure ((z:Ws).map ai).flatten))])(h2:av bT 277 [.pv (ag b)] [] (.row 0 0 n1 1) [(0,(.pure ((z1:Ws).map ai).flatten))])(h3:n≠0)(h4:n1≠0)(hL:aj n n1 0 z z1 r):Cp 255 [ag a,ag b] r :=
 eG func255 117 [1,1,1,1] [.q,.ba [.o,(.bI [] (some (0,7)) (.row 0 0 n 1) [(0,(.pure ((z:Ws).map ai).flatten))]),.o,(.bI [] (some (0,9)) (.row 0 0 n1 1) [(0,(.pure ((z1:Ws).map ai).flatten))])],.q,.f,.q,.f,.q,.aP [0,1,5],.ord [7,9]] (y4 h1 h2 (aC h3) (aC h4)) hL
theorem l10(b c d:Nat)(g i:Ws)(v z v1 z1:UInt32)(z2:Ws)(n:Nat)(z3:Ws)(n1:Nat){r:PV}(h1:0<b)(h2:g[0]? = some v)(h3:(v.toNat%4294967296) &&& (1%4294967296)=z.toNat)(h4:z.toNat=0)(h5:0<c)(h6:i[0]? = some v1)(h7:(v1.toNat%4294967296) &&& (1%4294967296)=z1.toNat)(h8:z1.toNat=0)(h9:av bT 279 [.row 100000 0 b 1] [(100000,(.pure ((g:Ws).map ai).flatten))] (.row 100000 0 n 1) [(100000,(.pure ((z2:Ws).map ai).flatten))])(dM:av bT 279 [.row 100000 0 c 1] [(100000,(.pure ((i:Ws).map ai).flatten))] (.row 100000 0 n1 1) [(100000,(.pure ((z3:Ws).map ai).flatten))])(gy:(d+1)<9223372036854775808)(hL:aj n n1 (d+1) z2 z3 r):aj b c d g i r :=
 lG 150 [2,1,1,1,1,2,1,1,1,1,1,1,1,1,1,1] [.a,.ba [.o,(.nat 0),(.ev (.pv (vW v))),iW z,.o,.o,.o,(.nat 0),(.ev (.pv (vW v1))),iW z1,.o,(.dec true)],.t,.ba [.o,(.bI [(7,100000)] none (.row 100000 0 n 1) [(100000,(.pure ((z2:Ws).map ai).flatten))]),.o,(.bI [(9,100000)] none (.row 100000 0 n1 1) [(100000,(.pure ((z3:Ws).map ai).flatten))])],.h 1 (iI (((d+1):Nat):Int)),.aP [0,1,5]] (Cz (cj (Eq.refl (0:Int)) h1) (j5 (enc:=ai) (f:=fun a=>(vW a)) (fun _=>rfl) h2) (lH h3) (aL h4) (aL h4) (cj (Eq.refl (0:Int)) h5) (aL h4) (j5 (enc:=ai) (f:=fun a=>(vW a)) (fun _=>rfl) h6) (aL h4) (lH h7) (aL h4) (aL h4) (aL h8) h9 dM (aR gy)) hL
theorem dw(b c d:Nat)(g i:Ws)(v z v1 z1:UInt32){r:PV}(h1:0<b)(h2:g[0]? = some v)(h3:(v.toNat%4294967296) &&& (1%4294967296)=z.toNat)(h4:z.toNat=0)(h5:0<c)(h6:i[0]? = some v1)(h7:(v1.toNat%4294967296) &&& (1%4294967296)=z1.toNat)(h8:z1.toNat≠0)(hL:cz b c d g i r):aj b c d g i r :=
 lG 153 [2,1,1,1,1,2,1,1,1,1,1,1,1] [.a,.ba [.o,(.nat 0),(.ev (.pv (vW v))),iW z,.o,.o,.o,(.nat 0),(.ev (.pv (vW v1))),iW z1,.o,(.dec true)],.f,.aP [0,1,5]] (Fz (cj (Eq.refl (0:Int)) h1) (j5 (enc:=ai) (f:=fun a=>(vW a)) (fun _=>rfl) h2) (lH h3) (aL h4) (aL h4) (cj (Eq.refl (0:Int)) h5) (aL h4) (j5 (enc:=ai) (f:=fun a=>(vW a)) (fun _=>rfl) h6) (aL h4) (lH h7) (aL h4) (aL h4) (aC h8)) hL
theorem ji(b c d:Nat)(g i:Ws)(v z:UInt32){r:PV}(h1:0<b)(h2:g[0]? = some v)(h3:(v.toNat%4294967296) &&& (1%4294967296)=z.toNat)(h4:z.toNat≠0)(hL:cz b c d g i r):aj b c d g i r :=
 lG 153 [2,1,1,1,1,1,1,1,1] [.a,.ba [.o,(.nat 0),(.ev (.pv (vW v))),iW z,.o,.o,.skip,.skip,.skip,.skip,.skip,(.dec false)],.a,.aP [0,1,5]] (y9 (cj (Eq.refl (0:Int)) h1) (j5 (enc:=ai) (f:=fun a=>(vW a)) (fun _=>rfl) h2) (lH h3) (aC h4) (aC h4) (aC h4) (aC h4) (aC h4) (aC h4)) hL
theorem xl(b c d:Nat)(g i:Ws){r:PV}(h1:0<b)(hL:oV b c d g i r):cz b c d g i r :=
 lG 183 [1] [.a,.q,.t,.aP [0,1,5]] (y1 (ak h1)) hL
theorem AR(b c d:Nat)(g i:Ws){r:PV}(h1:b≤0)(h2:c=i.length)(hL:Lg i d 0 r):cz b c d g i r :=
 lG 195 [1,3] [.a,.q,.f,.q,.iZ 1 ((i:Ws).map ai),.aP [1,64,65],.drop [7]] (y2 (ax h1) (eR cx (i:Ws) h2)) hL
theorem Wq(b c d:Nat)(g i:Ws)(v z:UInt32)(z1:Ws)(n:Nat){r:PV}(h1:0<b)(h2:g[0]? = some v)(h3:(v.toNat%4294967296) &&& (1%4294967296)=z.toNat)(h4:z.toNat=0)(h5:av bT 279 [.row 100000 0 b 1] [(100000,(.pure ((g:Ws).map ai).flatten))] (.row 100000 0 n 1) [(100000,(.pure ((z1:Ws).map ai).flatten))])(hL:oV n c d z1 i r):oV b c d g i r :=
 lG 210 [2,1,1,1,1] [.a,.ba [.o,(.nat 0),(.ev (.pv (vW v))),iW z],.t,.h 1 (.bI [(7,100000)] none (.row 100000 0 n 1) [(100000,(.pure ((z1:Ws).map ai).flatten))]),.aP [0,1,5]] (y5 (cj (Eq.refl (0:Int)) h1) (j5 (enc:=ai) (f:=fun a=>(vW a)) (fun _=>rfl) h2) (lH h3) (aL h4) h5) hL
theorem Om(b c d:Nat)(g i:Ws)(v z:UInt32){r:PV}(h1:0<b)(h2:g[0]? = some v)(h3:(v.toNat%4294967296) &&& (1%4294967296)=z.toNat)(h4:z.toNat≠0)(hL:Hc b c d g i r):oV b c d g i r :=
 lG 219 [2,1,1,1] [.a,.ba [.o,(.nat 0),(.ev (.pv (vW v))),iW z],.f,.aP [0,1,5]] (y4 (cj (Eq.refl (0:Int)) h1) (j5 (enc:=ai) (f:=fun a=>(vW a)) (fun _=>rfl) h2) (lH h3) (aC h4)) hL
theorem l40(b:Ws)(c d:Nat)(g:Ws){r:PV}(h1:d<c)(h2:Cp 230 [ag b,ag b] (ag g))(h3:(d+1)<9223372036854775808)(hL:Lg g c (d+1) r):Lg b c d r :=
 lG 228 [1,1,1] [.a,.q,.t,.h 2 (.pv (ag g)),.h 0 (iI (((d+1):Nat):Int)),.aP [1,64,65]] (y3 (ak h1) h2 (aR h3)) hL
theorem l41(b:Ws)(c d:Nat)(h1:c≤d):Lg b c d (ag b) :=
 lD 228 [1] [.a,.q,.f,.q] (y1 (ax h1))
theorem l50(b c d:Nat)(g i:Ws)(v z:UInt32)(z1:Ws)(n:Nat){r:PV}(h1:0<c)(h2:i[0]? = some v)(h3:(v.toNat%4294967296) &&& (1%4294967296)=z.toNat)(h4:z.toNat=0)(h5:av bT 279 [.row 100000 0 c 1] [(100000,(.pure ((i:Ws).map ai).flatten))] (.row 100000 0 n 1) [(100000,(.pure ((z1:Ws).map ai).flatten))])(hL:Hc b n d g z1 r):Hc b c d g i r :=
 lG 246 [2,1,1,1,1] [.a,.ba [.o,(.nat 0),(.ev (.pv (vW v))),iW z],.t,.h 1 (.bI [(9,100000)] none (.row 100000 0 n 1) [(100000,(.pure ((z1:Ws).map ai).flatten))]),.aP [0,1,5]] (y5 (cj (Eq.refl (0:Int)) h1) (j5 (enc:=ai) (f:=fun a=>(vW a)) (fun _=>rfl) h2) (lH h3) (aL h4) h5) hL
theorem l51(b c d:Nat)(g i:Ws)(v z:UInt32)(z1 z2:Ws)(j:Int)(z3 z4 z5:Ws)(n:Nat){r:PV}(h1:0<c)(h2:i[0]? = some v)(h3:(v.toNat%4294967296) &&& (1%4294967296)=z.toNat)(h4:z.toNat≠0)(h5:av bT 231 [.row 100000 0 b 1,.row 100001 0 c 1] [(100000,(.pure ((g:Ws).map ai).flatten)),(100001,(.pure ((i:Ws).map ai).flatten))] (.pv (vI j)) [(100000,(.pure ((z1:Ws).map ai).flatten)),(100001,(.pure ((z2:Ws).map ai).flatten))])(h6:j<0)(h7:av bT 280 [.row 100000 0 c 1,.row 100001 0 b 1] [(100000,(.pure ((z2:Ws).map ai).flatten)),(100001,(.pure ((z1:Ws).map ai).flatten))] (.pv (.aB [])) [(100000,(.pure ((z3:Ws).map ai).flatten)),(100001,(.pure ((z4:Ws).map ai).flatten))])(h8:av bT 281 [.row 100000 0 c 1] [(100000,(.pure ((z3:Ws).map ai).flatten))] (.row 100000 0 n 1) [(100000,(.pure ((z5:Ws).map ai).flatten))])(hL:cz n b d z5 z4 r):Hc b c d g i r :=
 lG 273 [2,1,1,1,1,1,1,1] [.a,.ba [.o,(.nat 0),(.ev (.pv (vW v))),iW z],.f,.h 2 (.bI [(7,100000),(9,100001)] none (.pv (vI j)) [(100000,(.pure ((z1:Ws).map ai).flatten)),(100001,(.pure ((z2:Ws).map ai).flatten))]),.t,.q,.h 2 (.bI [(9,100000),(7,100001)] none (.pv (.aB [])) [(100000,(.pure ((z3:Ws).map ai).flatten)),(100001,(.pure ((z4:Ws).map ai).flatten))]),.h 1 (.bI [(9,100000)] none (.row 100000 0 n 1) [(100000,(.pure ((z5:Ws).map ai).flatten))]),.aP [0,1,5],.l7 9 71,.l7 7 9,.l7 71 7,.ord [7,9]] (y8 (cj (Eq.refl (0:Int)) h1) (j5 (enc:=ai) (f:=fun a=>(vW a)) (fun _=>rfl) h2) (lH h3) (aC h4) h5 (dJ h6) h7 h8) hL
theorem l52(b c d:Nat)(g i:Ws)(v z:UInt32)(z1 z2:Ws)(j:Int)(z3 z4 z5:Ws)(n:Nat){r:PV}(h1:0<c)(h2:i[0]? = some v)(h3:(v.toNat%4294967296) &&& (1%4294967296)=z.toNat)(h4:z.toNat≠0)(h5:av bT 231 [.row 100000 0 b 1,.row 100001 0 c 1] [(100000,(.pure ((g:Ws).map ai).flatten)),(100001,(.pure ((i:Ws).map ai).flatten))] (.pv (vI j)) [(100000,(.pure ((z1:Ws).map ai).flatten)),(100001,(.pure ((z2:Ws).map ai).flatten))])(h6:0≤j)(h7:av bT 280 [.row 100000 0 b 1,.row 100001 0 c 1] [(100000,(.pure ((z1:Ws).map ai).flatten)),(100001,(.pure ((z2:Ws).map ai).flatten))] (.pv (.aB [])) [(100000,(.pure ((z3:Ws).map ai).flatten)),(100001,(.pure ((z4:Ws).map ai).flatten))])(h8:av bT 281 [.row 100000 0 b 1] [(100000,(.pure ((z3:Ws).map ai).flatten))] (.row 100000 0 n 1) [(100000,(.pure ((z5:Ws).map ai).flatten))])(hL:cz n c d z5 z4 r):Hc b c d g i r :=
 lG 273 [2,1,1,1,1,1,1,1] [.a,.ba [.o,(.nat 0),(.ev (.pv (vW v))),iW z],.f,.h 2 (.bI [(7,100000),(9,100001)] none (.pv (vI j)) [(100000,(.pure ((z1:Ws).map ai).flatten)),(100001,(.pure ((z2:Ws).map ai).flatten))]),.f,.h 2 (.bI [(7,100000),(9,100001)] none (.pv (.aB [])) [(100000,(.pure ((z3:Ws).map ai).flatten)),(100001,(.pure ((z4:Ws).map ai).flatten))]),.h 1 (.bI [(7,100000)] none (.row 100000 0 n 1) [(100000,(.pure ((z5:Ws).map ai).flatten))]),.aP [0,1,5]] (y8 (cj (Eq.refl (0:Int)) h1) (j5 (enc:=ai) (f:=fun a=>(vW a)) (fun _=>rfl) h2) (lH h3) (aC h4) h5 (bQ h6) h7 h8) hL
end ct
namespace fk
@[reducible] def fn:Func:=Tryz.f274
def bK:List gC:=focus [0,2,0,2,0,2,0,0,2,0,0] [.code (aA fn)]
def inv1(a b:List UInt32)(G8:Int)(yH fJ:List UInt32):St:=⟨[(0,(.pv (ag a))),(1,(.pv (ag b))),(6,(.row 13 0 a.length 1)),(7,(.row 17 0 (b.length+1) 1)),(8,(eI G8))],[(13,(.pure ((yH:List UInt32).map ai).flatten)),(17,(.pure ((fJ:List UInt32).map ai).flatten))]⟩
@[reducible] def aj(a b:List UInt32)(G8:Int)(yH fJ:List UInt32)(r:PV):Prop:=L bT fn bK (inv1 a b G8 yH fJ) r
def qv:List gC:=focus [0,2,0,2,0,2,0,0,2,0,0,0,0,0,2,0,2,0,0,0,2,0,0,2,0,0] [.code (aA fn)]
def inv2(a b:List UInt32)(G8:Int)(JX:UInt32)(Vd:Nat)(yH fJ:List UInt32):St:=⟨[(0,(.pv (ag a))),(1,(.pv (ag b))),(6,(.row 13 0 a.length 1)),(7,(.row 17 0 (b.length+1) 1)),(8,(eI G8)),(9,(eW JX)),(35,(eI (((b.length+1):Nat):Int))),(36,(eI (Vd:Int)))],[(13,(.pure ((yH:List UInt32).map ai).flatten)),(17,(.pure ((fJ:List UInt32).map ai).flatten))]⟩
@[reducible] def cz(a b:List UInt32)(G8:Int)(JX:UInt32)(Vd:Nat)(yH fJ:List UInt32)(r:PV):Prop:=L bT fn qv (inv2 a b G8 JX Vd yH fJ) r
theorem e0(a b:Ws)(c:Int){r:PV}(h1:4*a.length≤140737488355328)(h2:(b.length+1)<9223372036854775808)(h3:4*(b.length+1)≤140737488355328)(h4:Cp 293 [ag a] (vI c))(h5:aw (c-1))(hL:aj a b (c-1) (List.replicate a.length (0:UInt32)) (List.replicate (b.length+1) (0:UInt32)) r):Cp 274 [ag a,ag b] r :=
 eG func274 93 [1,5,1,1,5,1,1] [.q,.ba [.o,(iI (a.length:Int)),(.app a.length ((List.replicate a.length (0:UInt32):Ws).map ai).flatten)],.ba [.o,(iI (b.length:Int)),(iI (((b.length+1):Nat):Int)),(.app (b.length+1) ((List.replicate (b.length+1) (0:UInt32):Ws).map ai).flatten)],.ba [.o,(.pv (vI c)),(iI (c-1))],.aP [0,1,6,7,8],.ord [13,17]] (y7 (au ai a) (yy ai 0 4 a.length (Eq.refl (((a.length:Nat):Int):Int)) h1 rfl) (au ai b) (aR h2) (yy ai 0 4 (b.length+1) (Eq.refl ((((b.length+1):Nat):Int):Int)) h3 rfl) h4 (aX h5)) hL
theorem l10(a b:Ws)(c:Int)(d g:Ws)(k:Nat)(v:UInt32)(k1:Nat)(z z1:UInt32){r:PV}(h1:0≤c)(h2:c=(k:Int))(h3:k<9223372036854775808)(h4:a[(k/32)]? = some v)(h5:c=(k1:Int))(h6:v.toNat/2^(min (k1%32) 32)=z.toNat)(h7:(z.toNat%4294967296) &&& (1%4294967296)=z1.toNat)(hL:cz a b c z1 0 d g r):aj a b c d g r :=
 lG 138 [1,1,3,1,1,1] [.a,.q,.t,.ba [.o,.o,(iI (((k/32):Nat):Int)),(.row (k/32) (ai v)),.o,.o,(iI (((k1%32):Nat):Int)),iW z,iW z1],.q,.aP [0,1,6,7,8,9,35,36]] (y6 (jv h1) (S0 h2 (C1 (y:=32) (by decide) h3)) (bU ai (Eq.refl ((((k/32):Nat):Int):Int)) h4) (S0 h5 (Oj (x:=k1) (y:=32) (by decide))) (q9 (k := .i64) h6) (lH h7)) hL
theorem dw(a b:Ws)(c:Int)(d g i j:Ws)(h1:c<0)(h2:a.length=d.length)(h3:(b.length+1)=g.length)(h4:Cp 277 [ag d] (ag i))(h5:Cp 277 [ag g] (ag j)):aj a b c d g (.aB [ag i,ag j]) :=
 lD 126 [1,3,3,1,1] [.a,.q,.f,.iZ 6 ((d:Ws).map ai),.iZ 7 ((g:Ws).map ai),.ba [.o,(.pv (ag i)),.o,(.pv (ag j))]] (y5 (kL h1) (eR cx (d:Ws) h2) (eR cx (g:Ws) h3) h4 h5)
theorem xl(a b:Ws)(c:Int)(d:UInt32)(g:Nat)(i j:Ws)(v z z1 z2:UInt32){r:PV}(h1:g<(b.length+1))(h2:j[g]? = some v)(h3:(v.toNat*2^(min 1 32))%4294967296=z.toNat)(h4:(z.toNat%4294967296) ||| (d.toNat%4294967296)=z1.toNat)(h5:v.toNat/2^(min 31 32)=z2.toNat)(h6:g<j.length)(h7:(g+1)<9223372036854775808)(hL:cz a b c z2 (g+1) i (j.set g z1) r):cz a b c d g i j r :=
 lG 177 [1,2,1,1,1,2,1,1,2,2,1] [.a,.q,.t,.q,dr 16 1 [.none,.none,.none,.none,(.nat g),(.ev (.pv (vW v))),iW z,.none,iW z1,.none,.none,(.nat g),(.ev (.pv (vW v))),iW z2,(.nat g),(.cells (.pure (((j.set g z1):Ws).map ai).flatten))],.h 0 (iI (((g+1):Nat):Int)),.aP [0,1,6,7,8,9,35,36]] (FO (ak h1) (cj (Eq.refl (((g:Nat):Int):Int)) h1) (j5 (enc:=ai) (f:=fun a=>(vW a)) (fun _=>rfl) h2) (GX (k := .u64) h3) (AP h4) (cj (Eq.refl (((g:Nat):Int):Int)) h1) (j5 (enc:=ai) (f:=fun a=>(vW a)) (fun _=>rfl) h2) (q9 (k := .u64) h5) (cj (Eq.refl (((g:Nat):Int):Int)) h1) (mm cx (j:Ws) z1 h6) (aR h7)) hL
theorem AR(a b:Ws)(c:Int)(d:UInt32)(g:Nat)(i j z:Ws)(l:Int)(z1:Ws)(k:Nat)(v:UInt32)(k1:Nat)(z2 z3:UInt32){r:PV}(h1:(b.length+1)≤g)(h2:av bT 231 [.row 100000 0 (b.length+1) 1,.pv (ag b)] [(100000,(.pure ((j:Ws).map ai).flatten))] (.pv (vI l)) [(100000,(.pure ((z:Ws).map ai).flatten))])(h3:0≤l)(h4:av bT 280 [.row 100000 0 (b.length+1) 1,.pv (ag b)] [(100000,(.pure ((z:Ws).map ai).flatten))] (.pv (.aB [])) [(100000,(.pure ((z1:Ws).map ai).flatten))])(h5:c=(k:Int))(h6:k<9223372036854775808)(h7:(k/32)<a.length)(h8:i[(k/32)]? = some v)(h9:c=(k1:Int))(dM:(1*2^(min (k1%32) 32))%4294967296=z2.toNat)(gy:(v.toNat%4294967296) ||| (z2.toNat%4294967296)=z3.toNat)(j8:(k/32)<i.length)(nK:aw (c-1))(hL:aj a b (c-1) (i.set (k/32) z3) z1 r):cz a b c d g i j r :=
 lG 189 [1,1,1,1,1,2,1,1,1,1,2,2,1] [.a,.q,.f,.h 2 (.bI [(17,100000)] none (.pv (vI l)) [(100000,(.pure ((z:Ws).map ai).flatten))]),.t,.h 2 (.bI [(17,100000)] none (.pv (.aB [])) [(100000,(.pure ((z1:Ws).map ai).flatten))]),dr 10 1 [.none,.none,(iI (((k/32):Nat):Int)),(.nat (k/32)),(.ev (.pv (vW v))),.none,(iI (((k1%32):Nat):Int)),iW z2,iW z3,(.nat (k/32)),(.cells (.pure (((i.set (k/32) z3):Ws).map ai).flatten))],.h 1 (iI (c-1)),.aP [0,1,6,7,8]] (Fz (ax h1) h2 (jv h3) h4 (S0 h5 (C1 (y:=32) (by decide) h6)) (cj (Eq.refl ((((k/32):Nat):Int):Int)) h7) (j5 (enc:=ai) (f:=fun a=>(vW a)) (fun _=>rfl) h8) (S0 h9 (Oj (x:=k1) (y:=32) (by decide))) (GX (k := .i64) dM) (AP gy) (cj (Eq.refl ((((k/32):Nat):Int):Int)) h7) (mm cx (i:Ws) z3 j8) (aX nK)) hL
theorem Ol(a b:Ws)(c:Int)(d:UInt32)(g:Nat)(i j z:Ws)(k:Int){r:PV}(h1:(b.length+1)≤g)(h2:av bT 231 [.row 100000 0 (b.length+1) 1,.pv (ag b)] [(100000,(.pure ((j:Ws).map ai).flatten))] (.pv (vI k)) [(100000,(.pure ((z:Ws).map ai).flatten))])(h3:k<0)(h4:aw (c-1))(hL:aj a b (c-1) i z r):cz a b c d g i j r :=
 lG 183 [1,1,1,1] [.a,.q,.f,.h 2 (.bI [(17,100000)] none (.pv (vI k)) [(100000,(.pure ((z:Ws).map ai).flatten))]),.f,.h 1 (iI (c-1)),.aP [0,1,6,7,8]] (y4 (ax h1) h2 (kL h3) (aX h4)) hL
end fk
namespace qw
theorem e0(a:aI)(h1:a.fS.length=0):Cp 276 [a.pv] (vB (!a.neg)) :=
 eD func276 84 [1,1] [.q,.h 2 (iI (a.fS.length:Int)),.t,.q] (y2 (au ai a.fS) (aL h1))
theorem e1(a:aI)(k:Nat)(v:UInt32)(h1:a.fS.length≠0)(h2:aw ((a.fS.length:Int)-1))(h3:((a.fS.length:Int)-1)=(k:Int))(h4:a.fS[k]? = some v):Cp 276 [a.pv] (vB ((v.toNat:Int) != 0)) :=
 eD func276 87 [1,1,1,1,3] [.q,.h 2 (iI (a.fS.length:Int)),.f,.ba [.o,.o,.o,.o,(iI (a.fS.length:Int)),(iI ((a.fS.length:Int)-1)),(.row k (ai v))]] (y5 (au ai a.fS) (aC h1) (au ai a.fS) (aX h2) (bU ai h3 h4))
end qw
namespace ki
@[reducible] def fn:Func:=Tryz.f277
def bK:List gC:=focus [0,2,0,2,0,0,0] [.code (aA fn)]
def inv1(iQ:List UInt32):St:=⟨[(3,(.row 6 0 iQ.length 1))],[(6,(.pure ((iQ:List UInt32).map ai).flatten))]⟩
@[reducible] def aj(iQ:List UInt32)(r:PV):Prop:=L bT fn bK (inv1 iQ) r
theorem e0(a:Ws){r:PV}(h1:(([]:Ws)++a:Ws).length*4≤140737488355328)(hL:aj a r):Cp 277 [ag a] r :=
 eG func277 81 [6] [.q,.h 2 (.app (a:Ws).length ((a:Ws).map ai).flatten),.aP [3]] (y1 (s6 cx ([]:Ws) (a:Ws) 4 (Eq.refl ([]:Ws).length) h1 rfl)) hL
theorem l10(b:Ws)(k:Nat)(v:UInt32)(u:Nat){r:PV}(h1:0<b.length)(h2:aw ((b.length:Int)-1))(h3:((b.length:Int)-1)=(k:Int))(h4:k<b.length)(h5:b[k]? = some v)(h6:v.toNat=0)(h7:((b.length:Int)-1)=(u:Int))(h8:u≤(b:Ws).length)(hL:aj (b.take u) r):aj b r :=
 lG 108 [1,1,1,1,1,1,2,1,1,1,1,1,1,5,1] [.a,.ba [.o,.o,.o,.o,.o,.o,.o,(iI ((b.length:Int)-1)),(.nat k),(.ev (.pv (vW v))),.o,(.dec true)],.t,.ba [.o,.o,.o,(iI ((b.length:Int)-1)),(.ja 0 ((b.take u).length) [])],.cut 6 (u*1) (((b.take u):Ws).map ai).flatten,.aP [3]] (Cy (ak h1) (ak h1) (ak h1) (ak h1) (aX h2) (ak h1) (cj h3 h4) (ak h1) (j5 (enc:=ai) (f:=fun a=>(vW a)) (fun _=>rfl) h5) (ak h1) (ak h1) (aL h6) (aX h2) (Le (b:Ws) h7 h8) (Bs cx (b:Ws) u)) hL
theorem dw(b:Ws)(k:Nat)(v:UInt32)(h1:0<b.length)(h2:aw ((b.length:Int)-1))(h3:((b.length:Int)-1)=(k:Int))(h4:k<b.length)(h5:b[k]? = some v)(h6:v.toNat≠0):aj b (ag b) :=
 lD 114 [1,1,1,1,1,1,2,1,1,1,1,1,3] [.a,.ba [.o,.o,.o,.o,.o,.o,.o,(iI ((b.length:Int)-1)),(.nat k),(.ev (.pv (vW v))),.o,(.dec true)],.f,.q,.iZ 2 ((b:Ws).map ai)] (Fz (ak h1) (ak h1) (ak h1) (ak h1) (aX h2) (ak h1) (cj h3 h4) (ak h1) (j5 (enc:=ai) (f:=fun a=>(vW a)) (fun _=>rfl) h5) (ak h1) (ak h1) (aC h6) (eR cx (b:Ws) (Eq.refl (b:Ws).length)))
theorem ji(b:Ws)(h1:b.length≤0):aj b (ag b) :=
 lD 114 [1,1,1,1,1,1,1,1,3] [.a,.ba [.o,.o,.o,.o,.skip,.skip,.skip,.skip,.skip,.skip,.skip,(.dec false)],.a,.q,.iZ 2 ((b:Ws).map ai)] (y9 (ax h1) (ax h1) (ax h1) (ax h1) (ax h1) (ax h1) (ax h1) (ax h1) (eR cx (b:Ws) (Eq.refl (b:Ws).length)))
end ki
namespace jX
@[reducible] def fn:Func:=Tryz.f277
def bK:List gC:=focus [0,2,0,2,0,0,0] [.code (aA fn)]
def inv1(iQ:List UInt32):St:=⟨[(3,(.row 6 0 iQ.length 1))],[(6,(.pure ((iQ:List UInt32).map ai).flatten))]⟩
@[reducible] def aj(iQ:List UInt32)(sin:cq)(r:EV)(sout:cq):Prop:=LX bT fn bK (inv1 iQ) sin r sout
theorem e0(a:Ws){r:EV}{sout:cq}(h1:(([]:Ws)++a:Ws).length*4≤140737488355328)(hL:aj a [] r sout):av bT 277 [(.pv (ag a))] [] r sout :=
 QY func277 81 [6] [.q,.h 2 (.app (a:Ws).length ((a:Ws).map ai).flatten),.aP [3]] (y1 (s6 cx ([]:Ws) (a:Ws) 4 (Eq.refl ([]:Ws).length) h1 rfl)) hL
theorem l10(b:Ws)(k:Nat)(v:UInt32)(u:Nat){r:EV}{sout:cq}{sin:cq}(hs:sin.all (fun p=>Nat.ble fn.ntmps p.1)=true)(h1:0<b.length)(h2:aw ((b.length:Int)-1))(h3:((b.length:Int)-1)=(k:Int))(h4:k<b.length)(h5:b[k]? = some v)(h6:v.toNat=0)(h7:((b.length:Int)-1)=(u:Int))(h8:u≤(b:Ws).length)(hL:aj (b.take u) sin r sout):aj b sin r sout :=
 Po 108 [1,1,1,1,1,1,2,1,1,1,1,1,1,5,1] [.a,.ba [.o,.o,.o,.o,.o,.o,.o,(iI ((b.length:Int)-1)),(.nat k),(.ev (.pv (vW v))),.o,(.dec true)],.t,.ba [.o,.o,.o,(iI ((b.length:Int)-1)),(.ja 0 ((b.take u).length) [])],.cut 6 (u*1) (((b.take u):Ws).map ai).flatten,.aP [3]] hs (Cy (ak h1) (ak h1) (ak h1) (ak h1) (aX h2) (ak h1) (cj h3 h4) (ak h1) (j5 (enc:=ai) (f:=fun a=>(vW a)) (fun _=>rfl) h5) (ak h1) (ak h1) (aL h6) (aX h2) (Le (b:Ws) h7 h8) (Bs cx (b:Ws) u)) hL
theorem dw(b:Ws)(k:Nat)(v:UInt32){sin:cq}(hs:sin.all (fun p=>Nat.ble fn.ntmps p.1)=true)(hi:sin.all (fun p=>Cw p.1||(cq.get [(0,(.pure ((b:Ws).map ai).flatten))] p.1).isSome)=true)(h1:0<b.length)(h2:aw ((b.length:Int)-1))(h3:((b.length:Int)-1)=(k:Int))(h4:k<b.length)(h5:b[k]? = some v)(h6:v.toNat≠0):aj b sin (.row 0 0 b.length 1) [(0,(.pure ((b:Ws).map ai).flatten))] :=
 Kv 114 [1,1,1,1,1,1,2,1,1,1,1,1] [.a,.ba [.o,.o,.o,.o,.o,.o,.o,(iI ((b.length:Int)-1)),(.nat k),(.ev (.pv (vW v))),.o,(.dec true)],.f,.q,.l7 6 0,.ord [0]] hs hi (Pp (ak h1) (ak h1) (ak h1) (ak h1) (aX h2) (ak h1) (cj h3 h4) (ak h1) (j5 (enc:=ai) (f:=fun a=>(vW a)) (fun _=>rfl) h5) (ak h1) (ak h1) (aC h6))
theorem ji(b:Ws){sin:cq}(hs:sin.all (fun p=>Nat.ble fn.ntmps p.1)=true)(hi:sin.all (fun p=>Cw p.1||(cq.get [(0,(.pure ((b:Ws).map ai).flatten))] p.1).isSome)=true)(h1:b.length≤0):aj b sin (.row 0 0 b.length 1) [(0,(.pure ((b:Ws).map ai).flatten))] :=
 Kv 114 [1,1,1,1,1,1,1,1] [.a,.ba [.o,.o,.o,.o,.skip,.skip,.skip,.skip,.skip,.skip,.skip,(.dec false)],.a,.q,.l7 6 0,.ord [0]] hs hi (y8 (ax h1) (ax h1) (ax h1) (ax h1) (ax h1) (ax h1) (ax h1) (ax h1))
end jX
namespace ta
theorem e0(a:Ws)(i:Int)(k:Nat)(v:UInt32)(h1:i<(a.length:Int))(h2:i=(k:Int))(h3:a[k]? = some v):Cp 278 [ag a,vI i] (vU v.toNat) :=
 eD func278 84 [1,1,3,1] [.q,.h 2 (iI (a.length:Int)),.t,.ba [.o,.o,(.row k (ai v)),.o,iU v.toNat]] (y4 (au ai a) (dJ h1) (bU ai h2 h3) (tM v))
theorem e1(a:Ws)(i:Int)(h1:(a.length:Int)≤i):Cp 278 [ag a,vI i] (vU 0) :=
 eD func278 87 [1,1] [.q,.h 2 (iI (a.length:Int)),.f,.q] (y2 (au ai a) (bQ h1))
end ta
namespace r5
theorem e0(a:Ws)(b:Nat)(i:Int)(k:Nat)(v:UInt32)(h1:i<(b:Int))(h2:i=(k:Int))(h3:k<b)(h4:a[k]? = some v):av bT 278 [(.row 100000 0 b 1),eI i] [(100000,(.pure ((a:Ws).map ai).flatten))] (.pv (vU v.toNat)) [(100000,(.pure ((a:Ws).map ai).flatten))] :=
 uT func278 84 [1,2,1,1] [.q,.q,.t,.ba [.o,.o,(.nat k),(.ev (.pv (vW v))),iU v.toNat],.ord [100000]] (y4 (dJ h1) (cj h2 h3) (j5 (enc:=ai) (f:=fun a=>(vW a)) (fun _=>rfl) h4) (tM v))
theorem e1(a:Ws)(b:Nat)(i:Int)(h1:(b:Int)≤i):av bT 278 [(.row 100000 0 b 1),eI i] [(100000,(.pure ((a:Ws).map ai).flatten))] (.pv (vU 0)) [(100000,(.pure ((a:Ws).map ai).flatten))] :=
 uT func278 87 [1] [.q,.q,.f,.q,.ord [100000]] (y1 (bQ h1))
end r5
namespace kY
@[reducible] def fn:Func:=Tryz.f279
def bK:List gC:=focus [0,2,0,0,2,0,0] [.code (aA fn)]
def inv1(len Ve:Nat)(dN:List UInt32):St:=⟨[(0,(.row 100000 0 len 1)),(5,(eI (len:Int))),(6,(eI (Ve:Int)))],[(100000,(.pure ((dN:List UInt32).map ai).flatten))]⟩
@[reducible] def aj(len Ve:Nat)(dN:List UInt32)(sin:cq)(r:EV)(sout:cq):Prop:=LX bT fn bK (inv1 len Ve dN) sin r sout
theorem e0 (a : Ws) (b : Nat) {r : EV} {sout : cq}  (hL : aj b 0 a [(100000, (.pure ((a : Ws).map ai).flatten))] r sout) : av bT 279 [(.row 100000 0 b 1)] [(100000, (.pure ((a : Ws).map ai).flatten))] r sout :=
 QY func279 81 [] [.q,.q,.aP [0,5,6]] True.intro hL
theorem l10(b c:Nat)(d z:Ws)(g z1:Nat)(z2:Ws)(i z3 z4:Nat)(w:UInt32){r:EV}{sout:cq}{sin:cq}(hs:sin.all (fun p=>Nat.ble fn.ntmps p.1)=true)(h1:c<b)(h2:av bT 278 [.row 100000 0 b 1,.pv (vI (c:Int))] [(100000,(.pure ((d:Ws).map ai).flatten))] (.pv (vU g)) [(100000,(.pure ((z:Ws).map ai).flatten))])(h3:g/2^(min 1 64)=z1)(h4:(c+1)<9223372036854775808)(h5:av bT 278 [.row 100000 0 b 1,.pv (vI (((c+1):Nat):Int))] [(100000,(.pure ((z:Ws).map ai).flatten))] (.pv (vU i)) [(100000,(.pure ((z2:Ws).map ai).flatten))])(h6:(i*2^(min 31 64))%18446744073709551616=z3)(h7:(z1%18446744073709551616) ||| (z3%18446744073709551616)=z4)(h8:z4%4294967296=w.toNat)(h9:c<z2.length)(hL:aj b (c+1) (z2.set c w) sin r sout):aj b c d sin r sout :=
 Po 120 [1,1,1,1,1,1,1,1,2,2,1] [.a,.q,.t,.q,.ba [.o,.o,.o,.o,(.bI [(100000,100000)] none (.pv (vU g)) [(100000,(.pure ((z:Ws).map ai).flatten))]),iU z1,.o,.o,(iI (((c+1):Nat):Int)),(.bI [(100000,100000)] none (.pv (vU i)) [(100000,(.pure ((z2:Ws).map ai).flatten))]),iU z3,iU z4,iW w,(.nat c),(.cells (.pure (((z2.set c w):Ws).map ai).flatten))],.h 0 (iI (((c+1):Nat):Int)),.aP [0,5,6]] hs (FO (ak h1) h2 (gE (k := .u64) h3) (aR h4) h5 (nG (k := .u64) h6) (sZ h7) (gd h8) (cj (Eq.refl (((c:Nat):Int):Int)) h1) (mm cx (z2:Ws) w h9) (aR h4)) hL
theorem dw(b c:Nat)(d z:Ws)(n:Nat){sin:cq}(hs:sin.all (fun p=>Nat.ble fn.ntmps p.1)=true)(hi:sin.all (fun p=>Cw p.1||(cq.get [(100000,(.pure (((z.take n):Ws).map ai).flatten))] p.1).isSome)=true)(h1:b≤c)(h2:av bT 281 [.row 100000 0 b 1] [(100000,(.pure ((d:Ws).map ai).flatten))] (.row 100000 0 n 1) [(100000,(.pure ((z:Ws).map ai).flatten))]):aj b c d sin (.row 100000 0 n 1) [(100000,(.pure (((z.take n):Ws).map ai).flatten))] :=
 Kv 114 [1,1,1] [.a,.q,.f,.h 1 (.bI [(100000,100000)] none (.row 100000 0 n 1) [(100000,(.pure ((z:Ws).map ai).flatten))]),.cut 100000 (n*1) (((z.take n):Ws).map ai).flatten,.ord [100000]] hs hi (y3 (ax h1) h2 (Bs cx (z:Ws) n))
end kY
namespace lK
@[reducible] def fn:Func:=Tryz.f280
def bK:List gC:=focus [0,2,0,2,0,0] [.code (aA fn)]
def inv1(len:Nat)(b:List UInt32)(vm Q4:Nat)(dN:List UInt32):St:=⟨[(0,(.row 100000 0 len 1)),(1,(.pv (ag b))),(4,(eU vm)),(8,(eI (len:Int))),(9,(eI (Q4:Int)))],[(100000,(.pure ((dN:List UInt32).map ai).flatten))]⟩
@[reducible] def aj(len:Nat)(b:List UInt32)(vm Q4:Nat)(dN:List UInt32)(sin:cq)(r:EV)(sout:cq):Prop:=LX bT fn bK (inv1 len b vm Q4 dN) sin r sout
theorem e0 (a : Ws) (c : Nat) (b : Ws) {r : EV} {sout : cq}  (hL : aj c b 0 0 a [(100000, (.pure ((a : Ws).map ai).flatten))] r sout) : av bT 280 [(.row 100000 0 c 1), (.pv (ag b))] [(100000, (.pure ((a : Ws).map ai).flatten))] r sout :=
 QY func280 78 [] [.q,.q,.aP [0,1,4,8,9]] True.intro hL
theorem l10(c:Nat)(b:Ws)(g i:Nat)(j z:Ws)(l s m d d1:Nat)(w:UInt32)(z1 d2:Nat){r:EV}{sout:cq}{sin:cq}(hs:sin.all (fun p=>Nat.ble fn.ntmps p.1)=true)(h1:i<c)(h2:av bT 278 [.row 100000 0 c 1,.pv (vI (i:Int))] [(100000,(.pure ((j:Ws).map ai).flatten))] (.pv (vU l)) [(100000,(.pure ((z:Ws).map ai).flatten))])(h3:(4294967296+l)%18446744073709551616=s)(h4:Cp 278 [ag b,(vI (i:Int))] (vU m))(h5:((s:Nat)-(m:Nat):Int)%18446744073709551616=(d:Int))(h6:((d:Nat)-(g:Nat):Int)%18446744073709551616=(d1:Int))(h7:d1%4294967296=w.toNat)(h8:d1/2^(min 32 64)=z1)(h9:((1:Nat)-(z1:Nat):Int)%18446744073709551616=(d2:Int))(dM:i<z.length)(gy:(i+1)<9223372036854775808)(hL:aj c b d2 (i+1) (z.set i w) sin r sout):aj c b g i j sin r sout :=
 Po 123 [1,1,1,1,1,1,1,1,1,2,2,1] [.a,.q,.t,.q,.ba [.o,.o,(.bI [(100000,100000)] none (.pv (vU l)) [(100000,(.pure ((z:Ws).map ai).flatten))]),iU s,.o,.o,(.pv (vU m)),iU d,.o,iU d1],.ba [.o,.o,.o,iW w,.o,iU z1,iU d2,(.nat i),(.cells (.pure (((z.set i w):Ws).map ai).flatten))],.h 0 (iI (((i+1):Nat):Int)),.aP [0,1,4,8,9]] hs (Pp (ak h1) h2 (iP h3) h4 (ir h5) (ir h6) (gd h7) (gE (k := .u64) h8) (ir h9) (cj (Eq.refl (((i:Nat):Int):Int)) h1) (mm cx (z:Ws) w dM) (aR gy)) hL
theorem dw(c:Nat)(b:Ws)(d g:Nat)(i:Ws){sin:cq}(hs:sin.all (fun p=>Nat.ble fn.ntmps p.1)=true)(hi:sin.all (fun p=>Cw p.1||(cq.get [(100000,(.pure ((i:Ws).map ai).flatten))] p.1).isSome)=true)(h1:c≤g):aj c b d g i sin (.pv (.aB [])) [(100000,(.pure ((i:Ws).map ai).flatten))] :=
 Kv 105 [1] [.a,.q,.f,.ord [100000]] hs hi (y1 (ax h1))
end lK
namespace kZ
@[reducible] def fn:Func:=Tryz.f280
def bK:List gC:=focus [0,2,0,2,0,0] [.code (aA fn)]
def inv1(len vj vm Q4:Nat)(dN po:List UInt32):St:=⟨[(0,(.row 100000 0 len 1)),(1,(.row 100001 0 vj 1)),(4,(eU vm)),(8,(eI (len:Int))),(9,(eI (Q4:Int)))],[(100000,(.pure ((dN:List UInt32).map ai).flatten)),(100001,(.pure ((po:List UInt32).map ai).flatten))]⟩
@[reducible] def aj(len vj vm Q4:Nat)(dN po:List UInt32)(sin:cq)(r:EV)(sout:cq):Prop:=LX bT fn bK (inv1 len vj vm Q4 dN po) sin r sout
theorem e0 (a : Ws) (c : Nat) (b : Ws) (d : Nat) {r : EV} {sout : cq}  (hL : aj c d 0 0 a b [(100000, (.pure ((a : Ws).map ai).flatten)), (100001, (.pure ((b : Ws).map ai).flatten))] r sout) : av bT 280 [(.row 100000 0 c 1), (.row 100001 0 d 1)] [(100000, (.pure ((a : Ws).map ai).flatten)), (100001, (.pure ((b : Ws).map ai).flatten))] r sout :=
 QY func280 78 [] [.q,.q,.aP [0,1,4,8,9]] True.intro hL
theorem l10(b c g i:Nat)(j l z:Ws)(m s:Nat)(z1:Ws)(n d d1:Nat)(w:UInt32)(z2 d2:Nat){r:EV}{sout:cq}{sin:cq}(hs:sin.all (fun p=>Nat.ble fn.ntmps p.1)=true)(h1:i<b)(h2:av bT 278 [.row 100000 0 b 1,.pv (vI (i:Int))] [(100000,(.pure ((j:Ws).map ai).flatten))] (.pv (vU m)) [(100000,(.pure ((z:Ws).map ai).flatten))])(h3:(4294967296+m)%18446744073709551616=s)(h4:av bT 278 [.row 100000 0 c 1,.pv (vI (i:Int))] [(100000,(.pure ((l:Ws).map ai).flatten))] (.pv (vU n)) [(100000,(.pure ((z1:Ws).map ai).flatten))])(h5:((s:Nat)-(n:Nat):Int)%18446744073709551616=(d:Int))(h6:((d:Nat)-(g:Nat):Int)%18446744073709551616=(d1:Int))(h7:d1%4294967296=w.toNat)(h8:d1/2^(min 32 64)=z2)(h9:((1:Nat)-(z2:Nat):Int)%18446744073709551616=(d2:Int))(dM:i<z.length)(gy:(i+1)<9223372036854775808)(hL:aj b c d2 (i+1) (z.set i w) z1 sin r sout):aj b c g i j l sin r sout :=
 Po 123 [1,1,1,1,1,1,1,1,1,2,2,1] [.a,.q,.t,.q,.ba [.o,.o,(.bI [(100000,100000)] none (.pv (vU m)) [(100000,(.pure ((z:Ws).map ai).flatten))]),iU s,.o,.o,(.bI [(100001,100000)] none (.pv (vU n)) [(100000,(.pure ((z1:Ws).map ai).flatten))]),iU d,.o,iU d1],.ba [.o,.o,.o,iW w,.o,iU z2,iU d2,(.nat i),(.cells (.pure (((z.set i w):Ws).map ai).flatten))],.h 0 (iI (((i+1):Nat):Int)),.aP [0,1,4,8,9]] hs (Pp (ak h1) h2 (iP h3) h4 (ir h5) (ir h6) (gd h7) (gE (k := .u64) h8) (ir h9) (cj (Eq.refl (((i:Nat):Int):Int)) h1) (mm cx (z:Ws) w dM) (aR gy)) hL
theorem dw(b c d g:Nat)(i j:Ws){sin:cq}(hs:sin.all (fun p=>Nat.ble fn.ntmps p.1)=true)(hi:sin.all (fun p=>Cw p.1||(cq.get [(100000,(.pure ((i:Ws).map ai).flatten)),(100001,(.pure ((j:Ws).map ai).flatten))] p.1).isSome)=true)(h1:b≤g):aj b c d g i j sin (.pv (.aB [])) [(100000,(.pure ((i:Ws).map ai).flatten)),(100001,(.pure ((j:Ws).map ai).flatten))] :=
 Kv 105 [1] [.a,.q,.f,.ord [100000,100001]] hs hi (y1 (ax h1))
end kZ
namespace kM
@[reducible] def fn:Func:=Tryz.f281
def bK:List gC:=focus [0,2,0,0,0] [.code (aA fn)]
def inv1(BU:Nat)(a:List UInt32):St:=⟨[(0,(.row 100000 0 BU 1))],[(100000,(.pure ((a:List UInt32).map ai).flatten))]⟩
@[reducible] def aj(BU:Nat)(a:List UInt32)(sin:cq)(r:EV)(sout:cq):Prop:=LX bT fn bK (inv1 BU a) sin r sout
theorem e0 (a : Ws) (b : Nat) {r : EV} {sout : cq}  (hL : aj b a [(100000, (.pure ((a : Ws).map ai).flatten))] r sout) : av bT 281 [(.row 100000 0 b 1)] [(100000, (.pure ((a : Ws).map ai).flatten))] r sout :=
 QY func281 75 [] [.q,.aP [0]] True.intro hL
theorem l10(b:Nat)(a:Ws)(k:Nat)(v:UInt32)(u:Nat){r:EV}{sout:cq}{sin:cq}(hs:sin.all (fun p=>Nat.ble fn.ntmps p.1)=true)(h1:0<b)(h2:aw ((b:Int)-1))(h3:((b:Int)-1)=(k:Int))(h4:k<b)(h5:a[k]? = some v)(h6:v.toNat=0)(h7:((b:Int)-1)=(u:Int))(h8:u≤b)(hL:aj u a sin r sout):aj b a sin r sout :=
 Po 102 [1,1,1,1,1,1,2,1,1,1,1,1,1,5] [.a,.ba [.o,.o,.o,.o,.o,.o,.o,(iI ((b:Int)-1)),(.nat k),(.ev (.pv (vW v))),.o,(.dec true)],.t,.ba [.o,.o,.o,(iI ((b:Int)-1)),(.ja 0 u [])],.aP [0]] hs (QZ (ak h1) (ak h1) (ak h1) (ak h1) (aX h2) (ak h1) (cj h3 h4) (ak h1) (j5 (enc:=ai) (f:=fun a=>(vW a)) (fun _=>rfl) h5) (ak h1) (ak h1) (aL h6) (aX h2) (Xk (Eq.refl (0:Int)) h7 (Or.inl (Eq.refl 0)) (Nat.zero_le u) h8)) hL
theorem dw(b:Nat)(a:Ws)(k:Nat)(v:UInt32){sin:cq}(hs:sin.all (fun p=>Nat.ble fn.ntmps p.1)=true)(hi:sin.all (fun p=>Cw p.1||(cq.get [(100000,(.pure (((a.take b):Ws).map ai).flatten))] p.1).isSome)=true)(h1:0<b)(h2:aw ((b:Int)-1))(h3:((b:Int)-1)=(k:Int))(h4:k<b)(h5:a[k]? = some v)(h6:v.toNat≠0):aj b a sin (.row 100000 0 b 1) [(100000,(.pure (((a.take b):Ws).map ai).flatten))] :=
 Kv 108 [1,1,1,1,1,1,2,1,1,1,1,1,1] [.a,.ba [.o,.o,.o,.o,.o,.o,.o,(iI ((b:Int)-1)),(.nat k),(.ev (.pv (vW v))),.o,(.dec true)],.f,.q,.cut 100000 (b*1) (((a.take b):Ws).map ai).flatten,.ord [100000]] hs hi (Fz (ak h1) (ak h1) (ak h1) (ak h1) (aX h2) (ak h1) (cj h3 h4) (ak h1) (j5 (enc:=ai) (f:=fun a=>(vW a)) (fun _=>rfl) h5) (ak h1) (ak h1) (aC h6) (Bs cx (a:Ws) b))
theorem ji(b:Nat)(a:Ws){sin:cq}(hs:sin.all (fun p=>Nat.ble fn.ntmps p.1)=true)(hi:sin.all (fun p=>Cw p.1||(cq.get [(100000,(.pure (((a.take b):Ws).map ai).flatten))] p.1).isSome)=true)(h1:b≤0):aj b a sin (.row 100000 0 b 1) [(100000,(.pure (((a.take b):Ws).map ai).flatten))] :=
 Kv 108 [1,1,1,1,1,1,1,1,1] [.a,.ba [.o,.o,.o,.o,.skip,.skip,.skip,.skip,.skip,.skip,.skip,(.dec false)],.a,.q,.cut 100000 (b*1) (((a.take b):Ws).map ai).flatten,.ord [100000]] hs hi (y9 (ax h1) (ax h1) (ax h1) (ax h1) (ax h1) (ax h1) (ax h1) (ax h1) (Bs cx (a:Ws) b))
end kM
namespace jo
@[reducible] def fn:Func:=Tryz.f293
def bK:List gC:=focus [0,2,0,0,2,1,2,0,2,0,0,2,0,0] [.code (aA fn)]
def inv1(Va:Int)(ZL:UInt32):St:=⟨[(3,(eI Va)),(4,(eW ZL))],[]⟩
@[reducible] def aj(Va:Int)(ZL:UInt32)(r:PV):Prop:=L bT fn bK (inv1 Va ZL) r
theorem e0(a:Ws)(h1:a.length=0):Cp 293 [ag a] (vI 0) :=
 eD func293 84 [1,1] [.q,.h 1 (iI (a.length:Int)),.t,.q] (y2 (au ai a) (aL h1))
theorem e1(a:Ws)(k:Nat)(v:UInt32){r:PV}(h1:a.length≠0)(h2:aw ((a.length:Int)-1))(h3:aw (32*((a.length:Int)-1)))(h4:((a.length:Int)-1)=(k:Int))(h5:a[k]? = some v)(hL:aj (32*((a.length:Int)-1)) v r):Cp 293 [ag a] r :=
 eG func293 102 [1,1,1,1,1,1,1,3] [.q,.h 1 (iI (a.length:Int)),.f,.ba [.o,(iI (a.length:Int)),(iI ((a.length:Int)-1)),(iI (32*((a.length:Int)-1)))],.ba [.o,.o,(iI (a.length:Int)),(iI ((a.length:Int)-1)),(.row k (ai v))],.aP [3,4]] (y8 (au ai a) (aC h1) (au ai a) (aX h2) (mR h3) (au ai a) (aX h2) (bU ai h4 h5)) hL
theorem l10(b:Int)(c z:UInt32){r:PV}(h1:0<c.toNat)(h2:aw (b+1))(h3:c.toNat/2^(min 1 32)=z.toNat)(hL:aj (b+1) z r):aj b c r :=
 lG 135 [1,1,1] [.a,.q,.t,.h 1 (iI (b+1)),.h 1 (iW z),.aP [3,4]] (y3 (ak h1) (xi h2) (q9 (k := .u64) h3)) hL
theorem dw(b:Int)(c:UInt32)(h1:c.toNat≤0):aj b c (vI b) :=
 lD 135 [1] [.a,.q,.f,.q] (y1 (ax h1))
end jo
end Go.Proofs.YtllmkadmohkbfaaGreatDoor.Sym.Path
end
