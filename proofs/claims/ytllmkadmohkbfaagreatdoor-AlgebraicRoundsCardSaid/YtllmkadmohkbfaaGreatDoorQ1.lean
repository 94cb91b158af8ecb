/- Lemmas for the statements of this seat. -/
import Derived.Test.YtllmkadmohkbfaaGreatDoorU0
noncomputable section
namespace Go.Proofs.YtllmkadmohkbfaaGreatDoor.Sym.Path
open Go Tryz
set_option maxRecDepth 20000
set_option linter.unusedVariables false
namespace jw
theorem e0(a b:au)(c d:Ws)(g i j:Bool)(k:Ws)(l:au)(h1:Cp 227 [a.pv] (aa c))(h2:Cp 227 [b.pv] (aa d))(h3:Cp 228 [a.pv] (vB g))(h4:Cp 228 [b.pv] (vB i))(h5:g=i)(h6:Cp 228 [a.pv] (vB j))(h7:Cp 230 [aa c,aa d] (aa k))(h8:Cp 229 [vB j,aa k] l.pv):Cp 146 [a.pv,b.pv] l.pv :=
 eD func146 90 [1,1,1,1,1,1,1,1] [.q,dr 4 2 [.none,(.pv (aa c)),.none,(.pv (aa d))],dr 5 0 [.none,(.pv (vB g)),.none,(.pv (vB i))],.t,.aR [.o,(.pv (vB j)),.o,.o,(.pv (aa k)),(.pv l.pv)]] (y8 h1 h2 h3 h4 (pM h5) h6 h7 h8)
theorem e1(a b:au)(c d:Ws)(g i:Bool)(j:Int)(k:Bool)(l:Ws)(m:au)(h1:Cp 227 [a.pv] (aa c))(h2:Cp 227 [b.pv] (aa d))(h3:Cp 228 [a.pv] (vB g))(h4:Cp 228 [b.pv] (vB i))(h5:g≠i)(h6:Cp 231 [aa c,aa d] (vI j))(h7:0≤j)(h8:Cp 228 [a.pv] (vB k))(h9:Cp 232 [aa c,aa d] (aa l))(dh:Cp 229 [vB k,aa l] m.pv):Cp 146 [a.pv,b.pv] m.pv :=
 eD func146 105 [1,1,1,1,1,1,1,1,1,1] [.q,dr 4 2 [.none,(.pv (aa c)),.none,(.pv (aa d))],dr 5 0 [.none,(.pv (vB g)),.none,(.pv (vB i))],.f,.h 2 (.pv (vI j)),.t,.aR [.o,(.pv (vB k)),.o,.o,(.pv (aa l)),(.pv m.pv)]] (F8 h1 h2 h3 h4 (uV h5) h6 (fo h7) h8 h9 dh)
theorem e2(a b:au)(c d:Ws)(g i:Bool)(j:Int)(k:Bool)(l:Ws)(m:au)(h1:Cp 227 [a.pv] (aa c))(h2:Cp 227 [b.pv] (aa d))(h3:Cp 228 [a.pv] (vB g))(h4:Cp 228 [b.pv] (vB i))(h5:g≠i)(h6:Cp 231 [aa c,aa d] (vI j))(h7:j<0)(h8:Cp 228 [b.pv] (vB k))(h9:Cp 232 [aa d,aa c] (aa l))(dh:Cp 229 [vB k,aa l] m.pv):Cp 146 [a.pv,b.pv] m.pv :=
 eD func146 108 [1,1,1,1,1,1,1,1,1,1] [.q,dr 4 2 [.none,(.pv (aa c)),.none,(.pv (aa d))],dr 5 0 [.none,(.pv (vB g)),.none,(.pv (vB i))],.f,.h 2 (.pv (vI j)),.f,.aR [.o,(.pv (vB k)),.o,.o,(.pv (aa l)),(.pv m.pv)]] (F8 h1 h2 h3 h4 (uV h5) h6 (gM h7) h8 h9 dh)
end jw
namespace pT
theorem e0(a b:au)(c d:Bool)(g i j:Ws)(k:au)(h1:Cp 228 [a.pv] (vB c))(h2:Cp 228 [b.pv] (vB d))(h3:Cp 227 [a.pv] (aa g))(h4:Cp 227 [b.pv] (aa i))(h5:Cp 233 [aa g,aa i] (aa j))(h6:Cp 229 [(vB (!(c==d))),aa j] k.pv):Cp 147 [a.pv,b.pv] k.pv :=
 eD func147 72 [1,1,1,1,1,1] [.q,dr 11 1 [.none,(.pv (vB c)),.none,(.pv (vB d)),.none,.none,(.pv (aa g)),.none,(.pv (aa i)),(.pv (aa j)),(.pv k.pv)]] (y6 h1 h2 h3 h4 h5 h6)
end pT
namespace pU
theorem e0(a:au)(b:Bool)(c:Ws)(d:au)(h1:Cp 228 [a.pv] (vB b))(h2:Cp 227 [a.pv] (aa c))(h3:Cp 229 [(vB (!b)),aa c] d.pv):Cp 170 [a.pv] d.pv :=
 eD func170 72 [1,1,1] [.q,dr 6 1 [.none,(.pv (vB b)),.none,.none,(.pv (aa c)),(.pv d.pv)]] (y3 h1 h2 h3)
end pU
namespace mM
theorem e0(n:Int)(m m1:Nat)(w:UInt32)(z:Nat)(w1:UInt32)(a:au)(h1:n%18446744073709551616=(m:Int))(h2:n<0)(h3:(0-(m:Int))%18446744073709551616=(m1:Int))(h4:m1%4294967296=w.toNat)(h5:m1/2^(min 32 64)=z)(h6:z%4294967296=w1.toNat)(h7:Cp 229 [(vB (decide (n<0))),(aa [w,w1])] a.pv):Cp 171 [vI n] a.pv :=
 eD func171 93 [1,1,1,1,1,1,3,1] [.q,.h 1 (iU m),.q,.t,.h 1 (iU m1),.aR [.o,.o,.o,iW w,.o,iU z,iW w1,(.js 0 0 (([w,w1]:Ws).map ag)),(.pv a.pv)]] (y8 (Em h1) (bR h2) (Bp h3) (cH h4) (cQ (k := .u64) h5) (cH h6) (jY aW ([w,w1]:Ws)) h7)
theorem e1(n:Int)(m:Nat)(w:UInt32)(z:Nat)(w1:UInt32)(a:au)(h1:n%18446744073709551616=(m:Int))(h2:0≤n)(h3:m%4294967296=w.toNat)(h4:m/2^(min 32 64)=z)(h5:z%4294967296=w1.toNat)(h6:Cp 229 [(vB (decide (n<0))),(aa [w,w1])] a.pv):Cp 171 [vI n] a.pv :=
 eD func171 93 [1,1,1,1,1,3,1] [.q,.h 1 (iU m),.q,.f,.aR [.o,.o,.o,iW w,.o,iU z,iW w1,(.js 0 0 (([w,w1]:Ws).map ag)),(.pv a.pv)]] (y7 (Em h1) (bf h2) (cH h3) (cQ (k := .u64) h4) (cH h5) (jY aW ([w,w1]:Ws)) h6)
end mM
namespace pV
theorem e0(a b c:au)(d:Int)(h1:Cp 254 [a.pv,b.pv] c.pv)(h2:Cp 211 [c.pv] (vI d)):Cp 190 [a.pv,b.pv] (vI d) :=
 eD func190 72 [1,1] [.q,.aR [.o,.o,(.pv c.pv),(.pv (vI d))]] (y2 h1 h2)
end pV
namespace pW
theorem e0(a b:au)(c d g:Ws)(i:au)(h1:Cp 227 [a.pv] (aa c))(h2:Cp 227 [b.pv] (aa d))(h3:Cp 255 [aa c,aa d] (aa g))(h4:Cp 229 [vB false,aa g] i.pv):Cp 191 [a.pv,b.pv] i.pv :=
 eD func191 72 [1,1,1,1] [.q,dr 6 1 [.none,(.pv (aa c)),.none,(.pv (aa d)),(.pv (aa g)),(.pv i.pv)]] (y4 h1 h2 h3 h4)
end pW
namespace iO
theorem e0(a:au)(b:Ws)(h1:Cp 227 [a.pv] (aa b))(h2:b.length=0):Cp 211 [a.pv] (vI 0) :=
 eD func211 84 [1,1,1] [.q,.aR [.o,(.pv (aa b)),(iI (b.length:Int))],.t,.q] (y3 h1 (an ag b) (aN h2))
theorem e1(a:au)(b:Ws)(c:Bool)(h1:Cp 227 [a.pv] (aa b))(h2:b.length≠0)(h3:Cp 228 [a.pv] (vB c))(h4:c=true):Cp 211 [a.pv] (vI (-1)) :=
 eD func211 99 [1,1,1,1,1] [.q,.aR [.o,(.pv (aa b)),(iI (b.length:Int))],.f,.h 1 (.pv (vB c)),.t,.q] (y5 h1 (an ag b) (aA h2) h3 h4)
theorem e2(a:au)(b:Ws)(c:Bool)(h1:Cp 227 [a.pv] (aa b))(h2:b.length≠0)(h3:Cp 228 [a.pv] (vB c))(h4:c=false):Cp 211 [a.pv] (vI 1) :=
 eD func211 102 [1,1,1,1,1] [.q,.aR [.o,(.pv (aa b)),(iI (b.length:Int))],.f,.h 1 (.pv (vB c)),.f,.q] (y5 h1 (an ag b) (aA h2) h3 h4)
end iO
namespace jx
@[reducible] def fn:Func:=Tryz.f223
theorem OT(a b:au)(cD div TS:List UInt32)(neg:Bool)(Yz TT TU:List UInt32):xZ bp oh fn.ntmps (bM (focus [0,2,0,0,2,1,2,0,2,0,0,2,0] [.code (ay fn)])) (np (bM (focus [0,2,0,0,2,1,2,0,2,0,0,2,0] [.code (ay fn)])) [0,5]) (ky (bM (focus [0,2,0,0,2,1,2,0,2,0,0,2,0] [.code (ay fn)])) [0,5]) [.none,(.js 0 0 (([(1:UInt32)]:List UInt32).map ag)),(.pv (aa Yz)),.none,(.pv (aa TT)),.none,(.pv (aa TU)),.none,.none] (Dd oh fn.ntmps (bM (focus [0,2,0,0,2,1,2,0,2,0,0,2,0] [.code (ay fn)])) [0,5] ⟨[(2,(.ptr 2 0)),(3,(.ptr 3 0)),(4,(.ptr 4 0)),(5,(.ptr 5 0)),(7,(.pv (aa div))),(8,(.pv (aa TS)))],[(5,(.lit [(eB false),(.pv (.list []))])),(4,(.lit [(eB false),(.pv (.list []))])),(3,(.lit [(eB b.neg),(.pv (aa b.cD))])),(2,(.lit [(eB a.neg),(.pv (aa a.cD))]))]⟩)=x5 bp oh fn.ntmps (bM (focus [0,2,0,0,2,1,2,0,2,0,0,2,0] [.code (ay fn)])) (np (bM (focus [0,2,0,0,2,1,2,0,2,0,0,2,0] [.code (ay fn)])) [0,5]) (ky (bM (focus [0,2,0,0,2,1,2,0,2,0,0,2,0] [.code (ay fn)])) [0,5]) [.none,(.js 0 0 (([(1:UInt32)]:List UInt32).map ag)),(.pv (aa Yz)),.none,(.pv (aa TT)),.none,(.pv (aa TU)),.none,.none] (Dd oh fn.ntmps (bM (focus [0,2,0,0,2,1,2,0,2,0,0,2,0] [.code (ay fn)])) [0,5] ⟨[(2,(.ptr 2 0)),(3,(.ptr 3 0)),(4,(.ptr 4 0)),(5,(.ptr 5 0)),(7,(.pv (aa div))),(8,(.pv (aa TS)))],[(5,(.lit [(eB false),(.pv (.list []))])),(4,(.lit [(eB false),(.pv (.list []))])),(3,(.lit [(eB b.neg),(.pv (aa b.cD))])),(2,(.lit [(eB a.neg),(.pv (aa a.cD))]))]⟩):=by kernel_rfl
theorem e1(a b:au)(c:Int)(d g i j:Ws)(k:Bool)(l m n:Ws)(p s:Bool)(u v:au)(h1:Cp 211 [b.pv] (vI c))(h2:c≠0)(h3:Cp 227 [a.pv] (aa d))(h4:Cp 227 [b.pv] (aa g))(h5:Cp 274 [aa d,aa g] (.aB [aa i,aa j]))(h6:Cp 228 [a.pv] (vB k))(h7:k=true)(h8:0<j.length)(h9:Cp 230 [aa i,(aa [(1:UInt32)])] (aa l))(dh:Cp 227 [b.pv] (aa m))(gb:Cp 232 [aa m,aa j] (aa n))(kh:Cp 228 [a.pv] (vB p))(pB:Cp 228 [b.pv] (vB s))(uL:Cp 229 [(vB (!(p==s))),aa l] u.pv)(oO:Cp 229 [vB false,aa n] v.pv):Cp 223 [a.pv,b.pv] (.aB [u.pv,v.pv,vI 0]) :=
 eD func223 108 [1,1,1,1,1,1,1,1,1,1,1,1,3,1,1,1,1,1,1,1,1] [.q,.h 1 (.pv (vI c)),.f,dr 9 1 [.none,(.pv (aa d)),.none,(.pv (aa g)),(.pv (.aB [aa i,aa j]))],.aR [.o,(.pv (vB k)),.o,.o,(iI (j.length:Int)),.o,(.dec true)],.t,.aF [2,3,4,5,7,8],.any [0,5] [.none,(.js 0 0 (([(1:UInt32)]:Ws).map ag)),(.pv (aa l)),.none,(.pv (aa m)),.none,(.pv (aa n)),.none,.none],dr 9 3 [.none,(.pv (vB p)),.none,(.pv (vB s)),.none,.none,(.pv u.pv),.none,(.pv v.pv)]] (Yo h1 (bg h2) h3 h4 h5 h6 h7 h7 (an ag j) h7 h7 (aj h8) (jY aW ([(1:UInt32)]:Ws)) h9 dh gb (OT a b d i j k l m n) kh pB uL oO)
theorem e2(a b:au)(c:Int)(d g i j:Ws)(k l m:Bool)(n p:au)(h1:Cp 211 [b.pv] (vI c))(h2:c≠0)(h3:Cp 227 [a.pv] (aa d))(h4:Cp 227 [b.pv] (aa g))(h5:Cp 274 [aa d,aa g] (.aB [aa i,aa j]))(h6:Cp 228 [a.pv] (vB k))(h7:k=true)(h8:j.length≤0)(h9:Cp 228 [a.pv] (vB l))(dh:Cp 228 [b.pv] (vB m))(gb:Cp 229 [(vB (!(l==m))),aa i] n.pv)(kh:Cp 229 [vB false,aa j] p.pv):Cp 223 [a.pv,b.pv] (.aB [n.pv,p.pv,vI 0]) :=
 eD func223 108 [1,1,1,1,1,1,1,1,1,1,1,1,1,1,1,1] [.q,.h 1 (.pv (vI c)),.f,dr 9 1 [.none,(.pv (aa d)),.none,(.pv (aa g)),(.pv (.aB [aa i,aa j]))],.aR [.o,(.pv (vB k)),.o,.o,(iI (j.length:Int)),.o,(.dec true)],.f,dr 9 3 [.none,(.pv (vB l)),.none,(.pv (vB m)),.none,.none,(.pv n.pv),.none,(.pv p.pv)]] (Hq h1 (bg h2) h3 h4 h5 h6 h7 h7 (an ag j) h7 h7 (ar h8) h9 dh gb kh)
theorem e3(a b:au)(c:Int)(d g i j:Ws)(k l m:Bool)(n p:au)(h1:Cp 211 [b.pv] (vI c))(h2:c≠0)(h3:Cp 227 [a.pv] (aa d))(h4:Cp 227 [b.pv] (aa g))(h5:Cp 274 [aa d,aa g] (.aB [aa i,aa j]))(h6:Cp 228 [a.pv] (vB k))(h7:k=false)(h8:Cp 228 [a.pv] (vB l))(h9:Cp 228 [b.pv] (vB m))(dh:Cp 229 [(vB (!(l==m))),aa i] n.pv)(gb:Cp 229 [vB false,aa j] p.pv):Cp 223 [a.pv,b.pv] (.aB [n.pv,p.pv,vI 0]) :=
 eD func223 108 [1,1,1,1,1,1,1,1,1,1,1,1,1,1] [.q,.h 1 (.pv (vI c)),.f,dr 9 1 [.none,(.pv (aa d)),.none,(.pv (aa g)),(.pv (.aB [aa i,aa j]))],.aR [.o,(.pv (vB k)),.o,.skip,.skip,.skip,(.dec false)],.a,dr 9 3 [.none,(.pv (vB l)),.none,(.pv (vB m)),.none,.none,(.pv n.pv),.none,(.pv p.pv)]] (Lk h1 (bg h2) h3 h4 h5 h6 h7 h7 h7 h7 h8 h9 dh gb)
end jx
namespace l6
theorem e0(a:au)(b:Bool)(h1:Cp 276 [a.pv] (vB b))(h2:b=false):Cp 227 [a.pv] (aa []) :=
 eD func227 84 [1,1] [.q,.h 1 (.pv (vB b)),.t,.q] (y2 h1 (cv h2))
theorem e1(a:au)(b:Bool)(h1:Cp 276 [a.pv] (vB b))(h2:b=true):Cp 227 [a.pv] (aa a.cD) :=
 eD func227 87 [1,1] [.q,.h 1 (.pv (vB b)),.f,.q] (y2 h1 (aO h2))
end l6
namespace l7
theorem e0(a:au)(b:Bool)(h1:Cp 276 [a.pv] (vB b))(h2:b=true):Cp 228 [a.pv] (vB a.neg) :=
 eD func228 72 [1,1,1,1] [.q,.aR [.o,(.pv (vB b)),.o,.o,.o,(.dec true)]] (y4 h1 h2 h2 h2)
theorem e1(a:au)(b:Bool)(h1:Cp 276 [a.pv] (vB b))(h2:b=false):Cp 228 [a.pv] (vB false) :=
 eD func228 72 [1,1,1,1] [.q,.aR [.o,(.pv (vB b)),.o,.skip,.skip,(.dec false)]] (y4 h1 h2 h2 h2)
end l7
namespace kX
theorem e0(a:Bool)(m b:Ws)(h1:Cp 277 [aa m] (aa b))(h2:b.length=0):Cp 229 [vB a,aa m] ((⟨false,[]⟩:au).pv) :=
 eD func229 90 [1,1,1] [.q,.h 1 (.pv (aa b)),.h 1 (iI (b.length:Int)),.t,.q] (y3 h1 (an ag b) (aN h2))
theorem e1(a:Bool)(m b:Ws)(h1:Cp 277 [aa m] (aa b))(h2:b.length≠0):Cp 229 [vB a,aa m] ((⟨a,b⟩:au).pv) :=
 eD func229 93 [1,1,1] [.q,.h 1 (.pv (aa b)),.h 1 (iI (b.length:Int)),.f,.q] (y3 h1 (an ag b) (aA h2))
end kX
namespace gi
@[reducible] def fn:Func:=Tryz.f230
def a7:List eH:=focus [0,2,0,2,0,2,0,0,2,0,0] [.code (ay fn)]
def inv1(a b Ae:List UInt32)(rS vA:Nat):St:=⟨[(0,(.pv (aa a))),(1,(.pv (aa b))),(5,(.row 31 0 Ae.length 1)),(6,(eU rS)),(14,(eI ((((max a.length b.length)+1):Nat):Int))),(15,(eI (vA:Int)))],[(31,(.pure ((Ae:List UInt32).map ag).flatten))]⟩
@[reducible] def ah(a b Ae:List UInt32)(rS vA:Nat)(r:PV):Prop:=L bp fn a7 (inv1 a b Ae rS vA) r
theorem e0(a b:Ws){r:PV}(h1:((max a.length b.length)+1)<9223372036854775808)(hL:ah a b [] 0 0 r):Cp 230 [aa a,aa b] r :=
 eG func230 93 [1,1,1,1] [.q,.h 0 .nil,.kx 5 31 1,.q,.aR [.o,(iI (a.length:Int)),.o,(iI (b.length:Int)),(iI (((max a.length b.length):Nat):Int)),(iI ((((max a.length b.length)+1):Nat):Int))],.aF [0,1,5,6,14,15]] (y4 (an ag a) (an ag b) (vv a.length b.length) (aM h1)) hL
theorem l10(a b c:Ws)(d g i j s s1:Nat)(w:UInt32)(z:Nat){r:PV}(h1:g<((max a.length b.length)+1))(h2:Cp 278 [aa a,(vI (g:Int))] (vU i))(h3:Cp 278 [aa b,(vI (g:Int))] (vU j))(h4:(i+j)%18446744073709551616=s)(h5:(s+d)%18446744073709551616=s1)(h6:s1%4294967296=w.toNat)(h7:((c++[w]):Ws).length*4≤140737488355328)(h8:s1/2^(min 32 64)=z)(h9:(g+1)<9223372036854775808)(hL:ah a b (c++[w]) z (g+1) r):ah a b c d g r :=
 lG 138 [1,1,1,1,1,1,6,1,1] [.a,.q,.t,.q,.aR [.o,.o,(.pv (vU i)),.o,.o,(.pv (vU j)),iU s,.o,iU s1],.aR [.o,.o,iW w,.o,(.app ((c++[w]):Ws).length (((c++[w]):Ws).map ag).flatten),.o,iU z],.h 0 (iI (((g+1):Nat):Int)),.aF [0,1,5,6,14,15],.drop [30]] (y9 (aj h1) h2 h3 (dH h4) (dH h5) (cH h6) (iK aW (c:Ws) ([w]:Ws) 4 (Eq.refl (c:Ws).length) (Eq.refl ([w]:Ws).length) h7 rfl) (cQ (k := .u64) h8) (aM h9)) hL
theorem cR(a b c:Ws)(d g:Nat)(i:Ws)(h1:((max a.length b.length)+1)≤g)(h2:Cp 277 [aa c] (aa i)):ah a b c d g (aa i) :=
 lD 126 [1,3,1] [.a,.q,.f,.fW 5 ((c:Ws).map ag),.h 1 (.pv (aa i))] (y3 (ar h1) (df aW (c:Ws) (Eq.refl (c:Ws).length)) h2)
end gi
namespace db
@[reducible] def fn:Func:=Tryz.f231
def a7:List eH:=focus [0,2,0,0,2,0,0] [.code (ay fn)]
def inv1(a b:List UInt32)(Bx:Int):St:=⟨[(0,(.pv (aa a))),(1,(.pv (aa b))),(5,(eI Bx))],[]⟩
@[reducible] def ah(a b:List UInt32)(Bx:Int)(r:PV):Prop:=L bp fn a7 (inv1 a b Bx) r
theorem e0(a b:Ws){r:PV}(h1:ax ((((max a.length b.length):Nat):Int)-1))(hL:ah a b ((((max a.length b.length):Nat):Int)-1) r):Cp 231 [aa a,aa b] r :=
 eG func231 81 [1,1,1,1] [.q,.aR [.o,(iI (a.length:Int)),.o,(iI (b.length:Int)),(iI (((max a.length b.length):Nat):Int)),(iI ((((max a.length b.length):Nat):Int)-1))],.aF [0,1,5]] (y4 (an ag a) (an ag b) (vv a.length b.length) (aT h1)) hL
theorem l10(a b:Ws)(c:Int)(d g i j:Nat)(h1:0≤c)(h2:Cp 278 [aa a,vI c] (vU d))(h3:Cp 278 [aa b,vI c] (vU g))(h4:d≠g)(h5:Cp 278 [aa a,vI c] (vU i))(h6:Cp 278 [aa b,vI c] (vU j))(h7:i<j):ah a b c (vI (-1)) :=
 lD 132 [1,1,1,1,1,1,1] [.a,.q,.t,.aR [.o,.o,(.pv (vU d)),.o,.o,(.pv (vU g))],.t,.aR [.o,.o,(.pv (vU i)),.o,.o,(.pv (vU j))],.t,.q] (y7 (fo h1) h2 h3 (ko h4) h5 h6 (aj h7))
theorem cR(a b:Ws)(c:Int)(d g i j:Nat)(h1:0≤c)(h2:Cp 278 [aa a,vI c] (vU d))(h3:Cp 278 [aa b,vI c] (vU g))(h4:d≠g)(h5:Cp 278 [aa a,vI c] (vU i))(h6:Cp 278 [aa b,vI c] (vU j))(h7:j≤i):ah a b c (vI 1) :=
 lD 135 [1,1,1,1,1,1,1] [.a,.q,.t,.aR [.o,.o,(.pv (vU d)),.o,.o,(.pv (vU g))],.t,.aR [.o,.o,(.pv (vU i)),.o,.o,(.pv (vU j))],.f,.q] (y7 (fo h1) h2 h3 (ko h4) h5 h6 (ar h7))
theorem kM(a b:Ws)(c:Int)(d g:Nat){r:PV}(h1:0≤c)(h2:Cp 278 [aa a,vI c] (vU d))(h3:Cp 278 [aa b,vI c] (vU g))(h4:d=g)(h5:ax (c-1))(hL:ah a b (c-1) r):ah a b c r :=
 lG 123 [1,1,1,1,1] [.a,.q,.t,.aR [.o,.o,(.pv (vU d)),.o,.o,(.pv (vU g))],.f,.h 1 (iI (c-1)),.aF [0,1,5]] (y5 (fo h1) h2 h3 (iJ h4) (aT h5)) hL
theorem tq(a b:Ws)(c:Int)(h1:c<0):ah a b c (vI 0) :=
 lD 114 [1] [.a,.q,.f,.q] (y1 (gM h1))
end db
namespace cT
@[reducible] def fn:Func:=Tryz.f231
def a7:List eH:=focus [0,2,0,0,2,0,0] [.code (ay fn)]
def inv1(len:Nat)(b:List UInt32)(Bx:Int)(bG:List UInt32):St:=⟨[(0,(.row 100000 0 len 1)),(1,(.pv (aa b))),(5,(eI Bx))],[(100000,(.pure ((bG:List UInt32).map ag).flatten))]⟩
@[reducible] def ah(len:Nat)(b:List UInt32)(Bx:Int)(bG:List UInt32)(sin:aS)(r:EV)(sout:aS):Prop:=LX bp fn a7 (inv1 len b Bx bG) sin r sout
theorem e0(a:Ws)(c:Nat)(b:Ws){r:EV}{sout:aS}(h1:ax ((((max c b.length):Nat):Int)-1))(hL:ah c b ((((max c b.length):Nat):Int)-1) a [(100000,(.pure ((a:Ws).map ag).flatten))] r sout):av bp 231 [(.row 100000 0 c 1),(.pv (aa b))] [(100000,(.pure ((a:Ws).map ag).flatten))] r sout :=
 Mp func231 81 [1,1,1] [.q,.aR [.o,.o,.o,(iI (b.length:Int)),(iI (((max c b.length):Nat):Int)),(iI ((((max c b.length):Nat):Int)-1))],.aF [0,1,5]] (y3 (an ag b) (vv c b.length) (aT h1)) hL
theorem l10(c:Nat)(b:Ws)(d:Int)(g z:Ws)(i j:Nat)(z1:Ws)(k l:Nat){sin:aS}(hs:sin.all (fun p=>Nat.ble fn.ntmps p.1)=true)(hi:sin.all (fun p=>v7 p.1||(aS.get [(100000,(.pure ((z1:Ws).map ag).flatten))] p.1).isSome)=true)(h1:0≤d)(h2:av bp 278 [.row 100000 0 c 1,.pv (vI d)] [(100000,(.pure ((g:Ws).map ag).flatten))] (.pv (vU i)) [(100000,(.pure ((z:Ws).map ag).flatten))])(h3:Cp 278 [aa b,vI d] (vU j))(h4:i≠j)(h5:av bp 278 [.row 100000 0 c 1,.pv (vI d)] [(100000,(.pure ((z:Ws).map ag).flatten))] (.pv (vU k)) [(100000,(.pure ((z1:Ws).map ag).flatten))])(h6:Cp 278 [aa b,vI d] (vU l))(h7:k<l):ah c b d g sin (.pv (vI (-1))) [(100000,(.pure ((z1:Ws).map ag).flatten))] :=
 Fi 132 [1,1,1,1,1,1,1] [.a,.q,.t,.aR [.o,.o,(.bO [(100000,100000)] none (.pv (vU i)) [(100000,(.pure ((z:Ws).map ag).flatten))]),.o,.o,(.pv (vU j))],.t,.aR [.o,.o,(.bO [(100000,100000)] none (.pv (vU k)) [(100000,(.pure ((z1:Ws).map ag).flatten))]),.o,.o,(.pv (vU l))],.t,.q,.ord [100000]] hs hi (y7 (fo h1) h2 h3 (ko h4) h5 h6 (aj h7))
theorem cR(c:Nat)(b:Ws)(d:Int)(g z:Ws)(i j:Nat)(z1:Ws)(k l:Nat){sin:aS}(hs:sin.all (fun p=>Nat.ble fn.ntmps p.1)=true)(hi:sin.all (fun p=>v7 p.1||(aS.get [(100000,(.pure ((z1:Ws).map ag).flatten))] p.1).isSome)=true)(h1:0≤d)(h2:av bp 278 [.row 100000 0 c 1,.pv (vI d)] [(100000,(.pure ((g:Ws).map ag).flatten))] (.pv (vU i)) [(100000,(.pure ((z:Ws).map ag).flatten))])(h3:Cp 278 [aa b,vI d] (vU j))(h4:i≠j)(h5:av bp 278 [.row 100000 0 c 1,.pv (vI d)] [(100000,(.pure ((z:Ws).map ag).flatten))] (.pv (vU k)) [(100000,(.pure ((z1:Ws).map ag).flatten))])(h6:Cp 278 [aa b,vI d] (vU l))(h7:l≤k):ah c b d g sin (.pv (vI 1)) [(100000,(.pure ((z1:Ws).map ag).flatten))] :=
 Fi 135 [1,1,1,1,1,1,1] [.a,.q,.t,.aR [.o,.o,(.bO [(100000,100000)] none (.pv (vU i)) [(100000,(.pure ((z:Ws).map ag).flatten))]),.o,.o,(.pv (vU j))],.t,.aR [.o,.o,(.bO [(100000,100000)] none (.pv (vU k)) [(100000,(.pure ((z1:Ws).map ag).flatten))]),.o,.o,(.pv (vU l))],.f,.q,.ord [100000]] hs hi (y7 (fo h1) h2 h3 (ko h4) h5 h6 (ar h7))
theorem kM(c:Nat)(b:Ws)(d:Int)(g z:Ws)(i j:Nat){r:EV}{sout:aS}{sin:aS}(hs:sin.all (fun p=>Nat.ble fn.ntmps p.1)=true)(h1:0≤d)(h2:av bp 278 [.row 100000 0 c 1,.pv (vI d)] [(100000,(.pure ((g:Ws).map ag).flatten))] (.pv (vU i)) [(100000,(.pure ((z:Ws).map ag).flatten))])(h3:Cp 278 [aa b,vI d] (vU j))(h4:i=j)(h5:ax (d-1))(hL:ah c b (d-1) z sin r sout):ah c b d g sin r sout :=
 KI 123 [1,1,1,1,1] [.a,.q,.t,.aR [.o,.o,(.bO [(100000,100000)] none (.pv (vU i)) [(100000,(.pure ((z:Ws).map ag).flatten))]),.o,.o,(.pv (vU j))],.f,.h 1 (iI (d-1)),.aF [0,1,5]] hs (y5 (fo h1) h2 h3 (iJ h4) (aT h5)) hL
theorem tq(c:Nat)(b:Ws)(d:Int)(g:Ws){sin:aS}(hs:sin.all (fun p=>Nat.ble fn.ntmps p.1)=true)(hi:sin.all (fun p=>v7 p.1||(aS.get [(100000,(.pure ((g:Ws).map ag).flatten))] p.1).isSome)=true)(h1:d<0):ah c b d g sin (.pv (vI 0)) [(100000,(.pure ((g:Ws).map ag).flatten))] :=
 Fi 114 [1] [.a,.q,.f,.q,.ord [100000]] hs hi (y1 (gM h1))
end cT
namespace cK
@[reducible] def fn:Func:=Tryz.f231
def a7:List eH:=focus [0,2,0,0,2,0,0] [.code (ay fn)]
def inv1(len oQ:Nat)(Bx:Int)(bG jG:List UInt32):St:=⟨[(0,(.row 100000 0 len 1)),(1,(.row 100001 0 oQ 1)),(5,(eI Bx))],[(100000,(.pure ((bG:List UInt32).map ag).flatten)),(100001,(.pure ((jG:List UInt32).map ag).flatten))]⟩
@[reducible] def ah(len oQ:Nat)(Bx:Int)(bG jG:List UInt32)(sin:aS)(r:EV)(sout:aS):Prop:=LX bp fn a7 (inv1 len oQ Bx bG jG) sin r sout
theorem e0(a:Ws)(c:Nat)(b:Ws)(d:Nat){r:EV}{sout:aS}(h1:ax ((((max c d):Nat):Int)-1))(hL:ah c d ((((max c d):Nat):Int)-1) a b [(100000,(.pure ((a:Ws).map ag).flatten)),(100001,(.pure ((b:Ws).map ag).flatten))] r sout):av bp 231 [(.row 100000 0 c 1),(.row 100001 0 d 1)] [(100000,(.pure ((a:Ws).map ag).flatten)),(100001,(.pure ((b:Ws).map ag).flatten))] r sout :=
 Mp func231 81 [1,1] [.q,.aR [.o,.o,.o,.o,(iI (((max c d):Nat):Int)),(iI ((((max c d):Nat):Int)-1))],.aF [0,1,5]] (y2 (vv c d) (aT h1)) hL
theorem l10(b c:Nat)(d:Int)(g i z:Ws)(j:Nat)(z1:Ws)(k:Nat)(z2:Ws)(l:Nat)(z3:Ws)(m:Nat){sin:aS}(hs:sin.all (fun p=>Nat.ble fn.ntmps p.1)=true)(hi:sin.all (fun p=>v7 p.1||(aS.get [(100000,(.pure ((z2:Ws).map ag).flatten)),(100001,(.pure ((z3:Ws).map ag).flatten))] p.1).isSome)=true)(h1:0≤d)(h2:av bp 278 [.row 100000 0 b 1,.pv (vI d)] [(100000,(.pure ((g:Ws).map ag).flatten))] (.pv (vU j)) [(100000,(.pure ((z:Ws).map ag).flatten))])(h3:av bp 278 [.row 100000 0 c 1,.pv (vI d)] [(100000,(.pure ((i:Ws).map ag).flatten))] (.pv (vU k)) [(100000,(.pure ((z1:Ws).map ag).flatten))])(h4:j≠k)(h5:av bp 278 [.row 100000 0 b 1,.pv (vI d)] [(100000,(.pure ((z:Ws).map ag).flatten))] (.pv (vU l)) [(100000,(.pure ((z2:Ws).map ag).flatten))])(h6:av bp 278 [.row 100000 0 c 1,.pv (vI d)] [(100000,(.pure ((z1:Ws).map ag).flatten))] (.pv (vU m)) [(100000,(.pure ((z3:Ws).map ag).flatten))])(h7:l<m):ah b c d g i sin (.pv (vI (-1))) [(100000,(.pure ((z2:Ws).map ag).flatten)),(100001,(.pure ((z3:Ws).map ag).flatten))] :=
 Fi 132 [1,1,1,1,1,1,1] [.a,.q,.t,.aR [.o,.o,(.bO [(100000,100000)] none (.pv (vU j)) [(100000,(.pure ((z:Ws).map ag).flatten))]),.o,.o,(.bO [(100001,100000)] none (.pv (vU k)) [(100000,(.pure ((z1:Ws).map ag).flatten))])],.t,.aR [.o,.o,(.bO [(100000,100000)] none (.pv (vU l)) [(100000,(.pure ((z2:Ws).map ag).flatten))]),.o,.o,(.bO [(100001,100000)] none (.pv (vU m)) [(100000,(.pure ((z3:Ws).map ag).flatten))])],.t,.q,.ord [100000,100001]] hs hi (y7 (fo h1) h2 h3 (ko h4) h5 h6 (aj h7))
theorem cR(b c:Nat)(d:Int)(g i z:Ws)(j:Nat)(z1:Ws)(k:Nat)(z2:Ws)(l:Nat)(z3:Ws)(m:Nat){sin:aS}(hs:sin.all (fun p=>Nat.ble fn.ntmps p.1)=true)(hi:sin.all (fun p=>v7 p.1||(aS.get [(100000,(.pure ((z2:Ws).map ag).flatten)),(100001,(.pure ((z3:Ws).map ag).flatten))] p.1).isSome)=true)(h1:0≤d)(h2:av bp 278 [.row 100000 0 b 1,.pv (vI d)] [(100000,(.pure ((g:Ws).map ag).flatten))] (.pv (vU j)) [(100000,(.pure ((z:Ws).map ag).flatten))])(h3:av bp 278 [.row 100000 0 c 1,.pv (vI d)] [(100000,(.pure ((i:Ws).map ag).flatten))] (.pv (vU k)) [(100000,(.pure ((z1:Ws).map ag).flatten))])(h4:j≠k)(h5:av bp 278 [.row 100000 0 b 1,.pv (vI d)] [(100000,(.pure ((z:Ws).map ag).flatten))] (.pv (vU l)) [(100000,(.pure ((z2:Ws).map ag).flatten))])(h6:av bp 278 [.row 100000 0 c 1,.pv (vI d)] [(100000,(.pure ((z1:Ws).map ag).flatten))] (.pv (vU m)) [(100000,(.pure ((z3:Ws).map ag).flatten))])(h7:m≤l):ah b c d g i sin (.pv (vI 1)) [(100000,(.pure ((z2:Ws).map ag).flatten)),(100001,(.pure ((z3:Ws).map ag).flatten))] :=
 Fi 135 [1,1,1,1,1,1,1] [.a,.q,.t,.aR [.o,.o,(.bO [(100000,100000)] none (.pv (vU j)) [(100000,(.pure ((z:Ws).map ag).flatten))]),.o,.o,(.bO [(100001,100000)] none (.pv (vU k)) [(100000,(.pure ((z1:Ws).map ag).flatten))])],.t,.aR [.o,.o,(.bO [(100000,100000)] none (.pv (vU l)) [(100000,(.pure ((z2:Ws).map ag).flatten))]),.o,.o,(.bO [(100001,100000)] none (.pv (vU m)) [(100000,(.pure ((z3:Ws).map ag).flatten))])],.f,.q,.ord [100000,100001]] hs hi (y7 (fo h1) h2 h3 (ko h4) h5 h6 (ar h7))
theorem kM(b c:Nat)(d:Int)(g i z:Ws)(j:Nat)(z1:Ws)(k:Nat){r:EV}{sout:aS}{sin:aS}(hs:sin.all (fun p=>Nat.ble fn.ntmps p.1)=true)(h1:0≤d)(h2:av bp 278 [.row 100000 0 b 1,.pv (vI d)] [(100000,(.pure ((g:Ws).map ag).flatten))] (.pv (vU j)) [(100000,(.pure ((z:Ws).map ag).flatten))])(h3:av bp 278 [.row 100000 0 c 1,.pv (vI d)] [(100000,(.pure ((i:Ws).map ag).flatten))] (.pv (vU k)) [(100000,(.pure ((z1:Ws).map ag).flatten))])(h4:j=k)(h5:ax (d-1))(hL:ah b c (d-1) z z1 sin r sout):ah b c d g i sin r sout :=
 KI 123 [1,1,1,1,1] [.a,.q,.t,.aR [.o,.o,(.bO [(100000,100000)] none (.pv (vU j)) [(100000,(.pure ((z:Ws).map ag).flatten))]),.o,.o,(.bO [(100001,100000)] none (.pv (vU k)) [(100000,(.pure ((z1:Ws).map ag).flatten))])],.f,.h 1 (iI (d-1)),.aF [0,1,5]] hs (y5 (fo h1) h2 h3 (iJ h4) (aT h5)) hL
theorem tq(b c:Nat)(d:Int)(g i:Ws){sin:aS}(hs:sin.all (fun p=>Nat.ble fn.ntmps p.1)=true)(hi:sin.all (fun p=>v7 p.1||(aS.get [(100000,(.pure ((g:Ws).map ag).flatten)),(100001,(.pure ((i:Ws).map ag).flatten))] p.1).isSome)=true)(h1:d<0):ah b c d g i sin (.pv (vI 0)) [(100000,(.pure ((g:Ws).map ag).flatten)),(100001,(.pure ((i:Ws).map ag).flatten))] :=
 Fi 114 [1] [.a,.q,.f,.q,.ord [100000,100001]] hs hi (y1 (gM h1))
end cK
namespace fI
@[reducible] def fn:Func:=Tryz.f232
def a7:List eH:=focus [0,2,0,2,0,2,0,0,2,0,0] [.code (ay fn)]
def inv1(a b om:List UInt32)(oM Ig:Nat):St:=⟨[(0,(.pv (aa a))),(1,(.pv (aa b))),(5,(.row 28 0 om.length 1)),(6,(eU oM)),(10,(eI (a.length:Int))),(11,(eI (Ig:Int)))],[(28,(.pure ((om:List UInt32).map ag).flatten))]⟩
@[reducible] def ah(a b om:List UInt32)(oM Ig:Nat)(r:PV):Prop:=L bp fn a7 (inv1 a b om oM Ig) r
theorem e0 (a b : Ws) {r : PV}  (hL : ah a b [] 0 0 r) : Cp 232 [aa a, aa b] r :=
 eG func232 93 [1] [.q,.h 0 .nil,.kx 5 28 1,.q,.h 1 (iI (a.length:Int)),.aF [0,1,5,6,10,11]] (y1 (an ag a)) hL
theorem l10(a b c:Ws)(g i j s l d d1:Nat)(w:UInt32)(z d2:Nat){r:PV}(h1:i<a.length)(h2:Cp 278 [aa a,(vI (i:Int))] (vU j))(h3:(4294967296+j)%18446744073709551616=s)(h4:Cp 278 [aa b,(vI (i:Int))] (vU l))(h5:((s:Nat)-(l:Nat):Int)%18446744073709551616=(d:Int))(h6:((d:Nat)-(g:Nat):Int)%18446744073709551616=(d1:Int))(h7:d1%4294967296=w.toNat)(h8:((c++[w]):Ws).length*4≤140737488355328)(h9:d1/2^(min 32 64)=z)(dh:((1:Nat)-(z:Nat):Int)%18446744073709551616=(d2:Int))(gb:(i+1)<9223372036854775808)(hL:ah a b (c++[w]) d2 (i+1) r):ah a b c g i r :=
 lG 138 [1,1,1,1,1,1,1,6,1,1,1] [.a,.q,.t,.q,.aR [.o,.o,(.pv (vU j)),iU s,.o,.o,(.pv (vU l)),iU d,.o,iU d1],.aR [.o,.o,iW w,.o,(.app ((c++[w]):Ws).length (((c++[w]):Ws).map ag).flatten),.o,iU z,iU d2],.h 0 (iI (((i+1):Nat):Int)),.aF [0,1,5,6,10,11],.drop [27]] (Dg (aj h1) h2 (dH h3) h4 (dx h5) (dx h6) (cH h7) (iK aW (c:Ws) ([w]:Ws) 4 (Eq.refl (c:Ws).length) (Eq.refl ([w]:Ws).length) h8 rfl) (cQ (k := .u64) h9) (dx dh) (aM gb)) hL
theorem cR(a b c:Ws)(d g:Nat)(i:Ws)(h1:a.length≤g)(h2:Cp 277 [aa c] (aa i)):ah a b c d g (aa i) :=
 lD 126 [1,3,1] [.a,.q,.f,.fW 5 ((c:Ws).map ag),.h 1 (.pv (aa i))] (y3 (ar h1) (df aW (c:Ws) (Eq.refl (c:Ws).length)) h2)
end fI
namespace cI
@[reducible] def fn:Func:=Tryz.f233
def a7:List eH:=focus [0,2,0,2,0,0,2,0,0] [.code (ay fn)]
def inv1(a b:List UInt32)(Ih:Nat)(iP:List UInt32):St:=⟨[(0,(.pv (aa a))),(1,(.pv (aa b))),(5,(.row 15 0 (a.length+b.length) 1)),(17,(eI (a.length:Int))),(18,(eI (Ih:Int)))],[(15,(.pure ((iP:List UInt32).map ag).flatten))]⟩
@[reducible] def ah(a b:List UInt32)(Ih:Nat)(iP:List UInt32)(r:PV):Prop:=L bp fn a7 (inv1 a b Ih iP) r
def oN:List eH:=focus [0,2,0,2,0,0,2,0,0,0,0,2,0,0,2,0,0,0,2,0,2,0,0,2,0,0] [.code (ay fn)]
def inv2(a b:List UInt32)(Ms r4 Ih Ro:Nat)(iP:List UInt32):St:=⟨[(0,(.pv (aa a))),(1,(.pv (aa b))),(5,(.row 15 0 (a.length+b.length) 1)),(6,(eI (Ms:Int))),(7,(eU r4)),(17,(eI (a.length:Int))),(18,(eI (Ih:Int))),(22,(eI (b.length:Int))),(23,(eI (Ro:Int)))],[(15,(.pure ((iP:List UInt32).map ag).flatten))]⟩
@[reducible] def bK(a b:List UInt32)(Ms r4 Ih Ro:Nat)(iP:List UInt32)(r:PV):Prop:=L bp fn oN (inv2 a b Ms r4 Ih Ro iP) r
theorem e0(a b:Ws){r:PV}(h1:(a.length+b.length)<9223372036854775808)(h2:4*(a.length+b.length)≤140737488355328)(hL:ah a b 0 (List.replicate (a.length+b.length) (0:UInt32)) r):Cp 233 [aa a,aa b] r :=
 eG func233 87 [1,1,1,5,1] [.q,.aR [.o,(iI (a.length:Int)),.o,(iI (b.length:Int)),(iI (((a.length+b.length):Nat):Int)),(.app (a.length+b.length) ((List.replicate (a.length+b.length) (0:UInt32):Ws).map ag).flatten)],.h 1 (iI (a.length:Int)),.aF [0,1,5,17,18]] (y5 (an ag a) (an ag b) (aM h1) (sR ag 0 4 (a.length+b.length) (Eq.refl ((((a.length+b.length):Nat):Int):Int)) h2 rfl) (an ag a)) hL
theorem l10(a b:Ws)(c:Nat)(d:Ws){r:PV}(h1:c<a.length)(hL:bK a b c 0 c 0 d r):ah a b c d r :=
 lG 138 [1,1] [.a,.q,.t,.q,.q,.h 1 (iI (b.length:Int)),.aF [0,1,5,6,7,17,18,22,23]] (y2 (aj h1) (an ag b)) hL
theorem cR(a b:Ws)(c:Nat)(d g:Ws)(h1:a.length≤c)(h2:(a.length+b.length)=d.length)(h3:Cp 277 [aa d] (aa g)):ah a b c d (aa g) :=
 lD 120 [1,3,1] [.a,.q,.f,.fW 5 ((d:Ws).map ag),.h 1 (.pv (aa g))] (y3 (ar h1) (df aW (d:Ws) h2) h3)
theorem Ac(a b:Ws)(c d g i:Nat)(j:Ws)(v v1:UInt32)(p:Nat)(v2:UInt32)(s s1:Nat)(w:UInt32)(z:Nat){r:PV}(h1:i<b.length)(h2:a[c]? = some v)(h3:b[i]? = some v1)(h4:(v.toNat*v1.toNat)%18446744073709551616=p)(h5:(c+i)<9223372036854775808)(h6:(c+i)<(a.length+b.length))(h7:j[(c+i)]? = some v2)(h8:(p+v2.toNat)%18446744073709551616=s)(h9:(s+d)%18446744073709551616=s1)(dh:s1%4294967296=w.toNat)(gb:s1/2^(min 32 64)=z)(kh:(c+i)<j.length)(pB:(i+1)<9223372036854775808)(hL:bK a b c z g (i+1) (j.set (c+i) w) r):bK a b c d g i j r :=
 lG 183 [1,3,1,3,1,1,1,2,1,1,1,1,1,1,1,2,2,1] [.a,.q,.t,.q,dr 21 1 [.none,.none,(.row c (ag v)),.none,iU v.toNat,.none,.none,(.row i (ag v1)),.none,iU v1.toNat,iU p,.none,.none,.none,(iI (((c+i):Nat):Int)),(.nat (c+i)),(.ev (.pv (vW v2))),iU v2.toNat,iU s,.none,iU s1],.aR [.o,.o,.o,(iI (((c+i):Nat):Int)),.o,iW w,.o,iU z,(.nat (c+i)),(.cells (.pure (((j.set (c+i) w):Ws).map ag).flatten))],.h 0 (iI (((i+1):Nat):Int)),.aF [0,1,5,6,7,17,18,22,23]] (TQ (aj h1) (bT ag (Eq.refl (((c:Nat):Int):Int)) h2) (nq v) (bT ag (Eq.refl (((i:Nat):Int):Int)) h3) (nq v1) (mI h4) (aM h5) (cj (Eq.refl ((((c+i):Nat):Int):Int)) h6) (gg (enc:=ag) (f:=fun a=>(vW a)) (fun _=>rfl) h7) (nq v2) (dH h8) (dH h9) (aM h5) (cH dh) (cQ (k := .u64) gb) (cj (Eq.refl ((((c+i):Nat):Int):Int)) h6) (hJ aW (j:Ws) w kh) (aM pB)) hL
theorem CN(a b:Ws)(c d g i:Nat)(j:Ws)(w:UInt32){r:PV}(h1:b.length≤i)(h2:(c+b.length)<9223372036854775808)(h3:d%4294967296=w.toNat)(h4:(c+b.length)<(a.length+b.length))(h5:(c+b.length)<j.length)(h6:(g+1)<9223372036854775808)(hL:ah a b (g+1) (j.set (c+b.length) w) r):bK a b c d g i j r :=
 lG 174 [1,1,1,1,2,2,1] [.a,.q,.f,.aR [.o,.o,.o,(iI (b.length:Int)),(iI (((c+b.length):Nat):Int)),.o,iW w,(.nat (c+b.length)),(.cells (.pure (((j.set (c+b.length) w):Ws).map ag).flatten))],.h 0 (iI (((g+1):Nat):Int)),.aF [0,1,5,17,18]] (y7 (ar h1) (an ag b) (aM h2) (cH h3) (cj (Eq.refl ((((c+b.length):Nat):Int):Int)) h4) (hJ aW (j:Ws) w h5) (aM h6)) hL
end cI
namespace pX
theorem e0(a b c d:au)(h1:Cp 170 [b.pv] c.pv)(h2:Cp 146 [a.pv,c.pv] d.pv):Cp 254 [a.pv,b.pv] d.pv :=
 eD func254 72 [1,1] [.q,dr 4 1 [.none,.none,(.pv c.pv),(.pv d.pv)]] (y2 h1 h2)
end pX
namespace aV
@[reducible] def fn:Func:=Tryz.f255
def a7:List eH:=focus [0,2,0,2,0,0,2,1,2,0,0,2,1,2,0,2,0,0,0] [.code (ay fn)]
def inv1(oR oS kY:Nat)(cU iN:List UInt32):St:=⟨[(0,(.row 7 0 oR 1)),(1,(.row 9 0 oS 1)),(5,(eI (kY:Int)))],[(7,(.pure ((cU:List UInt32).map ag).flatten)),(9,(.pure ((iN:List UInt32).map ag).flatten))]⟩
@[reducible] def ah(oR oS kY:Nat)(cU iN:List UInt32)(r:PV):Prop:=L bp fn a7 (inv1 oR oS kY cU iN) r
def oN:List eH:=focus [0,2,0,2,0,0,2,1,2,0,0,2,1,2,0,2,0,0,0,0,0,0,2,1,2,2,2,2,0,0,0] [.code (ay fn)]
def inv2(oR oS kY:Nat)(cU iN:List UInt32):St:=⟨[(0,(.row 7 0 oR 1)),(1,(.row 9 0 oS 1)),(5,(eI (kY:Int)))],[(7,(.pure ((cU:List UInt32).map ag).flatten)),(9,(.pure ((iN:List UInt32).map ag).flatten))]⟩
@[reducible] def bK(oR oS kY:Nat)(cU iN:List UInt32)(r:PV):Prop:=L bp fn oN (inv2 oR oS kY cU iN) r
def Mu:List eH:=focus [0,2,0,2,0,0,2,1,2,0,0,2,1,2,0,2,0,0,0,0,0,0,2,1,2,2,2,2,0,0,0,0,0,0,2,0,2,0,0,0,0] [.code (ay fn)]
def Mv(oR oS kY:Nat)(cU iN:List UInt32):St:=⟨[(0,(.row 7 0 oR 1)),(1,(.row 9 0 oS 1)),(5,(eI (kY:Int)))],[(7,(.pure ((cU:List UInt32).map ag).flatten)),(9,(.pure ((iN:List UInt32).map ag).flatten))]⟩
@[reducible] def mB(oR oS kY:Nat)(cU iN:List UInt32)(r:PV):Prop:=L bp fn Mu (Mv oR oS kY cU iN) r
def WB:List eH:=focus [0,2,0,2,0,0,2,1,2,0,0,2,1,2,0,2,0,0,0,0,0,0,2,1,2,2,2,2,0,0,0,0,0,0,2,1,2,2,2,2,0,0,2,0,0] [.code (ay fn)]
def WC(WD:List UInt32)(zO Rp:Nat):St:=⟨[(1,(.pv (aa WD))),(64,(eI (zO:Int))),(65,(eI (Rp:Int)))],[]⟩
@[reducible] def Gc(WD:List UInt32)(zO Rp:Nat)(r:PV):Prop:=L bp fn WB (WC WD zO Rp) r
def WE:List eH:=focus [0,2,0,2,0,0,2,1,2,0,0,2,1,2,0,2,0,0,0,0,0,0,2,1,2,2,2,2,0,0,0,0,0,0,2,0,2,0,0,0,0,0,0,0,2,1,2,2,2,2,0,0,0] [.code (ay fn)]
def WG(oR oS kY:Nat)(cU iN:List UInt32):St:=⟨[(0,(.row 7 0 oR 1)),(1,(.row 9 0 oS 1)),(5,(eI (kY:Int)))],[(7,(.pure ((cU:List UInt32).map ag).flatten)),(9,(.pure ((iN:List UInt32).map ag).flatten))]⟩
@[reducible] def BB(oR oS kY:Nat)(cU iN:List UInt32)(r:PV):Prop:=L bp fn WE (WG oR oS kY cU iN) r
theorem e0(a b z:Ws)(n:Nat)(z1:Ws)(n1:Nat)(h1:av bp 277 [.pv (aa a)] [] (.row 0 0 n 1) [(0,(.pure ((z:Ws).map ag).flatten))])(h2:av bp 277 [.pv (aa b)] [] (.row 0 0 n1 1) [(0,(.pure ((z1:Ws).map ag).flatten))])(h3:n=0)(h4:n1=z1.length):Cp 255 [aa a,aa b] (aa z1) :=
 eD func255 90 [1,1,1,3] [.q,.aR [.o,(.bO [] (some (0,7)) (.row 0 0 n 1) [(0,(.pure ((z:Ws).map ag).flatten))]),.o,(.bO [] (some (0,9)) (.row 0 0 n1 1) [(0,(.pure ((z1:Ws).map ag).flatten))])],.q,.t,.q,.fW 4 ((z1:Ws).map ag)] (y4 h1 h2 (aN h3) (df aW (z1:Ws) h4))
theorem e1(a b z:Ws)(n:Nat)(z1:Ws)(n1:Nat)(h1:av bp 277 [.pv (aa a)] [] (.row 0 0 n 1) [(0,(.pure ((z:Ws).map ag).flatten))])(h2:av bp 277 [.pv (aa b)] [] (.row 0 0 n1 1) [(0,(.pure ((z1:Ws).map ag).flatten))])(h3:n≠0)(h4:n1=0)(h5:n=z.length):Cp 255 [aa a,aa b] (aa z) :=
 eD func255 105 [1,1,1,1,3] [.q,.aR [.o,(.bO [] (some (0,7)) (.row 0 0 n 1) [(0,(.pure ((z:Ws).map ag).flatten))]),.o,(.bO [] (some (0,9)) (.row 0 0 n1 1) [(0,(.pure ((z1:Ws).map ag).flatten))])],.q,.f,.q,.t,.q,.fW 4 ((z:Ws).map ag)] (y5 h1 h2 (aA h3) (aN h4) (df aW (z:Ws) h5))
theorem e2(a b z:Ws)(n:Nat)(z1:Ws)(n1:Nat){r:PV}(h1:av bp 277 [.pv (aa a)] [] (.row 0 0 n 1) [(0,(.pure ((z:Ws).map ag).flatten))])(h2:av bp 277 [.pv (aa b)] [] (.row 0 0 n1 1) [(0,(.pure ((z1:Ws).map ag).flatten))])(h3:n≠0)(h4:n1≠0)(hL:ah n n1 0 z z1 r):Cp 255 [aa a,aa b] r :=
 eG func255 117 [1,1,1,1] [.q,.aR [.o,(.bO [] (some (0,7)) (.row 0 0 n 1) [(0,(.pure ((z:Ws).map ag).flatten))]),.o,(.bO [] (some (0,9)) (.row 0 0 n1 1) [(0,(.pure ((z1:Ws).map ag).flatten))])],.q,.f,.q,.f,.q,.aF [0,1,5],.ord [7,9]] (y4 h1 h2 (aA h3) (aA h4)) hL
theorem l10(b c d:Nat)(g i:Ws)(v z v1 z1:UInt32)(z2:Ws)(n:Nat)(z3:Ws)(n1:Nat){r:PV}(h1:0<b)(h2:g[0]? = some v)(h3:(v.toNat%4294967296) &&& (1%4294967296)=z.toNat)(h4:z.toNat=0)(h5:0<c)(h6:i[0]? = some v1)(h7:(v1.toNat%4294967296) &&& (1%4294967296)=z1.toNat)(h8:z1.toNat=0)(h9:av bp 279 [.row 100000 0 b 1] [(100000,(.pure ((g:Ws).map ag).flatten))] (.row 100000 0 n 1) [(100000,(.pure ((z2:Ws).map ag).flatten))])(dh:av bp 279 [.row 100000 0 c 1] [(100000,(.pure ((i:Ws).map ag).flatten))] (.row 100000 0 n1 1) [(100000,(.pure ((z3:Ws).map ag).flatten))])(gb:(d+1)<9223372036854775808)(hL:ah n n1 (d+1) z2 z3 r):ah b c d g i r :=
 lG 150 [2,1,1,1,1,2,1,1,1,1,1,1,1,1,1,1] [.a,.aR [.o,(.nat 0),(.ev (.pv (vW v))),iW z,.o,.o,.o,(.nat 0),(.ev (.pv (vW v1))),iW z1,.o,(.dec true)],.t,.aR [.o,(.bO [(7,100000)] none (.row 100000 0 n 1) [(100000,(.pure ((z2:Ws).map ag).flatten))]),.o,(.bO [(9,100000)] none (.row 100000 0 n1 1) [(100000,(.pure ((z3:Ws).map ag).flatten))])],.h 1 (iI (((d+1):Nat):Int)),.aF [0,1,5]] (Hq (cj (Eq.refl (0:Int)) h1) (gg (enc:=ag) (f:=fun a=>(vW a)) (fun _=>rfl) h2) (gd h3) (aN h4) (aN h4) (cj (Eq.refl (0:Int)) h5) (aN h4) (gg (enc:=ag) (f:=fun a=>(vW a)) (fun _=>rfl) h6) (aN h4) (gd h7) (aN h4) (aN h4) (aN h8) h9 dh (aM gb)) hL
theorem cR(b c d:Nat)(g i:Ws)(v z v1 z1:UInt32){r:PV}(h1:0<b)(h2:g[0]? = some v)(h3:(v.toNat%4294967296) &&& (1%4294967296)=z.toNat)(h4:z.toNat=0)(h5:0<c)(h6:i[0]? = some v1)(h7:(v1.toNat%4294967296) &&& (1%4294967296)=z1.toNat)(h8:z1.toNat≠0)(hL:bK b c d g i r):ah b c d g i r :=
 lG 153 [2,1,1,1,1,2,1,1,1,1,1,1,1] [.a,.aR [.o,(.nat 0),(.ev (.pv (vW v))),iW z,.o,.o,.o,(.nat 0),(.ev (.pv (vW v1))),iW z1,.o,(.dec true)],.f,.aF [0,1,5]] (Js (cj (Eq.refl (0:Int)) h1) (gg (enc:=ag) (f:=fun a=>(vW a)) (fun _=>rfl) h2) (gd h3) (aN h4) (aN h4) (cj (Eq.refl (0:Int)) h5) (aN h4) (gg (enc:=ag) (f:=fun a=>(vW a)) (fun _=>rfl) h6) (aN h4) (gd h7) (aN h4) (aN h4) (aA h8)) hL
theorem kM(b c d:Nat)(g i:Ws)(v z:UInt32){r:PV}(h1:0<b)(h2:g[0]? = some v)(h3:(v.toNat%4294967296) &&& (1%4294967296)=z.toNat)(h4:z.toNat≠0)(hL:bK b c d g i r):ah b c d g i r :=
 lG 153 [2,1,1,1,1,1,1,1,1] [.a,.aR [.o,(.nat 0),(.ev (.pv (vW v))),iW z,.o,.o,.skip,.skip,.skip,.skip,.skip,(.dec false)],.a,.aF [0,1,5]] (y9 (cj (Eq.refl (0:Int)) h1) (gg (enc:=ag) (f:=fun a=>(vW a)) (fun _=>rfl) h2) (gd h3) (aA h4) (aA h4) (aA h4) (aA h4) (aA h4) (aA h4)) hL
theorem Ac(b c d:Nat)(g i:Ws){r:PV}(h1:0<b)(hL:mB b c d g i r):bK b c d g i r :=
 lG 183 [1] [.a,.q,.t,.aF [0,1,5]] (y1 (aj h1)) hL
theorem CN(b c d:Nat)(g i:Ws){r:PV}(h1:b≤0)(h2:c=i.length)(hL:Gc i d 0 r):bK b c d g i r :=
 lG 195 [1,3] [.a,.q,.f,.q,.fW 1 ((i:Ws).map ag),.aF [1,64,65],.drop [7]] (y2 (ar h1) (df aW (i:Ws) h2)) hL
theorem WH(b c d:Nat)(g i:Ws)(v z:UInt32)(z1:Ws)(n:Nat){r:PV}(h1:0<b)(h2:g[0]? = some v)(h3:(v.toNat%4294967296) &&& (1%4294967296)=z.toNat)(h4:z.toNat=0)(h5:av bp 279 [.row 100000 0 b 1] [(100000,(.pure ((g:Ws).map ag).flatten))] (.row 100000 0 n 1) [(100000,(.pure ((z1:Ws).map ag).flatten))])(hL:mB n c d z1 i r):mB b c d g i r :=
 lG 210 [2,1,1,1,1] [.a,.aR [.o,(.nat 0),(.ev (.pv (vW v))),iW z],.t,.h 1 (.bO [(7,100000)] none (.row 100000 0 n 1) [(100000,(.pure ((z1:Ws).map ag).flatten))]),.aF [0,1,5]] (y5 (cj (Eq.refl (0:Int)) h1) (gg (enc:=ag) (f:=fun a=>(vW a)) (fun _=>rfl) h2) (gd h3) (aN h4) h5) hL
theorem TV(b c d:Nat)(g i:Ws)(v z:UInt32){r:PV}(h1:0<b)(h2:g[0]? = some v)(h3:(v.toNat%4294967296) &&& (1%4294967296)=z.toNat)(h4:z.toNat≠0)(hL:BB b c d g i r):mB b c d g i r :=
 lG 219 [2,1,1,1] [.a,.aR [.o,(.nat 0),(.ev (.pv (vW v))),iW z],.f,.aF [0,1,5]] (y4 (cj (Eq.refl (0:Int)) h1) (gg (enc:=ag) (f:=fun a=>(vW a)) (fun _=>rfl) h2) (gd h3) (aA h4)) hL
theorem Z0(b:Ws)(c d:Nat)(g:Ws){r:PV}(h1:d<c)(h2:Cp 230 [aa b,aa b] (aa g))(h3:(d+1)<9223372036854775808)(hL:Gc g c (d+1) r):Gc b c d r :=
 lG 228 [1,1,1] [.a,.q,.t,.h 2 (.pv (aa g)),.h 0 (iI (((d+1):Nat):Int)),.aF [1,64,65]] (y3 (aj h1) h2 (aM h3)) hL
theorem Z1(b:Ws)(c d:Nat)(h1:c≤d):Gc b c d (aa b) :=
 lD 228 [1] [.a,.q,.f,.q] (y1 (ar h1))
theorem Z2(b c d:Nat)(g i:Ws)(v z:UInt32)(z1:Ws)(n:Nat){r:PV}(h1:0<c)(h2:i[0]? = some v)(h3:(v.toNat%4294967296) &&& (1%4294967296)=z.toNat)(h4:z.toNat=0)(h5:av bp 279 [.row 100000 0 c 1] [(100000,(.pure ((i:Ws).map ag).flatten))] (.row 100000 0 n 1) [(100000,(.pure ((z1:Ws).map ag).flatten))])(hL:BB b n d g z1 r):BB b c d g i r :=
 lG 246 [2,1,1,1,1] [.a,.aR [.o,(.nat 0),(.ev (.pv (vW v))),iW z],.t,.h 1 (.bO [(9,100000)] none (.row 100000 0 n 1) [(100000,(.pure ((z1:Ws).map ag).flatten))]),.aF [0,1,5]] (y5 (cj (Eq.refl (0:Int)) h1) (gg (enc:=ag) (f:=fun a=>(vW a)) (fun _=>rfl) h2) (gd h3) (aN h4) h5) hL
theorem Z3(b c d:Nat)(g i:Ws)(v z:UInt32)(z1 z2:Ws)(j:Int)(z3 z4 z5:Ws)(n:Nat){r:PV}(h1:0<c)(h2:i[0]? = some v)(h3:(v.toNat%4294967296) &&& (1%4294967296)=z.toNat)(h4:z.toNat≠0)(h5:av bp 231 [.row 100000 0 b 1,.row 100001 0 c 1] [(100000,(.pure ((g:Ws).map ag).flatten)),(100001,(.pure ((i:Ws).map ag).flatten))] (.pv (vI j)) [(100000,(.pure ((z1:Ws).map ag).flatten)),(100001,(.pure ((z2:Ws).map ag).flatten))])(h6:j<0)(h7:av bp 280 [.row 100000 0 c 1,.row 100001 0 b 1] [(100000,(.pure ((z2:Ws).map ag).flatten)),(100001,(.pure ((z1:Ws).map ag).flatten))] (.pv (.aB [])) [(100000,(.pure ((z3:Ws).map ag).flatten)),(100001,(.pure ((z4:Ws).map ag).flatten))])(h8:av bp 281 [.row 100000 0 c 1] [(100000,(.pure ((z3:Ws).map ag).flatten))] (.row 100000 0 n 1) [(100000,(.pure ((z5:Ws).map ag).flatten))])(hL:bK n b d z5 z4 r):BB b c d g i r :=
 lG 273 [2,1,1,1,1,1,1,1] [.a,.aR [.o,(.nat 0),(.ev (.pv (vW v))),iW z],.f,.h 2 (.bO [(7,100000),(9,100001)] none (.pv (vI j)) [(100000,(.pure ((z1:Ws).map ag).flatten)),(100001,(.pure ((z2:Ws).map ag).flatten))]),.t,.q,.h 2 (.bO [(9,100000),(7,100001)] none (.pv (.aB [])) [(100000,(.pure ((z3:Ws).map ag).flatten)),(100001,(.pure ((z4:Ws).map ag).flatten))]),.h 1 (.bO [(9,100000)] none (.row 100000 0 n 1) [(100000,(.pure ((z5:Ws).map ag).flatten))]),.aF [0,1,5],.sV 9 71,.sV 7 9,.sV 71 7,.ord [7,9]] (y8 (cj (Eq.refl (0:Int)) h1) (gg (enc:=ag) (f:=fun a=>(vW a)) (fun _=>rfl) h2) (gd h3) (aA h4) h5 (bR h6) h7 h8) hL
theorem Z4(b c d:Nat)(g i:Ws)(v z:UInt32)(z1 z2:Ws)(j:Int)(z3 z4 z5:Ws)(n:Nat){r:PV}(h1:0<c)(h2:i[0]? = some v)(h3:(v.toNat%4294967296) &&& (1%4294967296)=z.toNat)(h4:z.toNat≠0)(h5:av bp 231 [.row 100000 0 b 1,.row 100001 0 c 1] [(100000,(.pure ((g:Ws).map ag).flatten)),(100001,(.pure ((i:Ws).map ag).flatten))] (.pv (vI j)) [(100000,(.pure ((z1:Ws).map ag).flatten)),(100001,(.pure ((z2:Ws).map ag).flatten))])(h6:0≤j)(h7:av bp 280 [.row 100000 0 b 1,.row 100001 0 c 1] [(100000,(.pure ((z1:Ws).map ag).flatten)),(100001,(.pure ((z2:Ws).map ag).flatten))] (.pv (.aB [])) [(100000,(.pure ((z3:Ws).map ag).flatten)),(100001,(.pure ((z4:Ws).map ag).flatten))])(h8:av bp 281 [.row 100000 0 b 1] [(100000,(.pure ((z3:Ws).map ag).flatten))] (.row 100000 0 n 1) [(100000,(.pure ((z5:Ws).map ag).flatten))])(hL:bK n c d z5 z4 r):BB b c d g i r :=
 lG 273 [2,1,1,1,1,1,1,1] [.a,.aR [.o,(.nat 0),(.ev (.pv (vW v))),iW z],.f,.h 2 (.bO [(7,100000),(9,100001)] none (.pv (vI j)) [(100000,(.pure ((z1:Ws).map ag).flatten)),(100001,(.pure ((z2:Ws).map ag).flatten))]),.f,.h 2 (.bO [(7,100000),(9,100001)] none (.pv (.aB [])) [(100000,(.pure ((z3:Ws).map ag).flatten)),(100001,(.pure ((z4:Ws).map ag).flatten))]),.h 1 (.bO [(7,100000)] none (.row 100000 0 n 1) [(100000,(.pure ((z5:Ws).map ag).flatten))]),.aF [0,1,5]] (y8 (cj (Eq.refl (0:Int)) h1) (gg (enc:=ag) (f:=fun a=>(vW a)) (fun _=>rfl) h2) (gd h3) (aA h4) h5 (bf h6) h7 h8) hL
end aV
namespace b7
@[reducible] def fn:Func:=Tryz.f274
def a7:List eH:=focus [0,2,0,2,0,2,0,0,2,0,0] [.code (ay fn)]
def inv1(a b:List UInt32)(Es:Int)(r5 cq:List UInt32):St:=⟨[(0,(.pv (aa a))),(1,(.pv (aa b))),(6,(.row 13 0 a.length 1)),(7,(.row 17 0 (b.length+1) 1)),(8,(eI Es))],[(13,(.pure ((r5:List UInt32).map ag).flatten)),(17,(.pure ((cq:List UInt32).map ag).flatten))]⟩
@[reducible] def ah(a b:List UInt32)(Es:Int)(r5 cq:List UInt32)(r:PV):Prop:=L bp fn a7 (inv1 a b Es r5 cq) r
def oN:List eH:=focus [0,2,0,2,0,2,0,0,2,0,0,0,0,0,2,0,2,0,0,0,2,0,0,2,0,0] [.code (ay fn)]
def inv2(a b:List UInt32)(Es:Int)(Ev:UInt32)(Rq:Nat)(r5 cq:List UInt32):St:=⟨[(0,(.pv (aa a))),(1,(.pv (aa b))),(6,(.row 13 0 a.length 1)),(7,(.row 17 0 (b.length+1) 1)),(8,(eI Es)),(9,(eW Ev)),(35,(eI (((b.length+1):Nat):Int))),(36,(eI (Rq:Int)))],[(13,(.pure ((r5:List UInt32).map ag).flatten)),(17,(.pure ((cq:List UInt32).map ag).flatten))]⟩
@[reducible] def bK(a b:List UInt32)(Es:Int)(Ev:UInt32)(Rq:Nat)(r5 cq:List UInt32)(r:PV):Prop:=L bp fn oN (inv2 a b Es Ev Rq r5 cq) r
theorem e0(a b:Ws)(c:Int){r:PV}(h1:4*a.length≤140737488355328)(h2:(b.length+1)<9223372036854775808)(h3:4*(b.length+1)≤140737488355328)(h4:Cp 293 [aa a] (vI c))(h5:ax (c-1))(hL:ah a b (c-1) (List.replicate a.length (0:UInt32)) (List.replicate (b.length+1) (0:UInt32)) r):Cp 274 [aa a,aa b] r :=
 eG func274 93 [1,5,1,1,5,1,1] [.q,.aR [.o,(iI (a.length:Int)),(.app a.length ((List.replicate a.length (0:UInt32):Ws).map ag).flatten)],.aR [.o,(iI (b.length:Int)),(iI (((b.length+1):Nat):Int)),(.app (b.length+1) ((List.replicate (b.length+1) (0:UInt32):Ws).map ag).flatten)],.aR [.o,(.pv (vI c)),(iI (c-1))],.aF [0,1,6,7,8],.ord [13,17]] (y7 (an ag a) (sR ag 0 4 a.length (Eq.refl (((a.length:Nat):Int):Int)) h1 rfl) (an ag b) (aM h2) (sR ag 0 4 (b.length+1) (Eq.refl ((((b.length+1):Nat):Int):Int)) h3 rfl) h4 (aT h5)) hL
theorem l10(a b:Ws)(c:Int)(d g:Ws)(k:Nat)(v:UInt32)(k1:Nat)(z z1:UInt32){r:PV}(h1:0≤c)(h2:c=(k:Int))(h3:k<9223372036854775808)(h4:a[(k/32)]? = some v)(h5:c=(k1:Int))(h6:v.toNat/2^(min (k1%32) 32)=z.toNat)(h7:(z.toNat%4294967296) &&& (1%4294967296)=z1.toNat)(hL:bK a b c z1 0 d g r):ah a b c d g r :=
 lG 138 [1,1,3,1,1,1] [.a,.q,.t,.aR [.o,.o,(iI (((k/32):Nat):Int)),(.row (k/32) (ag v)),.o,.o,(iI (((k1%32):Nat):Int)),iW z,iW z1],.q,.aF [0,1,6,7,8,9,35,36]] (y6 (fo h1) (OR h2 (wJ (y:=32) (by decide) h3)) (bT ag (Eq.refl ((((k/32):Nat):Int):Int)) h4) (OR h5 (Jr (x:=k1) (y:=32) (by decide))) (kU (k := .i64) h6) (gd h7)) hL
theorem cR(a b:Ws)(c:Int)(d g i j:Ws)(h1:c<0)(h2:a.length=d.length)(h3:(b.length+1)=g.length)(h4:Cp 277 [aa d] (aa i))(h5:Cp 277 [aa g] (aa j)):ah a b c d g (.aB [aa i,aa j]) :=
 lD 126 [1,3,3,1,1] [.a,.q,.f,.fW 6 ((d:Ws).map ag),.fW 7 ((g:Ws).map ag),.aR [.o,(.pv (aa i)),.o,(.pv (aa j))]] (y5 (gM h1) (df aW (d:Ws) h2) (df aW (g:Ws) h3) h4 h5)
theorem Ac(a b:Ws)(c:Int)(d:UInt32)(g:Nat)(i j:Ws)(v z z1 z2:UInt32){r:PV}(h1:g<(b.length+1))(h2:j[g]? = some v)(h3:(v.toNat*2^(min 1 32))%4294967296=z.toNat)(h4:(z.toNat%4294967296) ||| (d.toNat%4294967296)=z1.toNat)(h5:v.toNat/2^(min 31 32)=z2.toNat)(h6:g<j.length)(h7:(g+1)<9223372036854775808)(hL:bK a b c z2 (g+1) i (j.set g z1) r):bK a b c d g i j r :=
 lG 177 [1,2,1,1,1,2,1,1,2,2,1] [.a,.q,.t,.q,dr 16 1 [.none,.none,.none,.none,(.nat g),(.ev (.pv (vW v))),iW z,.none,iW z1,.none,.none,(.nat g),(.ev (.pv (vW v))),iW z2,(.nat g),(.cells (.pure (((j.set g z1):Ws).map ag).flatten))],.h 0 (iI (((g+1):Nat):Int)),.aF [0,1,6,7,8,9,35,36]] (Dg (aj h1) (cj (Eq.refl (((g:Nat):Int):Int)) h1) (gg (enc:=ag) (f:=fun a=>(vW a)) (fun _=>rfl) h2) (Bo (k := .u64) h3) (uc h4) (cj (Eq.refl (((g:Nat):Int):Int)) h1) (gg (enc:=ag) (f:=fun a=>(vW a)) (fun _=>rfl) h2) (kU (k := .u64) h5) (cj (Eq.refl (((g:Nat):Int):Int)) h1) (hJ aW (j:Ws) z1 h6) (aM h7)) hL
theorem CN(a b:Ws)(c:Int)(d:UInt32)(g:Nat)(i j z:Ws)(l:Int)(z1:Ws)(k:Nat)(v:UInt32)(k1:Nat)(z2 z3:UInt32){r:PV}(h1:(b.length+1)≤g)(h2:av bp 231 [.row 100000 0 (b.length+1) 1,.pv (aa b)] [(100000,(.pure ((j:Ws).map ag).flatten))] (.pv (vI l)) [(100000,(.pure ((z:Ws).map ag).flatten))])(h3:0≤l)(h4:av bp 280 [.row 100000 0 (b.length+1) 1,.pv (aa b)] [(100000,(.pure ((z:Ws).map ag).flatten))] (.pv (.aB [])) [(100000,(.pure ((z1:Ws).map ag).flatten))])(h5:c=(k:Int))(h6:k<9223372036854775808)(h7:(k/32)<a.length)(h8:i[(k/32)]? = some v)(h9:c=(k1:Int))(dh:(1*2^(min (k1%32) 32))%4294967296=z2.toNat)(gb:(v.toNat%4294967296) ||| (z2.toNat%4294967296)=z3.toNat)(kh:(k/32)<i.length)(pB:ax (c-1))(hL:ah a b (c-1) (i.set (k/32) z3) z1 r):bK a b c d g i j r :=
 lG 189 [1,1,1,1,1,2,1,1,1,1,2,2,1] [.a,.q,.f,.h 2 (.bO [(17,100000)] none (.pv (vI l)) [(100000,(.pure ((z:Ws).map ag).flatten))]),.t,.h 2 (.bO [(17,100000)] none (.pv (.aB [])) [(100000,(.pure ((z1:Ws).map ag).flatten))]),dr 10 1 [.none,.none,(iI (((k/32):Nat):Int)),(.nat (k/32)),(.ev (.pv (vW v))),.none,(iI (((k1%32):Nat):Int)),iW z2,iW z3,(.nat (k/32)),(.cells (.pure (((i.set (k/32) z3):Ws).map ag).flatten))],.h 1 (iI (c-1)),.aF [0,1,6,7,8]] (Js (ar h1) h2 (fo h3) h4 (OR h5 (wJ (y:=32) (by decide) h6)) (cj (Eq.refl ((((k/32):Nat):Int):Int)) h7) (gg (enc:=ag) (f:=fun a=>(vW a)) (fun _=>rfl) h8) (OR h9 (Jr (x:=k1) (y:=32) (by decide))) (Bo (k := .i64) dh) (uc gb) (cj (Eq.refl ((((k/32):Nat):Int):Int)) h7) (hJ aW (i:Ws) z3 kh) (aT pB)) hL
theorem Mt(a b:Ws)(c:Int)(d:UInt32)(g:Nat)(i j z:Ws)(k:Int){r:PV}(h1:(b.length+1)≤g)(h2:av bp 231 [.row 100000 0 (b.length+1) 1,.pv (aa b)] [(100000,(.pure ((j:Ws).map ag).flatten))] (.pv (vI k)) [(100000,(.pure ((z:Ws).map ag).flatten))])(h3:k<0)(h4:ax (c-1))(hL:ah a b (c-1) i z r):bK a b c d g i j r :=
 lG 183 [1,1,1,1] [.a,.q,.f,.h 2 (.bO [(17,100000)] none (.pv (vI k)) [(100000,(.pure ((z:Ws).map ag).flatten))]),.f,.h 1 (iI (c-1)),.aF [0,1,6,7,8]] (y4 (ar h1) h2 (gM h3) (aT h4)) hL
end b7
namespace kq
theorem e0(a:au)(h1:a.cD.length=0):Cp 276 [a.pv] (vB (!a.neg)) :=
 eD func276 84 [1,1] [.q,.h 2 (iI (a.cD.length:Int)),.t,.q] (y2 (an ag a.cD) (aN h1))
theorem e1(a:au)(k:Nat)(v:UInt32)(h1:a.cD.length≠0)(h2:ax ((a.cD.length:Int)-1))(h3:((a.cD.length:Int)-1)=(k:Int))(h4:a.cD[k]? = some v):Cp 276 [a.pv] (vB ((v.toNat:Int) != 0)) :=
 eD func276 87 [1,1,1,1,3] [.q,.h 2 (iI (a.cD.length:Int)),.f,.aR [.o,.o,.o,.o,(iI (a.cD.length:Int)),(iI ((a.cD.length:Int)-1)),(.row k (ag v))]] (y5 (an ag a.cD) (aA h1) (an ag a.cD) (aT h2) (bT ag h3 h4))
end kq
namespace eX
@[reducible] def fn:Func:=Tryz.f277
def a7:List eH:=focus [0,2,0,2,0,0,0] [.code (ay fn)]
def inv1(fP:List UInt32):St:=⟨[(3,(.row 6 0 fP.length 1))],[(6,(.pure ((fP:List UInt32).map ag).flatten))]⟩
@[reducible] def ah(fP:List UInt32)(r:PV):Prop:=L bp fn a7 (inv1 fP) r
theorem e0(a:Ws){r:PV}(h1:(([]:Ws)++a:Ws).length*4≤140737488355328)(hL:ah a r):Cp 277 [aa a] r :=
 eG func277 81 [6] [.q,.h 2 (.app (a:Ws).length ((a:Ws).map ag).flatten),.aF [3]] (y1 (rQ aW ([]:Ws) (a:Ws) 4 (Eq.refl ([]:Ws).length) h1 rfl)) hL
theorem l10(b:Ws)(k:Nat)(v:UInt32)(u:Nat){r:PV}(h1:0<b.length)(h2:ax ((b.length:Int)-1))(h3:((b.length:Int)-1)=(k:Int))(h4:k<b.length)(h5:b[k]? = some v)(h6:v.toNat=0)(h7:((b.length:Int)-1)=(u:Int))(h8:u≤(b:Ws).length)(hL:ah (b.take u) r):ah b r :=
 lG 108 [1,1,1,1,1,1,2,1,1,1,1,1,1,5,1] [.a,.aR [.o,.o,.o,.o,.o,.o,.o,(iI ((b.length:Int)-1)),(.nat k),(.ev (.pv (vW v))),.o,(.dec true)],.t,.aR [.o,.o,.o,(iI ((b.length:Int)-1)),(.js 0 ((b.take u).length) [])],.cut 6 (u*1) (((b.take u):Ws).map ag).flatten,.aF [3]] (KL (aj h1) (aj h1) (aj h1) (aj h1) (aT h2) (aj h1) (cj h3 h4) (aj h1) (gg (enc:=ag) (f:=fun a=>(vW a)) (fun _=>rfl) h5) (aj h1) (aj h1) (aN h6) (aT h2) (F7 (b:Ws) h7 h8) (uW aW (b:Ws) u)) hL
theorem cR(b:Ws)(k:Nat)(v:UInt32)(h1:0<b.length)(h2:ax ((b.length:Int)-1))(h3:((b.length:Int)-1)=(k:Int))(h4:k<b.length)(h5:b[k]? = some v)(h6:v.toNat≠0):ah b (aa b) :=
 lD 114 [1,1,1,1,1,1,2,1,1,1,1,1,3] [.a,.aR [.o,.o,.o,.o,.o,.o,.o,(iI ((b.length:Int)-1)),(.nat k),(.ev (.pv (vW v))),.o,(.dec true)],.f,.q,.fW 2 ((b:Ws).map ag)] (Js (aj h1) (aj h1) (aj h1) (aj h1) (aT h2) (aj h1) (cj h3 h4) (aj h1) (gg (enc:=ag) (f:=fun a=>(vW a)) (fun _=>rfl) h5) (aj h1) (aj h1) (aA h6) (df aW (b:Ws) (Eq.refl (b:Ws).length)))
theorem kM(b:Ws)(h1:b.length≤0):ah b (aa b) :=
 lD 114 [1,1,1,1,1,1,1,1,3] [.a,.aR [.o,.o,.o,.o,.skip,.skip,.skip,.skip,.skip,.skip,.skip,(.dec false)],.a,.q,.fW 2 ((b:Ws).map ag)] (y9 (ar h1) (ar h1) (ar h1) (ar h1) (ar h1) (ar h1) (ar h1) (ar h1) (df aW (b:Ws) (Eq.refl (b:Ws).length)))
end eX
namespace eN
@[reducible] def fn:Func:=Tryz.f277
def a7:List eH:=focus [0,2,0,2,0,0,0] [.code (ay fn)]
def inv1(fP:List UInt32):St:=⟨[(3,(.row 6 0 fP.length 1))],[(6,(.pure ((fP:List UInt32).map ag).flatten))]⟩
@[reducible] def ah(fP:List UInt32)(sin:aS)(r:EV)(sout:aS):Prop:=LX bp fn a7 (inv1 fP) sin r sout
theorem e0(a:Ws){r:EV}{sout:aS}(h1:(([]:Ws)++a:Ws).length*4≤140737488355328)(hL:ah a [] r sout):av bp 277 [(.pv (aa a))] [] r sout :=
 Mp func277 81 [6] [.q,.h 2 (.app (a:Ws).length ((a:Ws).map ag).flatten),.aF [3]] (y1 (rQ aW ([]:Ws) (a:Ws) 4 (Eq.refl ([]:Ws).length) h1 rfl)) hL
theorem l10(b:Ws)(k:Nat)(v:UInt32)(u:Nat){r:EV}{sout:aS}{sin:aS}(hs:sin.all (fun p=>Nat.ble fn.ntmps p.1)=true)(h1:0<b.length)(h2:ax ((b.length:Int)-1))(h3:((b.length:Int)-1)=(k:Int))(h4:k<b.length)(h5:b[k]? = some v)(h6:v.toNat=0)(h7:((b.length:Int)-1)=(u:Int))(h8:u≤(b:Ws).length)(hL:ah (b.take u) sin r sout):ah b sin r sout :=
 KI 108 [1,1,1,1,1,1,2,1,1,1,1,1,1,5,1] [.a,.aR [.o,.o,.o,.o,.o,.o,.o,(iI ((b.length:Int)-1)),(.nat k),(.ev (.pv (vW v))),.o,(.dec true)],.t,.aR [.o,.o,.o,(iI ((b.length:Int)-1)),(.js 0 ((b.take u).length) [])],.cut 6 (u*1) (((b.take u):Ws).map ag).flatten,.aF [3]] hs (KL (aj h1) (aj h1) (aj h1) (aj h1) (aT h2) (aj h1) (cj h3 h4) (aj h1) (gg (enc:=ag) (f:=fun a=>(vW a)) (fun _=>rfl) h5) (aj h1) (aj h1) (aN h6) (aT h2) (F7 (b:Ws) h7 h8) (uW aW (b:Ws) u)) hL
theorem cR(b:Ws)(k:Nat)(v:UInt32){sin:aS}(hs:sin.all (fun p=>Nat.ble fn.ntmps p.1)=true)(hi:sin.all (fun p=>v7 p.1||(aS.get [(0,(.pure ((b:Ws).map ag).flatten))] p.1).isSome)=true)(h1:0<b.length)(h2:ax ((b.length:Int)-1))(h3:((b.length:Int)-1)=(k:Int))(h4:k<b.length)(h5:b[k]? = some v)(h6:v.toNat≠0):ah b sin (.row 0 0 b.length 1) [(0,(.pure ((b:Ws).map ag).flatten))] :=
 Fi 114 [1,1,1,1,1,1,2,1,1,1,1,1] [.a,.aR [.o,.o,.o,.o,.o,.o,.o,(iI ((b.length:Int)-1)),(.nat k),(.ev (.pv (vW v))),.o,(.dec true)],.f,.q,.sV 6 0,.ord [0]] hs hi (KK (aj h1) (aj h1) (aj h1) (aj h1) (aT h2) (aj h1) (cj h3 h4) (aj h1) (gg (enc:=ag) (f:=fun a=>(vW a)) (fun _=>rfl) h5) (aj h1) (aj h1) (aA h6))
theorem kM(b:Ws){sin:aS}(hs:sin.all (fun p=>Nat.ble fn.ntmps p.1)=true)(hi:sin.all (fun p=>v7 p.1||(aS.get [(0,(.pure ((b:Ws).map ag).flatten))] p.1).isSome)=true)(h1:b.length≤0):ah b sin (.row 0 0 b.length 1) [(0,(.pure ((b:Ws).map ag).flatten))] :=
 Fi 114 [1,1,1,1,1,1,1,1] [.a,.aR [.o,.o,.o,.o,.skip,.skip,.skip,.skip,.skip,.skip,.skip,(.dec false)],.a,.q,.sV 6 0,.ord [0]] hs hi (y8 (ar h1) (ar h1) (ar h1) (ar h1) (ar h1) (ar h1) (ar h1) (ar h1))
end eN
namespace mN
theorem e0(a:Ws)(i:Int)(k:Nat)(v:UInt32)(h1:i<(a.length:Int))(h2:i=(k:Int))(h3:a[k]? = some v):Cp 278 [aa a,vI i] (vU v.toNat) :=
 eD func278 84 [1,1,3,1] [.q,.h 2 (iI (a.length:Int)),.t,.aR [.o,.o,(.row k (ag v)),.o,iU v.toNat]] (y4 (an ag a) (bR h1) (bT ag h2 h3) (nq v))
theorem e1(a:Ws)(i:Int)(h1:(a.length:Int)≤i):Cp 278 [aa a,vI i] (vU 0) :=
 eD func278 87 [1,1] [.q,.h 2 (iI (a.length:Int)),.f,.q] (y2 (an ag a) (bf h1))
end mN
namespace l8
theorem e0(a:Ws)(b:Nat)(i:Int)(k:Nat)(v:UInt32)(h1:i<(b:Int))(h2:i=(k:Int))(h3:k<b)(h4:a[k]? = some v):av bp 278 [(.row 100000 0 b 1),eI i] [(100000,(.pure ((a:Ws).map ag).flatten))] (.pv (vU v.toNat)) [(100000,(.pure ((a:Ws).map ag).flatten))] :=
 KJ func278 84 [1,2,1,1] [.q,.q,.t,.aR [.o,.o,(.nat k),(.ev (.pv (vW v))),iU v.toNat],.ord [100000]] (y4 (bR h1) (cj h2 h3) (gg (enc:=ag) (f:=fun a=>(vW a)) (fun _=>rfl) h4) (nq v))
theorem e1(a:Ws)(b:Nat)(i:Int)(h1:(b:Int)≤i):av bp 278 [(.row 100000 0 b 1),eI i] [(100000,(.pure ((a:Ws).map ag).flatten))] (.pv (vU 0)) [(100000,(.pure ((a:Ws).map ag).flatten))] :=
 KJ func278 87 [1] [.q,.q,.f,.q,.ord [100000]] (y1 (bf h1))
end l8
namespace fJ
@[reducible] def fn:Func:=Tryz.f279
def a7:List eH:=focus [0,2,0,0,2,0,0] [.code (ay fn)]
def inv1(len Rr:Nat)(bG:List UInt32):St:=⟨[(0,(.row 100000 0 len 1)),(5,(eI (len:Int))),(6,(eI (Rr:Int)))],[(100000,(.pure ((bG:List UInt32).map ag).flatten))]⟩
@[reducible] def ah(len Rr:Nat)(bG:List UInt32)(sin:aS)(r:EV)(sout:aS):Prop:=LX bp fn a7 (inv1 len Rr bG) sin r sout
theorem e0 (a : Ws) (b : Nat) {r : EV} {sout : aS}  (hL : ah b 0 a [(100000, (.pure ((a : Ws).map ag).flatten))] r sout) : av bp 279 [(.row 100000 0 b 1)] [(100000, (.pure ((a : Ws).map ag).flatten))] r sout :=
 Mp func279 81 [] [.q,.q,.aF [0,5,6]] True.intro hL
theorem l10(b c:Nat)(d z:Ws)(g z1:Nat)(z2:Ws)(i z3 z4:Nat)(w:UInt32){r:EV}{sout:aS}{sin:aS}(hs:sin.all (fun p=>Nat.ble fn.ntmps p.1)=true)(h1:c<b)(h2:av bp 278 [.row 100000 0 b 1,.pv (vI (c:Int))] [(100000,(.pure ((d:Ws).map ag).flatten))] (.pv (vU g)) [(100000,(.pure ((z:Ws).map ag).flatten))])(h3:g/2^(min 1 64)=z1)(h4:(c+1)<9223372036854775808)(h5:av bp 278 [.row 100000 0 b 1,.pv (vI (((c+1):Nat):Int))] [(100000,(.pure ((z:Ws).map ag).flatten))] (.pv (vU i)) [(100000,(.pure ((z2:Ws).map ag).flatten))])(h6:(i*2^(min 31 64))%18446744073709551616=z3)(h7:(z1%18446744073709551616) ||| (z3%18446744073709551616)=z4)(h8:z4%4294967296=w.toNat)(h9:c<z2.length)(hL:ah b (c+1) (z2.set c w) sin r sout):ah b c d sin r sout :=
 KI 120 [1,1,1,1,1,1,1,1,2,2,1] [.a,.q,.t,.q,.aR [.o,.o,.o,.o,(.bO [(100000,100000)] none (.pv (vU g)) [(100000,(.pure ((z:Ws).map ag).flatten))]),iU z1,.o,.o,(iI (((c+1):Nat):Int)),(.bO [(100000,100000)] none (.pv (vU i)) [(100000,(.pure ((z2:Ws).map ag).flatten))]),iU z3,iU z4,iW w,(.nat c),(.cells (.pure (((z2.set c w):Ws).map ag).flatten))],.h 0 (iI (((c+1):Nat):Int)),.aF [0,5,6]] hs (Dg (aj h1) h2 (cQ (k := .u64) h3) (aM h4) h5 (iH (k := .u64) h6) (mJ h7) (cH h8) (cj (Eq.refl (((c:Nat):Int):Int)) h1) (hJ aW (z2:Ws) w h9) (aM h4)) hL
theorem cR(b c:Nat)(d z:Ws)(n:Nat){sin:aS}(hs:sin.all (fun p=>Nat.ble fn.ntmps p.1)=true)(hi:sin.all (fun p=>v7 p.1||(aS.get [(100000,(.pure (((z.take n):Ws).map ag).flatten))] p.1).isSome)=true)(h1:b≤c)(h2:av bp 281 [.row 100000 0 b 1] [(100000,(.pure ((d:Ws).map ag).flatten))] (.row 100000 0 n 1) [(100000,(.pure ((z:Ws).map ag).flatten))]):ah b c d sin (.row 100000 0 n 1) [(100000,(.pure (((z.take n):Ws).map ag).flatten))] :=
 Fi 114 [1,1,1] [.a,.q,.f,.h 1 (.bO [(100000,100000)] none (.row 100000 0 n 1) [(100000,(.pure ((z:Ws).map ag).flatten))]),.cut 100000 (n*1) (((z.take n):Ws).map ag).flatten,.ord [100000]] hs hi (y3 (ar h1) h2 (uW aW (z:Ws) n))
end fJ
namespace gj
@[reducible] def fn:Func:=Tryz.f280
def a7:List eH:=focus [0,2,0,2,0,0] [.code (ay fn)]
def inv1(len:Nat)(b:List UInt32)(oT Mw:Nat)(bG:List UInt32):St:=⟨[(0,(.row 100000 0 len 1)),(1,(.pv (aa b))),(4,(eU oT)),(8,(eI (len:Int))),(9,(eI (Mw:Int)))],[(100000,(.pure ((bG:List UInt32).map ag).flatten))]⟩
@[reducible] def ah(len:Nat)(b:List UInt32)(oT Mw:Nat)(bG:List UInt32)(sin:aS)(r:EV)(sout:aS):Prop:=LX bp fn a7 (inv1 len b oT Mw bG) sin r sout
theorem e0 (a : Ws) (c : Nat) (b : Ws) {r : EV} {sout : aS}  (hL : ah c b 0 0 a [(100000, (.pure ((a : Ws).map ag).flatten))] r sout) : av bp 280 [(.row 100000 0 c 1), (.pv (aa b))] [(100000, (.pure ((a : Ws).map ag).flatten))] r sout :=
 Mp func280 78 [] [.q,.q,.aF [0,1,4,8,9]] True.intro hL
theorem l10(c:Nat)(b:Ws)(g i:Nat)(j z:Ws)(l s m d d1:Nat)(w:UInt32)(z1 d2:Nat){r:EV}{sout:aS}{sin:aS}(hs:sin.all (fun p=>Nat.ble fn.ntmps p.1)=true)(h1:i<c)(h2:av bp 278 [.row 100000 0 c 1,.pv (vI (i:Int))] [(100000,(.pure ((j:Ws).map ag).flatten))] (.pv (vU l)) [(100000,(.pure ((z:Ws).map ag).flatten))])(h3:(4294967296+l)%18446744073709551616=s)(h4:Cp 278 [aa b,(vI (i:Int))] (vU m))(h5:((s:Nat)-(m:Nat):Int)%18446744073709551616=(d:Int))(h6:((d:Nat)-(g:Nat):Int)%18446744073709551616=(d1:Int))(h7:d1%4294967296=w.toNat)(h8:d1/2^(min 32 64)=z1)(h9:((1:Nat)-(z1:Nat):Int)%18446744073709551616=(d2:Int))(dh:i<z.length)(gb:(i+1)<9223372036854775808)(hL:ah c b d2 (i+1) (z.set i w) sin r sout):ah c b g i j sin r sout :=
 KI 123 [1,1,1,1,1,1,1,1,1,2,2,1] [.a,.q,.t,.q,.aR [.o,.o,(.bO [(100000,100000)] none (.pv (vU l)) [(100000,(.pure ((z:Ws).map ag).flatten))]),iU s,.o,.o,(.pv (vU m)),iU d,.o,iU d1],.aR [.o,.o,.o,iW w,.o,iU z1,iU d2,(.nat i),(.cells (.pure (((z.set i w):Ws).map ag).flatten))],.h 0 (iI (((i+1):Nat):Int)),.aF [0,1,4,8,9]] hs (KK (aj h1) h2 (dH h3) h4 (dx h5) (dx h6) (cH h7) (cQ (k := .u64) h8) (dx h9) (cj (Eq.refl (((i:Nat):Int):Int)) h1) (hJ aW (z:Ws) w dh) (aM gb)) hL
theorem cR(c:Nat)(b:Ws)(d g:Nat)(i:Ws){sin:aS}(hs:sin.all (fun p=>Nat.ble fn.ntmps p.1)=true)(hi:sin.all (fun p=>v7 p.1||(aS.get [(100000,(.pure ((i:Ws).map ag).flatten))] p.1).isSome)=true)(h1:c≤g):ah c b d g i sin (.pv (.aB [])) [(100000,(.pure ((i:Ws).map ag).flatten))] :=
 Fi 105 [1] [.a,.q,.f,.ord [100000]] hs hi (y1 (ar h1))
end gj
namespace fK
@[reducible] def fn:Func:=Tryz.f280
def a7:List eH:=focus [0,2,0,2,0,0] [.code (ay fn)]
def inv1(len oQ oT Mw:Nat)(bG jG:List UInt32):St:=⟨[(0,(.row 100000 0 len 1)),(1,(.row 100001 0 oQ 1)),(4,(eU oT)),(8,(eI (len:Int))),(9,(eI (Mw:Int)))],[(100000,(.pure ((bG:List UInt32).map ag).flatten)),(100001,(.pure ((jG:List UInt32).map ag).flatten))]⟩
@[reducible] def ah(len oQ oT Mw:Nat)(bG jG:List UInt32)(sin:aS)(r:EV)(sout:aS):Prop:=LX bp fn a7 (inv1 len oQ oT Mw bG jG) sin r sout
theorem e0 (a : Ws) (c : Nat) (b : Ws) (d : Nat) {r : EV} {sout : aS}  (hL : ah c d 0 0 a b [(100000, (.pure ((a : Ws).map ag).flatten)), (100001, (.pure ((b : Ws).map ag).flatten))] r sout) : av bp 280 [(.row 100000 0 c 1), (.row 100001 0 d 1)] [(100000, (.pure ((a : Ws).map ag).flatten)), (100001, (.pure ((b : Ws).map ag).flatten))] r sout :=
 Mp func280 78 [] [.q,.q,.aF [0,1,4,8,9]] True.intro hL
theorem l10(b c g i:Nat)(j l z:Ws)(m s:Nat)(z1:Ws)(n d d1:Nat)(w:UInt32)(z2 d2:Nat){r:EV}{sout:aS}{sin:aS}(hs:sin.all (fun p=>Nat.ble fn.ntmps p.1)=true)(h1:i<b)(h2:av bp 278 [.row 100000 0 b 1,.pv (vI (i:Int))] [(100000,(.pure ((j:Ws).map ag).flatten))] (.pv (vU m)) [(100000,(.pure ((z:Ws).map ag).flatten))])(h3:(4294967296+m)%18446744073709551616=s)(h4:av bp 278 [.row 100000 0 c 1,.pv (vI (i:Int))] [(100000,(.pure ((l:Ws).map ag).flatten))] (.pv (vU n)) [(100000,(.pure ((z1:Ws).map ag).flatten))])(h5:((s:Nat)-(n:Nat):Int)%18446744073709551616=(d:Int))(h6:((d:Nat)-(g:Nat):Int)%18446744073709551616=(d1:Int))(h7:d1%4294967296=w.toNat)(h8:d1/2^(min 32 64)=z2)(h9:((1:Nat)-(z2:Nat):Int)%18446744073709551616=(d2:Int))(dh:i<z.length)(gb:(i+1)<9223372036854775808)(hL:ah b c d2 (i+1) (z.set i w) z1 sin r sout):ah b c g i j l sin r sout :=
 KI 123 [1,1,1,1,1,1,1,1,1,2,2,1] [.a,.q,.t,.q,.aR [.o,.o,(.bO [(100000,100000)] none (.pv (vU m)) [(100000,(.pure ((z:Ws).map ag).flatten))]),iU s,.o,.o,(.bO [(100001,100000)] none (.pv (vU n)) [(100000,(.pure ((z1:Ws).map ag).flatten))]),iU d,.o,iU d1],.aR [.o,.o,.o,iW w,.o,iU z2,iU d2,(.nat i),(.cells (.pure (((z.set i w):Ws).map ag).flatten))],.h 0 (iI (((i+1):Nat):Int)),.aF [0,1,4,8,9]] hs (KK (aj h1) h2 (dH h3) h4 (dx h5) (dx h6) (cH h7) (cQ (k := .u64) h8) (dx h9) (cj (Eq.refl (((i:Nat):Int):Int)) h1) (hJ aW (z:Ws) w dh) (aM gb)) hL
theorem cR(b c d g:Nat)(i j:Ws){sin:aS}(hs:sin.all (fun p=>Nat.ble fn.ntmps p.1)=true)(hi:sin.all (fun p=>v7 p.1||(aS.get [(100000,(.pure ((i:Ws).map ag).flatten)),(100001,(.pure ((j:Ws).map ag).flatten))] p.1).isSome)=true)(h1:b≤g):ah b c d g i j sin (.pv (.aB [])) [(100000,(.pure ((i:Ws).map ag).flatten)),(100001,(.pure ((j:Ws).map ag).flatten))] :=
 Fi 105 [1] [.a,.q,.f,.ord [100000,100001]] hs hi (y1 (ar h1))
end fK
namespace fD
@[reducible] def fn:Func:=Tryz.f281
def a7:List eH:=focus [0,2,0,0,0] [.code (ay fn)]
def inv1(vC:Nat)(a:List UInt32):St:=⟨[(0,(.row 100000 0 vC 1))],[(100000,(.pure ((a:List UInt32).map ag).flatten))]⟩
@[reducible] def ah(vC:Nat)(a:List UInt32)(sin:aS)(r:EV)(sout:aS):Prop:=LX bp fn a7 (inv1 vC a) sin r sout
theorem e0 (a : Ws) (b : Nat) {r : EV} {sout : aS}  (hL : ah b a [(100000, (.pure ((a : Ws).map ag).flatten))] r sout) : av bp 281 [(.row 100000 0 b 1)] [(100000, (.pure ((a : Ws).map ag).flatten))] r sout :=
 Mp func281 75 [] [.q,.aF [0]] True.intro hL
theorem l10(b:Nat)(a:Ws)(k:Nat)(v:UInt32)(u:Nat){r:EV}{sout:aS}{sin:aS}(hs:sin.all (fun p=>Nat.ble fn.ntmps p.1)=true)(h1:0<b)(h2:ax ((b:Int)-1))(h3:((b:Int)-1)=(k:Int))(h4:k<b)(h5:a[k]? = some v)(h6:v.toNat=0)(h7:((b:Int)-1)=(u:Int))(h8:u≤b)(hL:ah u a sin r sout):ah b a sin r sout :=
 KI 102 [1,1,1,1,1,1,2,1,1,1,1,1,1,5] [.a,.aR [.o,.o,.o,.o,.o,.o,.o,(iI ((b:Int)-1)),(.nat k),(.ev (.pv (vW v))),.o,(.dec true)],.t,.aR [.o,.o,.o,(iI ((b:Int)-1)),(.js 0 u [])],.aF [0]] hs (Lk (aj h1) (aj h1) (aj h1) (aj h1) (aT h2) (aj h1) (cj h3 h4) (aj h1) (gg (enc:=ag) (f:=fun a=>(vW a)) (fun _=>rfl) h5) (aj h1) (aj h1) (aN h6) (aT h2) (TO (Eq.refl (0:Int)) h7 (Or.inl (Eq.refl 0)) (Nat.zero_le u) h8)) hL
theorem cR(b:Nat)(a:Ws)(k:Nat)(v:UInt32){sin:aS}(hs:sin.all (fun p=>Nat.ble fn.ntmps p.1)=true)(hi:sin.all (fun p=>v7 p.1||(aS.get [(100000,(.pure (((a.take b):Ws).map ag).flatten))] p.1).isSome)=true)(h1:0<b)(h2:ax ((b:Int)-1))(h3:((b:Int)-1)=(k:Int))(h4:k<b)(h5:a[k]? = some v)(h6:v.toNat≠0):ah b a sin (.row 100000 0 b 1) [(100000,(.pure (((a.take b):Ws).map ag).flatten))] :=
 Fi 108 [1,1,1,1,1,1,2,1,1,1,1,1,1] [.a,.aR [.o,.o,.o,.o,.o,.o,.o,(iI ((b:Int)-1)),(.nat k),(.ev (.pv (vW v))),.o,(.dec true)],.f,.q,.cut 100000 (b*1) (((a.take b):Ws).map ag).flatten,.ord [100000]] hs hi (Js (aj h1) (aj h1) (aj h1) (aj h1) (aT h2) (aj h1) (cj h3 h4) (aj h1) (gg (enc:=ag) (f:=fun a=>(vW a)) (fun _=>rfl) h5) (aj h1) (aj h1) (aA h6) (uW aW (a:Ws) b))
theorem kM(b:Nat)(a:Ws){sin:aS}(hs:sin.all (fun p=>Nat.ble fn.ntmps p.1)=true)(hi:sin.all (fun p=>v7 p.1||(aS.get [(100000,(.pure (((a.take b):Ws).map ag).flatten))] p.1).isSome)=true)(h1:b≤0):ah b a sin (.row 100000 0 b 1) [(100000,(.pure (((a.take b):Ws).map ag).flatten))] :=
 Fi 108 [1,1,1,1,1,1,1,1,1] [.a,.aR [.o,.o,.o,.o,.skip,.skip,.skip,.skip,.skip,.skip,.skip,(.dec false)],.a,.q,.cut 100000 (b*1) (((a.take b):Ws).map ag).flatten,.ord [100000]] hs hi (y9 (ar h1) (ar h1) (ar h1) (ar h1) (ar h1) (ar h1) (ar h1) (ar h1) (uW aW (a:Ws) b))
end fD
namespace ee
@[reducible] def fn:Func:=Tryz.f293
def a7:List eH:=focus [0,2,0,0,2,1,2,0,2,0,0,2,0,0] [.code (ay fn)]
def inv1(Rn:Int)(WI:UInt32):St:=⟨[(3,(eI Rn)),(4,(eW WI))],[]⟩
@[reducible] def ah(Rn:Int)(WI:UInt32)(r:PV):Prop:=L bp fn a7 (inv1 Rn WI) r
theorem e0(a:Ws)(h1:a.length=0):Cp 293 [aa a] (vI 0) :=
 eD func293 84 [1,1] [.q,.h 1 (iI (a.length:Int)),.t,.q] (y2 (an ag a) (aN h1))
theorem e1(a:Ws)(k:Nat)(v:UInt32){r:PV}(h1:a.length≠0)(h2:ax ((a.length:Int)-1))(h3:ax (32*((a.length:Int)-1)))(h4:((a.length:Int)-1)=(k:Int))(h5:a[k]? = some v)(hL:ah (32*((a.length:Int)-1)) v r):Cp 293 [aa a] r :=
 eG func293 102 [1,1,1,1,1,1,1,3] [.q,.h 1 (iI (a.length:Int)),.f,.aR [.o,(iI (a.length:Int)),(iI ((a.length:Int)-1)),(iI (32*((a.length:Int)-1)))],.aR [.o,.o,(iI (a.length:Int)),(iI ((a.length:Int)-1)),(.row k (ag v))],.aF [3,4]] (y8 (an ag a) (aA h1) (an ag a) (aT h2) (vu h3) (an ag a) (aT h2) (bT ag h4 h5)) hL
theorem l10(b:Int)(c z:UInt32){r:PV}(h1:0<c.toNat)(h2:ax (b+1))(h3:c.toNat/2^(min 1 32)=z.toNat)(hL:ah (b+1) z r):ah b c r :=
 lG 135 [1,1,1] [.a,.q,.t,.h 1 (iI (b+1)),.h 1 (iW z),.aF [3,4]] (y3 (aj h1) (qC h2) (kU (k := .u64) h3)) hL
theorem cR(b:Int)(c:UInt32)(h1:c.toNat≤0):ah b c (vI b) :=
 lD 135 [1] [.a,.q,.f,.q] (y1 (ar h1))
end ee
end Go.Proofs.YtllmkadmohkbfaaGreatDoor.Sym.Path
end
