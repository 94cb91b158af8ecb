/- The comparison of algebraic numbers is a total order that agrees with the comparison with fractions. The law AlgebraicOrder returns true for every input, with the tables of numerals of the Go library that the row lists as they are laid. -/
import Derived.Test.YtllmkadmohkbfaaGreatDoorM0
namespace Go.Proofs.YtllmkadmohkbfaaGreatDoor.Sym.Path
open Go
set_option maxRecDepth 20000
set_option linter.unusedVariables false
namespace iG
theorem e0(a b:au)(c d:Ws)(g i j:Bool)(k:Ws)(l:au)(h1:Cp 227 [a.pv] (aa c))(h2:Cp 227 [b.pv] (aa d))(h3:Cp 228 [a.pv] (vB g))(h4:Cp 228 [b.pv] (vB i))(h5:g=i)(h6:Cp 228 [a.pv] (vB j))(h7:Cp 230 [aa c,aa d] (aa k))(h8:Cp 229 [vB j,aa k] l.pv):Cp 146 [a.pv,b.pv] l.pv :=
 eD Tryz.func146 90 [1,1,1,1,1,1,1,1] [.q,dr 4 2 [.none,(.pv (aa c)),.none,(.pv (aa d))],dr 5 0 [.none,(.pv (vB g)),.none,(.pv (vB i))],.t,.aV [.o,(.pv (vB j)),.o,.o,(.pv (aa k)),(.pv l.pv)]] (y8 h1 h2 h3 h4 (oi h5) h6 h7 h8)
theorem e1(a b:au)(c d:Ws)(g i:Bool)(j:Int)(k:Bool)(l:Ws)(m:au)(h1:Cp 227 [a.pv] (aa c))(h2:Cp 227 [b.pv] (aa d))(h3:Cp 228 [a.pv] (vB g))(h4:Cp 228 [b.pv] (vB i))(h5:g≠i)(h6:Cp 231 [aa c,aa d] (vI j))(h7:0≤j)(h8:Cp 228 [a.pv] (vB k))(h9:Cp 232 [aa c,aa d] (aa l))(ec:Cp 229 [vB k,aa l] m.pv):Cp 146 [a.pv,b.pv] m.pv :=
 eD Tryz.func146 105 [1,1,1,1,1,1,1,1,1,1] [.q,dr 4 2 [.none,(.pv (aa c)),.none,(.pv (aa d))],dr 5 0 [.none,(.pv (vB g)),.none,(.pv (vB i))],.f,.h 2 (.pv (vI j)),.t,.aV [.o,(.pv (vB k)),.o,.o,(.pv (aa l)),(.pv m.pv)]] (FA h1 h2 h3 h4 (tp h5) h6 (eH h7) h8 h9 ec)
theorem e2(a b:au)(c d:Ws)(g i:Bool)(j:Int)(k:Bool)(l:Ws)(m:au)(h1:Cp 227 [a.pv] (aa c))(h2:Cp 227 [b.pv] (aa d))(h3:Cp 228 [a.pv] (vB g))(h4:Cp 228 [b.pv] (vB i))(h5:g≠i)(h6:Cp 231 [aa c,aa d] (vI j))(h7:j<0)(h8:Cp 228 [b.pv] (vB k))(h9:Cp 232 [aa d,aa c] (aa l))(ec:Cp 229 [vB k,aa l] m.pv):Cp 146 [a.pv,b.pv] m.pv :=
 eD Tryz.func146 108 [1,1,1,1,1,1,1,1,1,1] [.q,dr 4 2 [.none,(.pv (aa c)),.none,(.pv (aa d))],dr 5 0 [.none,(.pv (vB g)),.none,(.pv (vB i))],.f,.h 2 (.pv (vI j)),.f,.aV [.o,(.pv (vB k)),.o,.o,(.pv (aa l)),(.pv m.pv)]] (FA h1 h2 h3 h4 (tp h5) h6 (jO h7) h8 h9 ec)
end iG
namespace ox
theorem e0(a b:au)(c d:Bool)(g i j:Ws)(k:au)(h1:Cp 228 [a.pv] (vB c))(h2:Cp 228 [b.pv] (vB d))(h3:Cp 227 [a.pv] (aa g))(h4:Cp 227 [b.pv] (aa i))(h5:Cp 233 [aa g,aa i] (aa j))(h6:Cp 229 [(vB (!(c==d))),aa j] k.pv):Cp 147 [a.pv,b.pv] k.pv :=
 eD Tryz.func147 72 [1,1,1,1,1,1] [.q,dr 11 1 [.none,(.pv (vB c)),.none,(.pv (vB d)),.none,.none,(.pv (aa g)),.none,(.pv (aa i)),(.pv (aa j)),(.pv k.pv)]] (y6 h1 h2 h3 h4 h5 h6)
end ox
namespace oy
theorem e0(a:au)(b:Bool)(c:Ws)(d:au)(h1:Cp 228 [a.pv] (vB b))(h2:Cp 227 [a.pv] (aa c))(h3:Cp 229 [(vB (!b)),aa c] d.pv):Cp 170 [a.pv] d.pv :=
 eD Tryz.func170 72 [1,1,1] [.q,dr 6 1 [.none,(.pv (vB b)),.none,.none,(.pv (aa c)),(.pv d.pv)]] (y3 h1 h2 h3)
end oy
namespace lW
theorem e0(n:Int)(m m1:Nat)(w:UInt32)(z:Nat)(w1:UInt32)(a:au)(h1:n%18446744073709551616=(m:Int))(h2:n<0)(h3:(0-(m:Int))%18446744073709551616=(m1:Int))(h4:m1%4294967296=w.toNat)(h5:m1/2^(min 32 64)=z)(h6:z%4294967296=w1.toNat)(h7:Cp 229 [(vB (decide (n<0))),(aa [w,w1])] a.pv):Cp 171 [vI n] a.pv :=
 eD Tryz.func171 93 [1,1,1,1,1,1,3,1] [.q,.h 1 (iU m),.q,.t,.h 1 (iU m1),.aV [.o,.o,.o,iW w,.o,iU z,iW w1,(.iL 0 0 (([w,w1]:Ws).map ag)),(.pv a.pv)]] (y8 (CQ h1) (bY h2) (zK h3) (cv h4) (cF (k := .u64) h5) (cv h6) (ki aY ([w,w1]:Ws)) h7)
theorem e1(n:Int)(m:Nat)(w:UInt32)(z:Nat)(w1:UInt32)(a:au)(h1:n%18446744073709551616=(m:Int))(h2:0≤n)(h3:m%4294967296=w.toNat)(h4:m/2^(min 32 64)=z)(h5:z%4294967296=w1.toNat)(h6:Cp 229 [(vB (decide (n<0))),(aa [w,w1])] a.pv):Cp 171 [vI n] a.pv :=
 eD Tryz.func171 93 [1,1,1,1,1,3,1] [.q,.h 1 (iU m),.q,.f,.aV [.o,.o,.o,iW w,.o,iU z,iW w1,(.iL 0 0 (([w,w1]:Ws).map ag)),(.pv a.pv)]] (y7 (CQ h1) (bD h2) (cv h3) (cF (k := .u64) h4) (cv h5) (ki aY ([w,w1]:Ws)) h6)
end lW
namespace oz
theorem e0(a b c:au)(d:Int)(h1:Cp 254 [a.pv,b.pv] c.pv)(h2:Cp 211 [c.pv] (vI d)):Cp 190 [a.pv,b.pv] (vI d) :=
 eD Tryz.func190 72 [1,1] [.q,.aV [.o,.o,(.pv c.pv),(.pv (vI d))]] (y2 h1 h2)
end oz
namespace oA
theorem e0(a b:au)(c d g:Ws)(i:au)(h1:Cp 227 [a.pv] (aa c))(h2:Cp 227 [b.pv] (aa d))(h3:Cp 255 [aa c,aa d] (aa g))(h4:Cp 229 [vB false,aa g] i.pv):Cp 191 [a.pv,b.pv] i.pv :=
 eD Tryz.func191 72 [1,1,1,1] [.q,dr 6 1 [.none,(.pv (aa c)),.none,(.pv (aa d)),(.pv (aa g)),(.pv i.pv)]] (y4 h1 h2 h3 h4)
end oA
namespace gV
theorem e0(a:au)(b:Ws)(h1:Cp 227 [a.pv] (aa b))(h2:b.length=0):Cp 211 [a.pv] (vI 0) :=
 eD Tryz.func211 84 [1,1,1] [.q,.aV [.o,(.pv (aa b)),(iI (b.length:Int))],.t,.q] (y3 h1 (an ag b) (aM h2))
theorem e1(a:au)(b:Ws)(c:Bool)(h1:Cp 227 [a.pv] (aa b))(h2:b.length≠0)(h3:Cp 228 [a.pv] (vB c))(h4:c=true):Cp 211 [a.pv] (vI (-1)) :=
 eD Tryz.func211 99 [1,1,1,1,1] [.q,.aV [.o,(.pv (aa b)),(iI (b.length:Int))],.f,.h 1 (.pv (vB c)),.t,.q] (y5 h1 (an ag b) (aB h2) h3 h4)
theorem e2(a:au)(b:Ws)(c:Bool)(h1:Cp 227 [a.pv] (aa b))(h2:b.length≠0)(h3:Cp 228 [a.pv] (vB c))(h4:c=false):Cp 211 [a.pv] (vI 1) :=
 eD Tryz.func211 102 [1,1,1,1,1] [.q,.aV [.o,(.pv (aa b)),(iI (b.length:Int))],.f,.h 1 (.pv (vB c)),.f,.q] (y5 h1 (an ag b) (aB h2) h3 h4)
end gV
namespace iH
@[reducible] noncomputable def fn:Func:=Tryz.f223
theorem Nd(a b:au)(ct div RZ:List UInt32)(neg:Bool)(Wy R0 R1:List UInt32):wA bp mU fn.ntmps (bC (focus [0,2,0,0,2,1,2,0,2,0,0,2,0] [.code (ay fn)])) (mf (bC (focus [0,2,0,0,2,1,2,0,2,0,0,2,0] [.code (ay fn)])) [0,5]) (jN (bC (focus [0,2,0,0,2,1,2,0,2,0,0,2,0] [.code (ay fn)])) [0,5]) [.none,(.iL 0 0 (([(1:UInt32)]:List UInt32).map ag)),(.pv (aa Wy)),.none,(.pv (aa R0)),.none,(.pv (aa R1)),.none,.none] (BF mU fn.ntmps (bC (focus [0,2,0,0,2,1,2,0,2,0,0,2,0] [.code (ay fn)])) [0,5] ⟨[(2,(.ptr 2 0)),(3,(.ptr 3 0)),(4,(.ptr 4 0)),(5,(.ptr 5 0)),(7,(.pv (aa div))),(8,(.pv (aa RZ)))],[(5,(.lit [(eB false),(.pv (.list []))])),(4,(.lit [(eB false),(.pv (.list []))])),(3,(.lit [(eB b.neg),(.pv (aa b.ct))])),(2,(.lit [(eB a.neg),(.pv (aa a.ct))]))]⟩)=wB bp mU fn.ntmps (bC (focus [0,2,0,0,2,1,2,0,2,0,0,2,0] [.code (ay fn)])) (mf (bC (focus [0,2,0,0,2,1,2,0,2,0,0,2,0] [.code (ay fn)])) [0,5]) (jN (bC (focus [0,2,0,0,2,1,2,0,2,0,0,2,0] [.code (ay fn)])) [0,5]) [.none,(.iL 0 0 (([(1:UInt32)]:List UInt32).map ag)),(.pv (aa Wy)),.none,(.pv (aa R0)),.none,(.pv (aa R1)),.none,.none] (BF mU fn.ntmps (bC (focus [0,2,0,0,2,1,2,0,2,0,0,2,0] [.code (ay fn)])) [0,5] ⟨[(2,(.ptr 2 0)),(3,(.ptr 3 0)),(4,(.ptr 4 0)),(5,(.ptr 5 0)),(7,(.pv (aa div))),(8,(.pv (aa RZ)))],[(5,(.lit [(eB false),(.pv (.list []))])),(4,(.lit [(eB false),(.pv (.list []))])),(3,(.lit [(eB b.neg),(.pv (aa b.ct))])),(2,(.lit [(eB a.neg),(.pv (aa a.ct))]))]⟩):=by kernel_rfl
theorem e1(a b:au)(c:Int)(d g i j:Ws)(k:Bool)(l m n:Ws)(p s:Bool)(u v:au)(h1:Cp 211 [b.pv] (vI c))(h2:c≠0)(h3:Cp 227 [a.pv] (aa d))(h4:Cp 227 [b.pv] (aa g))(h5:Cp 274 [aa d,aa g] (.aE [aa i,aa j]))(h6:Cp 228 [a.pv] (vB k))(h7:k=true)(h8:0<j.length)(h9:Cp 230 [aa i,(aa [(1:UInt32)])] (aa l))(ec:Cp 227 [b.pv] (aa m))(il:Cp 232 [aa m,aa j] (aa n))(mF:Cp 228 [a.pv] (vB p))(u9:Cp 228 [b.pv] (vB s))(EC:Cp 229 [(vB (!(p==s))),aa l] u.pv)(FC:Cp 229 [vB false,aa n] v.pv):Cp 223 [a.pv,b.pv] (.aE [u.pv,v.pv,vI 0]) :=
 eD Tryz.func223 108 [1,1,1,1,1,1,1,1,1,1,1,1,3,1,1,1,1,1,1,1,1] [.q,.h 1 (.pv (vI c)),.f,dr 9 1 [.none,(.pv (aa d)),.none,(.pv (aa g)),(.pv (.aE [aa i,aa j]))],.aV [.o,(.pv (vB k)),.o,.o,(iI (j.length:Int)),.o,(.dec true)],.t,.aH [2,3,4,5,7,8],.any [0,5] [.none,(.iL 0 0 (([(1:UInt32)]:Ws).map ag)),(.pv (aa l)),.none,(.pv (aa m)),.none,(.pv (aa n)),.none,.none],dr 9 3 [.none,(.pv (vB p)),.none,(.pv (vB s)),.none,.none,(.pv u.pv),.none,(.pv v.pv)]] (Wf h1 (bW h2) h3 h4 h5 h6 h7 h7 (an ag j) h7 h7 (ai h8) (ki aY ([(1:UInt32)]:Ws)) h9 ec il (Nd a b d i j k l m n) mF u9 EC FC)
theorem e2(a b:au)(c:Int)(d g i j:Ws)(k l m:Bool)(n p:au)(h1:Cp 211 [b.pv] (vI c))(h2:c≠0)(h3:Cp 227 [a.pv] (aa d))(h4:Cp 227 [b.pv] (aa g))(h5:Cp 274 [aa d,aa g] (.aE [aa i,aa j]))(h6:Cp 228 [a.pv] (vB k))(h7:k=true)(h8:j.length≤0)(h9:Cp 228 [a.pv] (vB l))(ec:Cp 228 [b.pv] (vB m))(il:Cp 229 [(vB (!(l==m))),aa i] n.pv)(mF:Cp 229 [vB false,aa j] p.pv):Cp 223 [a.pv,b.pv] (.aE [n.pv,p.pv,vI 0]) :=
 eD Tryz.func223 108 [1,1,1,1,1,1,1,1,1,1,1,1,1,1,1,1] [.q,.h 1 (.pv (vI c)),.f,dr 9 1 [.none,(.pv (aa d)),.none,(.pv (aa g)),(.pv (.aE [aa i,aa j]))],.aV [.o,(.pv (vB k)),.o,.o,(iI (j.length:Int)),.o,(.dec true)],.f,dr 9 3 [.none,(.pv (vB l)),.none,(.pv (vB m)),.none,.none,(.pv n.pv),.none,(.pv p.pv)]] (FB h1 (bW h2) h3 h4 h5 h6 h7 h7 (an ag j) h7 h7 (ar h8) h9 ec il mF)
theorem e3(a b:au)(c:Int)(d g i j:Ws)(k l m:Bool)(n p:au)(h1:Cp 211 [b.pv] (vI c))(h2:c≠0)(h3:Cp 227 [a.pv] (aa d))(h4:Cp 227 [b.pv] (aa g))(h5:Cp 274 [aa d,aa g] (.aE [aa i,aa j]))(h6:Cp 228 [a.pv] (vB k))(h7:k=false)(h8:Cp 228 [a.pv] (vB l))(h9:Cp 228 [b.pv] (vB m))(ec:Cp 229 [(vB (!(l==m))),aa i] n.pv)(il:Cp 229 [vB false,aa j] p.pv):Cp 223 [a.pv,b.pv] (.aE [n.pv,p.pv,vI 0]) :=
 eD Tryz.func223 108 [1,1,1,1,1,1,1,1,1,1,1,1,1,1] [.q,.h 1 (.pv (vI c)),.f,dr 9 1 [.none,(.pv (aa d)),.none,(.pv (aa g)),(.pv (.aE [aa i,aa j]))],.aV [.o,(.pv (vB k)),.o,.skip,.skip,.skip,(.dec false)],.a,dr 9 3 [.none,(.pv (vB l)),.none,(.pv (vB m)),.none,.none,(.pv n.pv),.none,(.pv p.pv)]] (Km h1 (bW h2) h3 h4 h5 h6 h7 h7 h7 h7 h8 h9 ec il)
end iH
namespace lh
theorem e0(a:au)(b:Bool)(h1:Cp 276 [a.pv] (vB b))(h2:b=false):Cp 227 [a.pv] (aa []) :=
 eD Tryz.func227 84 [1,1] [.q,.h 1 (.pv (vB b)),.t,.q] (y2 h1 (cf h2))
theorem e1(a:au)(b:Bool)(h1:Cp 276 [a.pv] (vB b))(h2:b=true):Cp 227 [a.pv] (aa a.ct) :=
 eD Tryz.func227 87 [1,1] [.q,.h 1 (.pv (vB b)),.f,.q] (y2 h1 (aU h2))
end lh
namespace lj
theorem e0(a:au)(b:Bool)(h1:Cp 276 [a.pv] (vB b))(h2:b=true):Cp 228 [a.pv] (vB a.neg) :=
 eD Tryz.func228 72 [1,1,1,1] [.q,.aV [.o,(.pv (vB b)),.o,.o,.o,(.dec true)]] (y4 h1 h2 h2 h2)
theorem e1(a:au)(b:Bool)(h1:Cp 276 [a.pv] (vB b))(h2:b=false):Cp 228 [a.pv] (vB false) :=
 eD Tryz.func228 72 [1,1,1,1] [.q,.aV [.o,(.pv (vB b)),.o,.skip,.skip,(.dec false)]] (y4 h1 h2 h2 h2)
end lj
namespace km
theorem e0(a:Bool)(m b:Ws)(h1:Cp 277 [aa m] (aa b))(h2:b.length=0):Cp 229 [vB a,aa m] ((⟨false,[]⟩:au).pv) :=
 eD Tryz.func229 90 [1,1,1] [.q,.h 1 (.pv (aa b)),.h 1 (iI (b.length:Int)),.t,.q] (y3 h1 (an ag b) (aM h2))
theorem e1(a:Bool)(m b:Ws)(h1:Cp 277 [aa m] (aa b))(h2:b.length≠0):Cp 229 [vB a,aa m] ((⟨a,b⟩:au).pv) :=
 eD Tryz.func229 93 [1,1,1] [.q,.h 1 (.pv (aa b)),.h 1 (iI (b.length:Int)),.f,.q] (y3 h1 (an ag b) (aB h2))
end km
namespace fz
@[reducible] noncomputable def fn:Func:=Tryz.f230
noncomputable def bf:List eg:=focus [0,2,0,2,0,2,0,0,2,0,0] [.code (ay fn)]
def inv1(a b yo:List UInt32)(qn uf:Nat):St:=⟨[(0,(.pv (aa a))),(1,(.pv (aa b))),(5,(.row 31 0 yo.length 1)),(6,(eU qn)),(14,(eI ((((max a.length b.length)+1):Nat):Int))),(15,(eI (uf:Int)))],[(31,(.pure ((yo:List UInt32).map ag).flatten))]⟩
@[reducible] noncomputable def ah(a b yo:List UInt32)(qn uf:Nat)(r:PV):Prop:=L bp fn bf (inv1 a b yo qn uf) r
theorem e0(a b:Ws){r:PV}(h1:((max a.length b.length)+1)<9223372036854775808)(hL:ah a b [] 0 0 r):Cp 230 [aa a,aa b] r :=
 eG Tryz.func230 93 [1,1,1,1] [.q,.h 0 .nil,.jM 5 31 1,.q,.aV [.o,(iI (a.length:Int)),.o,(iI (b.length:Int)),(iI (((max a.length b.length):Nat):Int)),(iI ((((max a.length b.length)+1):Nat):Int))],.aH [0,1,5,6,14,15]] (y4 (an ag a) (an ag b) (tW a.length b.length) (aL h1)) hL
theorem l10(a b c:Ws)(d g i j s s1:Nat)(w:UInt32)(z:Nat){r:PV}(h1:g<((max a.length b.length)+1))(h2:Cp 278 [aa a,(vI (g:Int))] (vU i))(h3:Cp 278 [aa b,(vI (g:Int))] (vU j))(h4:(i+j)%18446744073709551616=s)(h5:(s+d)%18446744073709551616=s1)(h6:s1%4294967296=w.toNat)(h7:((c++[w]):Ws).length*4≤140737488355328)(h8:s1/2^(min 32 64)=z)(h9:(g+1)<9223372036854775808)(hL:ah a b (c++[w]) z (g+1) r):ah a b c d g r :=
 lG 138 [1,1,1,1,1,1,6,1,1] [.a,.q,.t,.q,.aV [.o,.o,(.pv (vU i)),.o,.o,(.pv (vU j)),iU s,.o,iU s1],.aV [.o,.o,iW w,.o,(.app ((c++[w]):Ws).length (((c++[w]):Ws).map ag).flatten),.o,iU z],.h 0 (iI (((g+1):Nat):Int)),.aH [0,1,5,6,14,15],.drop [30]] (y9 (ai h1) h2 h3 (dj h4) (dj h5) (cv h6) (gR aY (c:Ws) ([w]:Ws) 4 (Eq.refl (c:Ws).length) (Eq.refl ([w]:Ws).length) h7 rfl) (cF (k := .u64) h8) (aL h9)) hL
theorem cV(a b c:Ws)(d g:Nat)(i:Ws)(h1:((max a.length b.length)+1)≤g)(h2:Cp 277 [aa c] (aa i)):ah a b c d g (aa i) :=
 lD 126 [1,3,1] [.a,.q,.f,.fo 5 ((c:Ws).map ag),.h 1 (.pv (aa i))] (y3 (ar h1) (cU aY (c:Ws) (Eq.refl (c:Ws).length)) h2)
end fz
namespace cP
@[reducible] noncomputable def fn:Func:=Tryz.f231
noncomputable def bf:List eg:=focus [0,2,0,0,2,0,0] [.code (ay fn)]
def inv1(a b:List UInt32)(zT:Int):St:=⟨[(0,(.pv (aa a))),(1,(.pv (aa b))),(5,(eI zT))],[]⟩
@[reducible] noncomputable def ah(a b:List UInt32)(zT:Int)(r:PV):Prop:=L bp fn bf (inv1 a b zT) r
theorem e0(a b:Ws){r:PV}(h1:ax ((((max a.length b.length):Nat):Int)-1))(hL:ah a b ((((max a.length b.length):Nat):Int)-1) r):Cp 231 [aa a,aa b] r :=
 eG Tryz.func231 81 [1,1,1,1] [.q,.aV [.o,(iI (a.length:Int)),.o,(iI (b.length:Int)),(iI (((max a.length b.length):Nat):Int)),(iI ((((max a.length b.length):Nat):Int)-1))],.aH [0,1,5]] (y4 (an ag a) (an ag b) (tW a.length b.length) (aW h1)) hL
theorem l10(a b:Ws)(c:Int)(d g i j:Nat)(h1:0≤c)(h2:Cp 278 [aa a,vI c] (vU d))(h3:Cp 278 [aa b,vI c] (vU g))(h4:d≠g)(h5:Cp 278 [aa a,vI c] (vU i))(h6:Cp 278 [aa b,vI c] (vU j))(h7:i<j):ah a b c (vI (-1)) :=
 lD 132 [1,1,1,1,1,1,1] [.a,.q,.t,.aV [.o,.o,(.pv (vU d)),.o,.o,(.pv (vU g))],.t,.aV [.o,.o,(.pv (vU i)),.o,.o,(.pv (vU j))],.t,.q] (y7 (eH h1) h2 h3 (jF h4) h5 h6 (ai h7))
theorem cV(a b:Ws)(c:Int)(d g i j:Nat)(h1:0≤c)(h2:Cp 278 [aa a,vI c] (vU d))(h3:Cp 278 [aa b,vI c] (vU g))(h4:d≠g)(h5:Cp 278 [aa a,vI c] (vU i))(h6:Cp 278 [aa b,vI c] (vU j))(h7:j≤i):ah a b c (vI 1) :=
 lD 135 [1,1,1,1,1,1,1] [.a,.q,.t,.aV [.o,.o,(.pv (vU d)),.o,.o,(.pv (vU g))],.t,.aV [.o,.o,(.pv (vU i)),.o,.o,(.pv (vU j))],.f,.q] (y7 (eH h1) h2 h3 (jF h4) h5 h6 (ar h7))
theorem kI(a b:Ws)(c:Int)(d g:Nat){r:PV}(h1:0≤c)(h2:Cp 278 [aa a,vI c] (vU d))(h3:Cp 278 [aa b,vI c] (vU g))(h4:d=g)(h5:ax (c-1))(hL:ah a b (c-1) r):ah a b c r :=
 lG 123 [1,1,1,1,1] [.a,.q,.t,.aV [.o,.o,(.pv (vU d)),.o,.o,(.pv (vU g))],.f,.h 1 (iI (c-1)),.aH [0,1,5]] (y5 (eH h1) h2 h3 (gQ h4) (aW h5)) hL
theorem ta(a b:Ws)(c:Int)(h1:c<0):ah a b c (vI 0) :=
 lD 114 [1] [.a,.q,.f,.q] (y1 (jO h1))
end cP
namespace cG
@[reducible] noncomputable def fn:Func:=Tryz.f231
noncomputable def bf:List eg:=focus [0,2,0,0,2,0,0] [.code (ay fn)]
def inv1(len:Nat)(b:List UInt32)(zT:Int)(bw:List UInt32):St:=⟨[(0,(.row 100000 0 len 1)),(1,(.pv (aa b))),(5,(eI zT))],[(100000,(.pure ((bw:List UInt32).map ag).flatten))]⟩
@[reducible] noncomputable def ah(len:Nat)(b:List UInt32)(zT:Int)(bw:List UInt32)(sin:aS)(r:EV)(sout:aS):Prop:=LX bp fn bf (inv1 len b zT bw) sin r sout
theorem e0(a:Ws)(c:Nat)(b:Ws){r:EV}{sout:aS}(h1:ax ((((max c b.length):Nat):Int)-1))(hL:ah c b ((((max c b.length):Nat):Int)-1) a [(100000,(.pure ((a:Ws).map ag).flatten))] r sout):av bp 231 [(.row 100000 0 c 1),(.pv (aa b))] [(100000,(.pure ((a:Ws).map ag).flatten))] r sout :=
 Kl Tryz.func231 81 [1,1,1] [.q,.aV [.o,.o,.o,(iI (b.length:Int)),(iI (((max c b.length):Nat):Int)),(iI ((((max c b.length):Nat):Int)-1))],.aH [0,1,5]] (y3 (an ag b) (tW c b.length) (aW h1)) hL
theorem l10(c:Nat)(b:Ws)(d:Int)(g z:Ws)(i j:Nat)(z1:Ws)(k l:Nat){sin:aS}(hs:sin.all (fun p=>Nat.ble fn.ntmps p.1)=true)(hi:sin.all (fun p=>uC p.1||(aS.get [(100000,(.pure ((z1:Ws).map ag).flatten))] p.1).isSome)=true)(h1:0≤d)(h2:av bp 278 [.row 100000 0 c 1,.pv (vI d)] [(100000,(.pure ((g:Ws).map ag).flatten))] (.pv (vU i)) [(100000,(.pure ((z:Ws).map ag).flatten))])(h3:Cp 278 [aa b,vI d] (vU j))(h4:i≠j)(h5:av bp 278 [.row 100000 0 c 1,.pv (vI d)] [(100000,(.pure ((z:Ws).map ag).flatten))] (.pv (vU k)) [(100000,(.pure ((z1:Ws).map ag).flatten))])(h6:Cp 278 [aa b,vI d] (vU l))(h7:k<l):ah c b d g sin (.pv (vI (-1))) [(100000,(.pure ((z1:Ws).map ag).flatten))] :=
 DP 132 [1,1,1,1,1,1,1] [.a,.q,.t,.aV [.o,.o,(.bG [(100000,100000)] none (.pv (vU i)) [(100000,(.pure ((z:Ws).map ag).flatten))]),.o,.o,(.pv (vU j))],.t,.aV [.o,.o,(.bG [(100000,100000)] none (.pv (vU k)) [(100000,(.pure ((z1:Ws).map ag).flatten))]),.o,.o,(.pv (vU l))],.t,.q,.ord [100000]] hs hi (y7 (eH h1) h2 h3 (jF h4) h5 h6 (ai h7))
theorem cV(c:Nat)(b:Ws)(d:Int)(g z:Ws)(i j:Nat)(z1:Ws)(k l:Nat){sin:aS}(hs:sin.all (fun p=>Nat.ble fn.ntmps p.1)=true)(hi:sin.all (fun p=>uC p.1||(aS.get [(100000,(.pure ((z1:Ws).map ag).flatten))] p.1).isSome)=true)(h1:0≤d)(h2:av bp 278 [.row 100000 0 c 1,.pv (vI d)] [(100000,(.pure ((g:Ws).map ag).flatten))] (.pv (vU i)) [(100000,(.pure ((z:Ws).map ag).flatten))])(h3:Cp 278 [aa b,vI d] (vU j))(h4:i≠j)(h5:av bp 278 [.row 100000 0 c 1,.pv (vI d)] [(100000,(.pure ((z:Ws).map ag).flatten))] (.pv (vU k)) [(100000,(.pure ((z1:Ws).map ag).flatten))])(h6:Cp 278 [aa b,vI d] (vU l))(h7:l≤k):ah c b d g sin (.pv (vI 1)) [(100000,(.pure ((z1:Ws).map ag).flatten))] :=
 DP 135 [1,1,1,1,1,1,1] [.a,.q,.t,.aV [.o,.o,(.bG [(100000,100000)] none (.pv (vU i)) [(100000,(.pure ((z:Ws).map ag).flatten))]),.o,.o,(.pv (vU j))],.t,.aV [.o,.o,(.bG [(100000,100000)] none (.pv (vU k)) [(100000,(.pure ((z1:Ws).map ag).flatten))]),.o,.o,(.pv (vU l))],.f,.q,.ord [100000]] hs hi (y7 (eH h1) h2 h3 (jF h4) h5 h6 (ar h7))
theorem kI(c:Nat)(b:Ws)(d:Int)(g z:Ws)(i j:Nat){r:EV}{sout:aS}{sin:aS}(hs:sin.all (fun p=>Nat.ble fn.ntmps p.1)=true)(h1:0≤d)(h2:av bp 278 [.row 100000 0 c 1,.pv (vI d)] [(100000,(.pure ((g:Ws).map ag).flatten))] (.pv (vU i)) [(100000,(.pure ((z:Ws).map ag).flatten))])(h3:Cp 278 [aa b,vI d] (vU j))(h4:i=j)(h5:ax (d-1))(hL:ah c b (d-1) z sin r sout):ah c b d g sin r sout :=
 IK 123 [1,1,1,1,1] [.a,.q,.t,.aV [.o,.o,(.bG [(100000,100000)] none (.pv (vU i)) [(100000,(.pure ((z:Ws).map ag).flatten))]),.o,.o,(.pv (vU j))],.f,.h 1 (iI (d-1)),.aH [0,1,5]] hs (y5 (eH h1) h2 h3 (gQ h4) (aW h5)) hL
theorem ta(c:Nat)(b:Ws)(d:Int)(g:Ws){sin:aS}(hs:sin.all (fun p=>Nat.ble fn.ntmps p.1)=true)(hi:sin.all (fun p=>uC p.1||(aS.get [(100000,(.pure ((g:Ws).map ag).flatten))] p.1).isSome)=true)(h1:d<0):ah c b d g sin (.pv (vI 0)) [(100000,(.pure ((g:Ws).map ag).flatten))] :=
 DP 114 [1] [.a,.q,.f,.q,.ord [100000]] hs hi (y1 (jO h1))
end cG
namespace cy
@[reducible] noncomputable def fn:Func:=Tryz.f231
noncomputable def bf:List eg:=focus [0,2,0,0,2,0,0] [.code (ay fn)]
def inv1(len nF:Nat)(zT:Int)(bw iT:List UInt32):St:=⟨[(0,(.row 100000 0 len 1)),(1,(.row 100001 0 nF 1)),(5,(eI zT))],[(100000,(.pure ((bw:List UInt32).map ag).flatten)),(100001,(.pure ((iT:List UInt32).map ag).flatten))]⟩
@[reducible] noncomputable def ah(len nF:Nat)(zT:Int)(bw iT:List UInt32)(sin:aS)(r:EV)(sout:aS):Prop:=LX bp fn bf (inv1 len nF zT bw iT) sin r sout
theorem e0(a:Ws)(c:Nat)(b:Ws)(d:Nat){r:EV}{sout:aS}(h1:ax ((((max c d):Nat):Int)-1))(hL:ah c d ((((max c d):Nat):Int)-1) a b [(100000,(.pure ((a:Ws).map ag).flatten)),(100001,(.pure ((b:Ws).map ag).flatten))] r sout):av bp 231 [(.row 100000 0 c 1),(.row 100001 0 d 1)] [(100000,(.pure ((a:Ws).map ag).flatten)),(100001,(.pure ((b:Ws).map ag).flatten))] r sout :=
 Kl Tryz.func231 81 [1,1] [.q,.aV [.o,.o,.o,.o,(iI (((max c d):Nat):Int)),(iI ((((max c d):Nat):Int)-1))],.aH [0,1,5]] (y2 (tW c d) (aW h1)) hL
theorem l10(b c:Nat)(d:Int)(g i z:Ws)(j:Nat)(z1:Ws)(k:Nat)(z2:Ws)(l:Nat)(z3:Ws)(m:Nat){sin:aS}(hs:sin.all (fun p=>Nat.ble fn.ntmps p.1)=true)(hi:sin.all (fun p=>uC p.1||(aS.get [(100000,(.pure ((z2:Ws).map ag).flatten)),(100001,(.pure ((z3:Ws).map ag).flatten))] p.1).isSome)=true)(h1:0≤d)(h2:av bp 278 [.row 100000 0 b 1,.pv (vI d)] [(100000,(.pure ((g:Ws).map ag).flatten))] (.pv (vU j)) [(100000,(.pure ((z:Ws).map ag).flatten))])(h3:av bp 278 [.row 100000 0 c 1,.pv (vI d)] [(100000,(.pure ((i:Ws).map ag).flatten))] (.pv (vU k)) [(100000,(.pure ((z1:Ws).map ag).flatten))])(h4:j≠k)(h5:av bp 278 [.row 100000 0 b 1,.pv (vI d)] [(100000,(.pure ((z:Ws).map ag).flatten))] (.pv (vU l)) [(100000,(.pure ((z2:Ws).map ag).flatten))])(h6:av bp 278 [.row 100000 0 c 1,.pv (vI d)] [(100000,(.pure ((z1:Ws).map ag).flatten))] (.pv (vU m)) [(100000,(.pure ((z3:Ws).map ag).flatten))])(h7:l<m):ah b c d g i sin (.pv (vI (-1))) [(100000,(.pure ((z2:Ws).map ag).flatten)),(100001,(.pure ((z3:Ws).map ag).flatten))] :=
 DP 132 [1,1,1,1,1,1,1] [.a,.q,.t,.aV [.o,.o,(.bG [(100000,100000)] none (.pv (vU j)) [(100000,(.pure ((z:Ws).map ag).flatten))]),.o,.o,(.bG [(100001,100000)] none (.pv (vU k)) [(100000,(.pure ((z1:Ws).map ag).flatten))])],.t,.aV [.o,.o,(.bG [(100000,100000)] none (.pv (vU l)) [(100000,(.pure ((z2:Ws).map ag).flatten))]),.o,.o,(.bG [(100001,100000)] none (.pv (vU m)) [(100000,(.pure ((z3:Ws).map ag).flatten))])],.t,.q,.ord [100000,100001]] hs hi (y7 (eH h1) h2 h3 (jF h4) h5 h6 (ai h7))
theorem cV(b c:Nat)(d:Int)(g i z:Ws)(j:Nat)(z1:Ws)(k:Nat)(z2:Ws)(l:Nat)(z3:Ws)(m:Nat){sin:aS}(hs:sin.all (fun p=>Nat.ble fn.ntmps p.1)=true)(hi:sin.all (fun p=>uC p.1||(aS.get [(100000,(.pure ((z2:Ws).map ag).flatten)),(100001,(.pure ((z3:Ws).map ag).flatten))] p.1).isSome)=true)(h1:0≤d)(h2:av bp 278 [.row 100000 0 b 1,.pv (vI d)] [(100000,(.pure ((g:Ws).map ag).flatten))] (.pv (vU j)) [(100000,(.pure ((z:Ws).map ag).flatten))])(h3:av bp 278 [.row 100000 0 c 1,.pv (vI d)] [(100000,(.pure ((i:Ws).map ag).flatten))] (.pv (vU k)) [(100000,(.pure ((z1:Ws).map ag).flatten))])(h4:j≠k)(h5:av bp 278 [.row 100000 0 b 1,.pv (vI d)] [(100000,(.pure ((z:Ws).map ag).flatten))] (.pv (vU l)) [(100000,(.pure ((z2:Ws).map ag).flatten))])(h6:av bp 278 [.row 100000 0 c 1,.pv (vI d)] [(100000,(.pure ((z1:Ws).map ag).flatten))] (.pv (vU m)) [(100000,(.pure ((z3:Ws).map ag).flatten))])(h7:m≤l):ah b c d g i sin (.pv (vI 1)) [(100000,(.pure ((z2:Ws).map ag).flatten)),(100001,(.pure ((z3:Ws).map ag).flatten))] :=
 DP 135 [1,1,1,1,1,1,1] [.a,.q,.t,.aV [.o,.o,(.bG [(100000,100000)] none (.pv (vU j)) [(100000,(.pure ((z:Ws).map ag).flatten))]),.o,.o,(.bG [(100001,100000)] none (.pv (vU k)) [(100000,(.pure ((z1:Ws).map ag).flatten))])],.t,.aV [.o,.o,(.bG [(100000,100000)] none (.pv (vU l)) [(100000,(.pure ((z2:Ws).map ag).flatten))]),.o,.o,(.bG [(100001,100000)] none (.pv (vU m)) [(100000,(.pure ((z3:Ws).map ag).flatten))])],.f,.q,.ord [100000,100001]] hs hi (y7 (eH h1) h2 h3 (jF h4) h5 h6 (ar h7))
theorem kI(b c:Nat)(d:Int)(g i z:Ws)(j:Nat)(z1:Ws)(k:Nat){r:EV}{sout:aS}{sin:aS}(hs:sin.all (fun p=>Nat.ble fn.ntmps p.1)=true)(h1:0≤d)(h2:av bp 278 [.row 100000 0 b 1,.pv (vI d)] [(100000,(.pure ((g:Ws).map ag).flatten))] (.pv (vU j)) [(100000,(.pure ((z:Ws).map ag).flatten))])(h3:av bp 278 [.row 100000 0 c 1,.pv (vI d)] [(100000,(.pure ((i:Ws).map ag).flatten))] (.pv (vU k)) [(100000,(.pure ((z1:Ws).map ag).flatten))])(h4:j=k)(h5:ax (d-1))(hL:ah b c (d-1) z z1 sin r sout):ah b c d g i sin r sout :=
 IK 123 [1,1,1,1,1] [.a,.q,.t,.aV [.o,.o,(.bG [(100000,100000)] none (.pv (vU j)) [(100000,(.pure ((z:Ws).map ag).flatten))]),.o,.o,(.bG [(100001,100000)] none (.pv (vU k)) [(100000,(.pure ((z1:Ws).map ag).flatten))])],.f,.h 1 (iI (d-1)),.aH [0,1,5]] hs (y5 (eH h1) h2 h3 (gQ h4) (aW h5)) hL
theorem ta(b c:Nat)(d:Int)(g i:Ws){sin:aS}(hs:sin.all (fun p=>Nat.ble fn.ntmps p.1)=true)(hi:sin.all (fun p=>uC p.1||(aS.get [(100000,(.pure ((g:Ws).map ag).flatten)),(100001,(.pure ((i:Ws).map ag).flatten))] p.1).isSome)=true)(h1:d<0):ah b c d g i sin (.pv (vI 0)) [(100000,(.pure ((g:Ws).map ag).flatten)),(100001,(.pure ((i:Ws).map ag).flatten))] :=
 DP 114 [1] [.a,.q,.f,.q,.ord [100000,100001]] hs hi (y1 (jO h1))
end cy
namespace eX
@[reducible] noncomputable def fn:Func:=Tryz.f232
noncomputable def bf:List eg:=focus [0,2,0,2,0,2,0,0,2,0,0] [.code (ay fn)]
def inv1(a b mX:List UInt32)(nC Gx:Nat):St:=⟨[(0,(.pv (aa a))),(1,(.pv (aa b))),(5,(.row 28 0 mX.length 1)),(6,(eU nC)),(10,(eI (a.length:Int))),(11,(eI (Gx:Int)))],[(28,(.pure ((mX:List UInt32).map ag).flatten))]⟩
@[reducible] noncomputable def ah(a b mX:List UInt32)(nC Gx:Nat)(r:PV):Prop:=L bp fn bf (inv1 a b mX nC Gx) r
theorem e0 (a b : Ws) {r : PV}  (hL : ah a b [] 0 0 r) : Cp 232 [aa a, aa b] r :=
 eG Tryz.func232 93 [1] [.q,.h 0 .nil,.jM 5 28 1,.q,.h 1 (iI (a.length:Int)),.aH [0,1,5,6,10,11]] (y1 (an ag a)) hL
theorem l10(a b c:Ws)(g i j s l d d1:Nat)(w:UInt32)(z d2:Nat){r:PV}(h1:i<a.length)(h2:Cp 278 [aa a,(vI (i:Int))] (vU j))(h3:(4294967296+j)%18446744073709551616=s)(h4:Cp 278 [aa b,(vI (i:Int))] (vU l))(h5:((s:Nat)-(l:Nat):Int)%18446744073709551616=(d:Int))(h6:((d:Nat)-(g:Nat):Int)%18446744073709551616=(d1:Int))(h7:d1%4294967296=w.toNat)(h8:((c++[w]):Ws).length*4≤140737488355328)(h9:d1/2^(min 32 64)=z)(ec:((1:Nat)-(z:Nat):Int)%18446744073709551616=(d2:Int))(il:(i+1)<9223372036854775808)(hL:ah a b (c++[w]) d2 (i+1) r):ah a b c g i r :=
 lG 138 [1,1,1,1,1,1,1,6,1,1,1] [.a,.q,.t,.q,.aV [.o,.o,(.pv (vU j)),iU s,.o,.o,(.pv (vU l)),iU d,.o,iU d1],.aV [.o,.o,iW w,.o,(.app ((c++[w]):Ws).length (((c++[w]):Ws).map ag).flatten),.o,iU z,iU d2],.h 0 (iI (((i+1):Nat):Int)),.aH [0,1,5,6,10,11],.drop [27]] (BL (ai h1) h2 (dj h3) h4 (c9 h5) (c9 h6) (cv h7) (gR aY (c:Ws) ([w]:Ws) 4 (Eq.refl (c:Ws).length) (Eq.refl ([w]:Ws).length) h8 rfl) (cF (k := .u64) h9) (c9 ec) (aL il)) hL
theorem cV(a b c:Ws)(d g:Nat)(i:Ws)(h1:a.length≤g)(h2:Cp 277 [aa c] (aa i)):ah a b c d g (aa i) :=
 lD 126 [1,3,1] [.a,.q,.f,.fo 5 ((c:Ws).map ag),.h 1 (.pv (aa i))] (y3 (ar h1) (cU aY (c:Ws) (Eq.refl (c:Ws).length)) h2)
end eX
namespace cw
@[reducible] noncomputable def fn:Func:=Tryz.f233
noncomputable def bf:List eg:=focus [0,2,0,2,0,0,2,0,0] [.code (ay fn)]
def inv1(a b:List UInt32)(Gy:Nat)(gW:List UInt32):St:=⟨[(0,(.pv (aa a))),(1,(.pv (aa b))),(5,(.row 15 0 (a.length+b.length) 1)),(17,(eI (a.length:Int))),(18,(eI (Gy:Int)))],[(15,(.pure ((gW:List UInt32).map ag).flatten))]⟩
@[reducible] noncomputable def ah(a b:List UInt32)(Gy:Nat)(gW:List UInt32)(r:PV):Prop:=L bp fn bf (inv1 a b Gy gW) r
noncomputable def nD:List eg:=focus [0,2,0,2,0,0,2,0,0,0,0,2,0,0,2,0,0,0,2,0,2,0,0,2,0,0] [.code (ay fn)]
def inv2(a b:List UInt32)(Ks qv Gy Pu:Nat)(gW:List UInt32):St:=⟨[(0,(.pv (aa a))),(1,(.pv (aa b))),(5,(.row 15 0 (a.length+b.length) 1)),(6,(eI (Ks:Int))),(7,(eU qv)),(17,(eI (a.length:Int))),(18,(eI (Gy:Int))),(22,(eI (b.length:Int))),(23,(eI (Pu:Int)))],[(15,(.pure ((gW:List UInt32).map ag).flatten))]⟩
@[reducible] noncomputable def bA(a b:List UInt32)(Ks qv Gy Pu:Nat)(gW:List UInt32)(r:PV):Prop:=L bp fn nD (inv2 a b Ks qv Gy Pu gW) r
theorem e0(a b:Ws){r:PV}(h1:(a.length+b.length)<9223372036854775808)(h2:4*(a.length+b.length)≤140737488355328)(hL:ah a b 0 (List.replicate (a.length+b.length) (0:UInt32)) r):Cp 233 [aa a,aa b] r :=
 eG Tryz.func233 87 [1,1,1,5,1] [.q,.aV [.o,(iI (a.length:Int)),.o,(iI (b.length:Int)),(iI (((a.length+b.length):Nat):Int)),(.app (a.length+b.length) ((List.replicate (a.length+b.length) (0:UInt32):Ws).map ag).flatten)],.h 1 (iI (a.length:Int)),.aH [0,1,5,17,18]] (y5 (an ag a) (an ag b) (aL h1) (q9 ag 0 4 (a.length+b.length) (Eq.refl ((((a.length+b.length):Nat):Int):Int)) h2 rfl) (an ag a)) hL
theorem l10(a b:Ws)(c:Nat)(d:Ws){r:PV}(h1:c<a.length)(hL:bA a b c 0 c 0 d r):ah a b c d r :=
 lG 138 [1,1] [.a,.q,.t,.q,.q,.h 1 (iI (b.length:Int)),.aH [0,1,5,6,7,17,18,22,23]] (y2 (ai h1) (an ag b)) hL
theorem cV(a b:Ws)(c:Nat)(d g:Ws)(h1:a.length≤c)(h2:(a.length+b.length)=d.length)(h3:Cp 277 [aa d] (aa g)):ah a b c d (aa g) :=
 lD 120 [1,3,1] [.a,.q,.f,.fo 5 ((d:Ws).map ag),.h 1 (.pv (aa g))] (y3 (ar h1) (cU aY (d:Ws) h2) h3)
theorem yj(a b:Ws)(c d g i:Nat)(j:Ws)(v v1:UInt32)(p:Nat)(v2:UInt32)(s s1:Nat)(w:UInt32)(z:Nat){r:PV}(h1:i<b.length)(h2:a[c]? = some v)(h3:b[i]? = some v1)(h4:(v.toNat*v1.toNat)%18446744073709551616=p)(h5:(c+i)<9223372036854775808)(h6:(c+i)<(a.length+b.length))(h7:j[(c+i)]? = some v2)(h8:(p+v2.toNat)%18446744073709551616=s)(h9:(s+d)%18446744073709551616=s1)(ec:s1%4294967296=w.toNat)(il:s1/2^(min 32 64)=z)(mF:(c+i)<j.length)(u9:(i+1)<9223372036854775808)(hL:bA a b c z g (i+1) (j.set (c+i) w) r):bA a b c d g i j r :=
 lG 183 [1,3,1,3,1,1,1,2,1,1,1,1,1,1,1,2,2,1] [.a,.q,.t,.q,dr 21 1 [.none,.none,(.row c (ag v)),.none,iU v.toNat,.none,.none,(.row i (ag v1)),.none,iU v1.toNat,iU p,.none,.none,.none,(iI (((c+i):Nat):Int)),(.nat (c+i)),(.ev (.pv (vW v2))),iU v2.toNat,iU s,.none,iU s1],.aV [.o,.o,.o,(iI (((c+i):Nat):Int)),.o,iW w,.o,iU z,(.nat (c+i)),(.cells (.pure (((j.set (c+i) w):Ws).map ag).flatten))],.h 0 (iI (((i+1):Nat):Int)),.aH [0,1,5,6,7,17,18,22,23]] (RL (ai h1) (bO ag (Eq.refl (((c:Nat):Int):Int)) h2) (mg v) (bO ag (Eq.refl (((i:Nat):Int):Int)) h3) (mg v1) (lQ h4) (aL h5) (cj (Eq.refl ((((c+i):Nat):Int):Int)) h6) (fj (enc:=ag) (f:=fun a=>(vW a)) (fun _=>rfl) h7) (mg v2) (dj h8) (dj h9) (aL h5) (cv ec) (cF (k := .u64) il) (cj (Eq.refl ((((c+i):Nat):Int):Int)) h6) (gm aY (j:Ws) w mF) (aL u9)) hL
theorem Be(a b:Ws)(c d g i:Nat)(j:Ws)(w:UInt32){r:PV}(h1:b.length≤i)(h2:(c+b.length)<9223372036854775808)(h3:d%4294967296=w.toNat)(h4:(c+b.length)<(a.length+b.length))(h5:(c+b.length)<j.length)(h6:(g+1)<9223372036854775808)(hL:ah a b (g+1) (j.set (c+b.length) w) r):bA a b c d g i j r :=
 lG 174 [1,1,1,1,2,2,1] [.a,.q,.f,.aV [.o,.o,.o,(iI (b.length:Int)),(iI (((c+b.length):Nat):Int)),.o,iW w,(.nat (c+b.length)),(.cells (.pure (((j.set (c+b.length) w):Ws).map ag).flatten))],.h 0 (iI (((g+1):Nat):Int)),.aH [0,1,5,17,18]] (y7 (ar h1) (an ag b) (aL h2) (cv h3) (cj (Eq.refl ((((c+b.length):Nat):Int):Int)) h4) (gm aY (j:Ws) w h5) (aL h6)) hL
end cw
namespace oB
theorem e0(a b c d:au)(h1:Cp 170 [b.pv] c.pv)(h2:Cp 146 [a.pv,c.pv] d.pv):Cp 254 [a.pv,b.pv] d.pv :=
 eD Tryz.func254 72 [1,1] [.q,dr 4 1 [.none,.none,(.pv c.pv),(.pv d.pv)]] (y2 h1 h2)
end oB
namespace aX
@[reducible] noncomputable def fn:Func:=Tryz.f255
noncomputable def bf:List eg:=focus [0,2,0,2,0,0,2,1,2,0,0,2,1,2,0,2,0,0,0] [.code (ay fn)]
def inv1(nG nH kp:Nat)(dS gU:List UInt32):St:=⟨[(0,(.row 7 0 nG 1)),(1,(.row 9 0 nH 1)),(5,(eI (kp:Int)))],[(7,(.pure ((dS:List UInt32).map ag).flatten)),(9,(.pure ((gU:List UInt32).map ag).flatten))]⟩
@[reducible] noncomputable def ah(nG nH kp:Nat)(dS gU:List UInt32)(r:PV):Prop:=L bp fn bf (inv1 nG nH kp dS gU) r
noncomputable def nD:List eg:=focus [0,2,0,2,0,0,2,1,2,0,0,2,1,2,0,2,0,0,0,0,0,0,2,1,2,2,2,2,0,0,0] [.code (ay fn)]
def inv2(nG nH kp:Nat)(dS gU:List UInt32):St:=⟨[(0,(.row 7 0 nG 1)),(1,(.row 9 0 nH 1)),(5,(eI (kp:Int)))],[(7,(.pure ((dS:List UInt32).map ag).flatten)),(9,(.pure ((gU:List UInt32).map ag).flatten))]⟩
@[reducible] noncomputable def bA(nG nH kp:Nat)(dS gU:List UInt32)(r:PV):Prop:=L bp fn nD (inv2 nG nH kp dS gU) r
noncomputable def KE:List eg:=focus [0,2,0,2,0,0,2,1,2,0,0,2,1,2,0,2,0,0,0,0,0,0,2,1,2,2,2,2,0,0,0,0,0,0,2,0,2,0,0,0,0] [.code (ay fn)]
def KF(nG nH kp:Nat)(dS gU:List UInt32):St:=⟨[(0,(.row 7 0 nG 1)),(1,(.row 9 0 nH 1)),(5,(eI (kp:Int)))],[(7,(.pure ((dS:List UInt32).map ag).flatten)),(9,(.pure ((gU:List UInt32).map ag).flatten))]⟩
@[reducible] noncomputable def lJ(nG nH kp:Nat)(dS gU:List UInt32)(r:PV):Prop:=L bp fn KE (KF nG nH kp dS gU) r
noncomputable def UN:List eg:=focus [0,2,0,2,0,0,2,1,2,0,0,2,1,2,0,2,0,0,0,0,0,0,2,1,2,2,2,2,0,0,0,0,0,0,2,1,2,2,2,2,0,0,2,0,0] [.code (ay fn)]
def UO(UP:List UInt32)(x6 Pv:Nat):St:=⟨[(1,(.pv (aa UP))),(64,(eI (x6:Int))),(65,(eI (Pv:Int)))],[]⟩
@[reducible] noncomputable def EH(UP:List UInt32)(x6 Pv:Nat)(r:PV):Prop:=L bp fn UN (UO UP x6 Pv) r
noncomputable def UQ:List eg:=focus [0,2,0,2,0,0,2,1,2,0,0,2,1,2,0,2,0,0,0,0,0,0,2,1,2,2,2,2,0,0,0,0,0,0,2,0,2,0,0,0,0,0,0,0,2,1,2,2,2,2,0,0,0] [.code (ay fn)]
def UR(nG nH kp:Nat)(dS gU:List UInt32):St:=⟨[(0,(.row 7 0 nG 1)),(1,(.row 9 0 nH 1)),(5,(eI (kp:Int)))],[(7,(.pure ((dS:List UInt32).map ag).flatten)),(9,(.pure ((gU:List UInt32).map ag).flatten))]⟩
@[reducible] noncomputable def z8(nG nH kp:Nat)(dS gU:List UInt32)(r:PV):Prop:=L bp fn UQ (UR nG nH kp dS gU) r
theorem e0(a b z:Ws)(n:Nat)(z1:Ws)(n1:Nat)(h1:av bp 277 [.pv (aa a)] [] (.row 0 0 n 1) [(0,(.pure ((z:Ws).map ag).flatten))])(h2:av bp 277 [.pv (aa b)] [] (.row 0 0 n1 1) [(0,(.pure ((z1:Ws).map ag).flatten))])(h3:n=0)(h4:n1=z1.length):Cp 255 [aa a,aa b] (aa z1) :=
 eD Tryz.func255 90 [1,1,1,3] [.q,.aV [.o,(.bG [] (some (0,7)) (.row 0 0 n 1) [(0,(.pure ((z:Ws).map ag).flatten))]),.o,(.bG [] (some (0,9)) (.row 0 0 n1 1) [(0,(.pure ((z1:Ws).map ag).flatten))])],.q,.t,.q,.fo 4 ((z1:Ws).map ag)] (y4 h1 h2 (aM h3) (cU aY (z1:Ws) h4))
theorem e1(a b z:Ws)(n:Nat)(z1:Ws)(n1:Nat)(h1:av bp 277 [.pv (aa a)] [] (.row 0 0 n 1) [(0,(.pure ((z:Ws).map ag).flatten))])(h2:av bp 277 [.pv (aa b)] [] (.row 0 0 n1 1) [(0,(.pure ((z1:Ws).map ag).flatten))])(h3:n≠0)(h4:n1=0)(h5:n=z.length):Cp 255 [aa a,aa b] (aa z) :=
 eD Tryz.func255 105 [1,1,1,1,3] [.q,.aV [.o,(.bG [] (some (0,7)) (.row 0 0 n 1) [(0,(.pure ((z:Ws).map ag).flatten))]),.o,(.bG [] (some (0,9)) (.row 0 0 n1 1) [(0,(.pure ((z1:Ws).map ag).flatten))])],.q,.f,.q,.t,.q,.fo 4 ((z:Ws).map ag)] (y5 h1 h2 (aB h3) (aM h4) (cU aY (z:Ws) h5))
theorem e2(a b z:Ws)(n:Nat)(z1:Ws)(n1:Nat){r:PV}(h1:av bp 277 [.pv (aa a)] [] (.row 0 0 n 1) [(0,(.pure ((z:Ws).map ag).flatten))])(h2:av bp 277 [.pv (aa b)] [] (.row 0 0 n1 1) [(0,(.pure ((z1:Ws).map ag).flatten))])(h3:n≠0)(h4:n1≠0)(hL:ah n n1 0 z z1 r):Cp 255 [aa a,aa b] r :=
 eG Tryz.func255 117 [1,1,1,1] [.q,.aV [.o,(.bG [] (some (0,7)) (.row 0 0 n 1) [(0,(.pure ((z:Ws).map ag).flatten))]),.o,(.bG [] (some (0,9)) (.row 0 0 n1 1) [(0,(.pure ((z1:Ws).map ag).flatten))])],.q,.f,.q,.f,.q,.aH [0,1,5],.ord [7,9]] (y4 h1 h2 (aB h3) (aB h4)) hL
theorem l10(b c d:Nat)(g i:Ws)(v z v1 z1:UInt32)(z2:Ws)(n:Nat)(z3:Ws)(n1:Nat){r:PV}(h1:0<b)(h2:g[0]? = some v)(h3:(v.toNat%4294967296) &&& (1%4294967296)=z.toNat)(h4:z.toNat=0)(h5:0<c)(h6:i[0]? = some v1)(h7:(v1.toNat%4294967296) &&& (1%4294967296)=z1.toNat)(h8:z1.toNat=0)(h9:av bp 279 [.row 100000 0 b 1] [(100000,(.pure ((g:Ws).map ag).flatten))] (.row 100000 0 n 1) [(100000,(.pure ((z2:Ws).map ag).flatten))])(ec:av bp 279 [.row 100000 0 c 1] [(100000,(.pure ((i:Ws).map ag).flatten))] (.row 100000 0 n1 1) [(100000,(.pure ((z3:Ws).map ag).flatten))])(il:(d+1)<9223372036854775808)(hL:ah n n1 (d+1) z2 z3 r):ah b c d g i r :=
 lG 150 [2,1,1,1,1,2,1,1,1,1,1,1,1,1,1,1] [.a,.aV [.o,(.nat 0),(.ev (.pv (vW v))),iW z,.o,.o,.o,(.nat 0),(.ev (.pv (vW v1))),iW z1,.o,(.dec true)],.t,.aV [.o,(.bG [(7,100000)] none (.row 100000 0 n 1) [(100000,(.pure ((z2:Ws).map ag).flatten))]),.o,(.bG [(9,100000)] none (.row 100000 0 n1 1) [(100000,(.pure ((z3:Ws).map ag).flatten))])],.h 1 (iI (((d+1):Nat):Int)),.aH [0,1,5]] (FB (cj (Eq.refl (0:Int)) h1) (fj (enc:=ag) (f:=fun a=>(vW a)) (fun _=>rfl) h2) (fx h3) (aM h4) (aM h4) (cj (Eq.refl (0:Int)) h5) (aM h4) (fj (enc:=ag) (f:=fun a=>(vW a)) (fun _=>rfl) h6) (aM h4) (fx h7) (aM h4) (aM h4) (aM h8) h9 ec (aL il)) hL
theorem cV(b c d:Nat)(g i:Ws)(v z v1 z1:UInt32){r:PV}(h1:0<b)(h2:g[0]? = some v)(h3:(v.toNat%4294967296) &&& (1%4294967296)=z.toNat)(h4:z.toNat=0)(h5:0<c)(h6:i[0]? = some v1)(h7:(v1.toNat%4294967296) &&& (1%4294967296)=z1.toNat)(h8:z1.toNat≠0)(hL:bA b c d g i r):ah b c d g i r :=
 lG 153 [2,1,1,1,1,2,1,1,1,1,1,1,1] [.a,.aV [.o,(.nat 0),(.ev (.pv (vW v))),iW z,.o,.o,.o,(.nat 0),(.ev (.pv (vW v1))),iW z1,.o,(.dec true)],.f,.aH [0,1,5]] (Ht (cj (Eq.refl (0:Int)) h1) (fj (enc:=ag) (f:=fun a=>(vW a)) (fun _=>rfl) h2) (fx h3) (aM h4) (aM h4) (cj (Eq.refl (0:Int)) h5) (aM h4) (fj (enc:=ag) (f:=fun a=>(vW a)) (fun _=>rfl) h6) (aM h4) (fx h7) (aM h4) (aM h4) (aB h8)) hL
theorem kI(b c d:Nat)(g i:Ws)(v z:UInt32){r:PV}(h1:0<b)(h2:g[0]? = some v)(h3:(v.toNat%4294967296) &&& (1%4294967296)=z.toNat)(h4:z.toNat≠0)(hL:bA b c d g i r):ah b c d g i r :=
 lG 153 [2,1,1,1,1,1,1,1,1] [.a,.aV [.o,(.nat 0),(.ev (.pv (vW v))),iW z,.o,.o,.skip,.skip,.skip,.skip,.skip,(.dec false)],.a,.aH [0,1,5]] (y9 (cj (Eq.refl (0:Int)) h1) (fj (enc:=ag) (f:=fun a=>(vW a)) (fun _=>rfl) h2) (fx h3) (aB h4) (aB h4) (aB h4) (aB h4) (aB h4) (aB h4)) hL
theorem yj(b c d:Nat)(g i:Ws){r:PV}(h1:0<b)(hL:lJ b c d g i r):bA b c d g i r :=
 lG 183 [1] [.a,.q,.t,.aH [0,1,5]] (y1 (ai h1)) hL
theorem Be(b c d:Nat)(g i:Ws){r:PV}(h1:b≤0)(h2:c=i.length)(hL:EH i d 0 r):bA b c d g i r :=
 lG 195 [1,3] [.a,.q,.f,.q,.fo 1 ((i:Ws).map ag),.aH [1,64,65],.drop [7]] (y2 (ar h1) (cU aY (i:Ws) h2)) hL
theorem US(b c d:Nat)(g i:Ws)(v z:UInt32)(z1:Ws)(n:Nat){r:PV}(h1:0<b)(h2:g[0]? = some v)(h3:(v.toNat%4294967296) &&& (1%4294967296)=z.toNat)(h4:z.toNat=0)(h5:av bp 279 [.row 100000 0 b 1] [(100000,(.pure ((g:Ws).map ag).flatten))] (.row 100000 0 n 1) [(100000,(.pure ((z1:Ws).map ag).flatten))])(hL:lJ n c d z1 i r):lJ b c d g i r :=
 lG 210 [2,1,1,1,1] [.a,.aV [.o,(.nat 0),(.ev (.pv (vW v))),iW z],.t,.h 1 (.bG [(7,100000)] none (.row 100000 0 n 1) [(100000,(.pure ((z1:Ws).map ag).flatten))]),.aH [0,1,5]] (y5 (cj (Eq.refl (0:Int)) h1) (fj (enc:=ag) (f:=fun a=>(vW a)) (fun _=>rfl) h2) (fx h3) (aM h4) h5) hL
theorem R2(b c d:Nat)(g i:Ws)(v z:UInt32){r:PV}(h1:0<b)(h2:g[0]? = some v)(h3:(v.toNat%4294967296) &&& (1%4294967296)=z.toNat)(h4:z.toNat≠0)(hL:z8 b c d g i r):lJ b c d g i r :=
 lG 219 [2,1,1,1] [.a,.aV [.o,(.nat 0),(.ev (.pv (vW v))),iW z],.f,.aH [0,1,5]] (y4 (cj (Eq.refl (0:Int)) h1) (fj (enc:=ag) (f:=fun a=>(vW a)) (fun _=>rfl) h2) (fx h3) (aB h4)) hL
theorem X1(b:Ws)(c d:Nat)(g:Ws){r:PV}(h1:d<c)(h2:Cp 230 [aa b,aa b] (aa g))(h3:(d+1)<9223372036854775808)(hL:EH g c (d+1) r):EH b c d r :=
 lG 228 [1,1,1] [.a,.q,.t,.h 2 (.pv (aa g)),.h 0 (iI (((d+1):Nat):Int)),.aH [1,64,65]] (y3 (ai h1) h2 (aL h3)) hL
theorem X2(b:Ws)(c d:Nat)(h1:c≤d):EH b c d (aa b) :=
 lD 228 [1] [.a,.q,.f,.q] (y1 (ar h1))
theorem X3(b c d:Nat)(g i:Ws)(v z:UInt32)(z1:Ws)(n:Nat){r:PV}(h1:0<c)(h2:i[0]? = some v)(h3:(v.toNat%4294967296) &&& (1%4294967296)=z.toNat)(h4:z.toNat=0)(h5:av bp 279 [.row 100000 0 c 1] [(100000,(.pure ((i:Ws).map ag).flatten))] (.row 100000 0 n 1) [(100000,(.pure ((z1:Ws).map ag).flatten))])(hL:z8 b n d g z1 r):z8 b c d g i r :=
 lG 246 [2,1,1,1,1] [.a,.aV [.o,(.nat 0),(.ev (.pv (vW v))),iW z],.t,.h 1 (.bG [(9,100000)] none (.row 100000 0 n 1) [(100000,(.pure ((z1:Ws).map ag).flatten))]),.aH [0,1,5]] (y5 (cj (Eq.refl (0:Int)) h1) (fj (enc:=ag) (f:=fun a=>(vW a)) (fun _=>rfl) h2) (fx h3) (aM h4) h5) hL
theorem X4(b c d:Nat)(g i:Ws)(v z:UInt32)(z1 z2:Ws)(j:Int)(z3 z4 z5:Ws)(n:Nat){r:PV}(h1:0<c)(h2:i[0]? = some v)(h3:(v.toNat%4294967296) &&& (1%4294967296)=z.toNat)(h4:z.toNat≠0)(h5:av bp 231 [.row 100000 0 b 1,.row 100001 0 c 1] [(100000,(.pure ((g:Ws).map ag).flatten)),(100001,(.pure ((i:Ws).map ag).flatten))] (.pv (vI j)) [(100000,(.pure ((z1:Ws).map ag).flatten)),(100001,(.pure ((z2:Ws).map ag).flatten))])(h6:j<0)(h7:av bp 280 [.row 100000 0 c 1,.row 100001 0 b 1] [(100000,(.pure ((z2:Ws).map ag).flatten)),(100001,(.pure ((z1:Ws).map ag).flatten))] (.pv (.aE [])) [(100000,(.pure ((z3:Ws).map ag).flatten)),(100001,(.pure ((z4:Ws).map ag).flatten))])(h8:av bp 281 [.row 100000 0 c 1] [(100000,(.pure ((z3:Ws).map ag).flatten))] (.row 100000 0 n 1) [(100000,(.pure ((z5:Ws).map ag).flatten))])(hL:bA n b d z5 z4 r):z8 b c d g i r :=
 lG 273 [2,1,1,1,1,1,1,1] [.a,.aV [.o,(.nat 0),(.ev (.pv (vW v))),iW z],.f,.h 2 (.bG [(7,100000),(9,100001)] none (.pv (vI j)) [(100000,(.pure ((z1:Ws).map ag).flatten)),(100001,(.pure ((z2:Ws).map ag).flatten))]),.t,.q,.h 2 (.bG [(9,100000),(7,100001)] none (.pv (.aE [])) [(100000,(.pure ((z3:Ws).map ag).flatten)),(100001,(.pure ((z4:Ws).map ag).flatten))]),.h 1 (.bG [(9,100000)] none (.row 100000 0 n 1) [(100000,(.pure ((z5:Ws).map ag).flatten))]),.aH [0,1,5],.ra 9 71,.ra 7 9,.ra 71 7,.ord [7,9]] (y8 (cj (Eq.refl (0:Int)) h1) (fj (enc:=ag) (f:=fun a=>(vW a)) (fun _=>rfl) h2) (fx h3) (aB h4) h5 (bY h6) h7 h8) hL
theorem X5(b c d:Nat)(g i:Ws)(v z:UInt32)(z1 z2:Ws)(j:Int)(z3 z4 z5:Ws)(n:Nat){r:PV}(h1:0<c)(h2:i[0]? = some v)(h3:(v.toNat%4294967296) &&& (1%4294967296)=z.toNat)(h4:z.toNat≠0)(h5:av bp 231 [.row 100000 0 b 1,.row 100001 0 c 1] [(100000,(.pure ((g:Ws).map ag).flatten)),(100001,(.pure ((i:Ws).map ag).flatten))] (.pv (vI j)) [(100000,(.pure ((z1:Ws).map ag).flatten)),(100001,(.pure ((z2:Ws).map ag).flatten))])(h6:0≤j)(h7:av bp 280 [.row 100000 0 b 1,.row 100001 0 c 1] [(100000,(.pure ((z1:Ws).map ag).flatten)),(100001,(.pure ((z2:Ws).map ag).flatten))] (.pv (.aE [])) [(100000,(.pure ((z3:Ws).map ag).flatten)),(100001,(.pure ((z4:Ws).map ag).flatten))])(h8:av bp 281 [.row 100000 0 b 1] [(100000,(.pure ((z3:Ws).map ag).flatten))] (.row 100000 0 n 1) [(100000,(.pure ((z5:Ws).map ag).flatten))])(hL:bA n c d z5 z4 r):z8 b c d g i r :=
 lG 273 [2,1,1,1,1,1,1,1] [.a,.aV [.o,(.nat 0),(.ev (.pv (vW v))),iW z],.f,.h 2 (.bG [(7,100000),(9,100001)] none (.pv (vI j)) [(100000,(.pure ((z1:Ws).map ag).flatten)),(100001,(.pure ((z2:Ws).map ag).flatten))]),.f,.h 2 (.bG [(7,100000),(9,100001)] none (.pv (.aE [])) [(100000,(.pure ((z3:Ws).map ag).flatten)),(100001,(.pure ((z4:Ws).map ag).flatten))]),.h 1 (.bG [(7,100000)] none (.row 100000 0 n 1) [(100000,(.pure ((z5:Ws).map ag).flatten))]),.aH [0,1,5]] (y8 (cj (Eq.refl (0:Int)) h1) (fj (enc:=ag) (f:=fun a=>(vW a)) (fun _=>rfl) h2) (fx h3) (aB h4) h5 (bD h6) h7 h8) hL
end aX
namespace bZ
@[reducible] noncomputable def fn:Func:=Tryz.f274
noncomputable def bf:List eg:=focus [0,2,0,2,0,2,0,0,2,0,0] [.code (ay fn)]
def inv1(a b:List UInt32)(Gt:Int)(qx b9:List UInt32):St:=⟨[(0,(.pv (aa a))),(1,(.pv (aa b))),(6,(.row 13 0 a.length 1)),(7,(.row 17 0 (b.length+1) 1)),(8,(eI Gt))],[(13,(.pure ((qx:List UInt32).map ag).flatten)),(17,(.pure ((b9:List UInt32).map ag).flatten))]⟩
@[reducible] noncomputable def ah(a b:List UInt32)(Gt:Int)(qx b9:List UInt32)(r:PV):Prop:=L bp fn bf (inv1 a b Gt qx b9) r
noncomputable def nD:List eg:=focus [0,2,0,2,0,2,0,0,2,0,0,0,0,0,2,0,2,0,0,0,2,0,0,2,0,0] [.code (ay fn)]
def inv2(a b:List UInt32)(Gt:Int)(C4:UInt32)(Pw:Nat)(qx b9:List UInt32):St:=⟨[(0,(.pv (aa a))),(1,(.pv (aa b))),(6,(.row 13 0 a.length 1)),(7,(.row 17 0 (b.length+1) 1)),(8,(eI Gt)),(9,(eW C4)),(35,(eI (((b.length+1):Nat):Int))),(36,(eI (Pw:Int)))],[(13,(.pure ((qx:List UInt32).map ag).flatten)),(17,(.pure ((b9:List UInt32).map ag).flatten))]⟩
@[reducible] noncomputable def bA(a b:List UInt32)(Gt:Int)(C4:UInt32)(Pw:Nat)(qx b9:List UInt32)(r:PV):Prop:=L bp fn nD (inv2 a b Gt C4 Pw qx b9) r
theorem e0(a b:Ws)(c:Int){r:PV}(h1:4*a.length≤140737488355328)(h2:(b.length+1)<9223372036854775808)(h3:4*(b.length+1)≤140737488355328)(h4:Cp 293 [aa a] (vI c))(h5:ax (c-1))(hL:ah a b (c-1) (List.replicate a.length (0:UInt32)) (List.replicate (b.length+1) (0:UInt32)) r):Cp 274 [aa a,aa b] r :=
 eG Tryz.func274 93 [1,5,1,1,5,1,1] [.q,.aV [.o,(iI (a.length:Int)),(.app a.length ((List.replicate a.length (0:UInt32):Ws).map ag).flatten)],.aV [.o,(iI (b.length:Int)),(iI (((b.length+1):Nat):Int)),(.app (b.length+1) ((List.replicate (b.length+1) (0:UInt32):Ws).map ag).flatten)],.aV [.o,(.pv (vI c)),(iI (c-1))],.aH [0,1,6,7,8],.ord [13,17]] (y7 (an ag a) (q9 ag 0 4 a.length (Eq.refl (((a.length:Nat):Int):Int)) h1 rfl) (an ag b) (aL h2) (q9 ag 0 4 (b.length+1) (Eq.refl ((((b.length+1):Nat):Int):Int)) h3 rfl) h4 (aW h5)) hL
theorem l10(a b:Ws)(c:Int)(d g:Ws)(k:Nat)(v:UInt32)(k1:Nat)(z z1:UInt32){r:PV}(h1:0≤c)(h2:c=(k:Int))(h3:k<9223372036854775808)(h4:a[(k/32)]? = some v)(h5:c=(k1:Int))(h6:v.toNat/2^(min (k1%32) 32)=z.toNat)(h7:(z.toNat%4294967296) &&& (1%4294967296)=z1.toNat)(hL:bA a b c z1 0 d g r):ah a b c d g r :=
 lG 138 [1,1,3,1,1,1] [.a,.q,.t,.aV [.o,.o,(iI (((k/32):Nat):Int)),(.row (k/32) (ag v)),.o,.o,(iI (((k1%32):Nat):Int)),iW z,iW z1],.q,.aH [0,1,6,7,8,9,35,36]] (y6 (eH h1) (MS h2 (u4 (y:=32) (by decide) h3)) (bO ag (Eq.refl ((((k/32):Nat):Int):Int)) h4) (MS h5 (Hs (x:=k1) (y:=32) (by decide))) (kh (k := .i64) h6) (fx h7)) hL
theorem cV(a b:Ws)(c:Int)(d g i j:Ws)(h1:c<0)(h2:a.length=d.length)(h3:(b.length+1)=g.length)(h4:Cp 277 [aa d] (aa i))(h5:Cp 277 [aa g] (aa j)):ah a b c d g (.aE [aa i,aa j]) :=
 lD 126 [1,3,3,1,1] [.a,.q,.f,.fo 6 ((d:Ws).map ag),.fo 7 ((g:Ws).map ag),.aV [.o,(.pv (aa i)),.o,(.pv (aa j))]] (y5 (jO h1) (cU aY (d:Ws) h2) (cU aY (g:Ws) h3) h4 h5)
theorem yj(a b:Ws)(c:Int)(d:UInt32)(g:Nat)(i j:Ws)(v z z1 z2:UInt32){r:PV}(h1:g<(b.length+1))(h2:j[g]? = some v)(h3:(v.toNat*2^(min 1 32))%4294967296=z.toNat)(h4:(z.toNat%4294967296) ||| (d.toNat%4294967296)=z1.toNat)(h5:v.toNat/2^(min 31 32)=z2.toNat)(h6:g<j.length)(h7:(g+1)<9223372036854775808)(hL:bA a b c z2 (g+1) i (j.set g z1) r):bA a b c d g i j r :=
 lG 177 [1,2,1,1,1,2,1,1,2,2,1] [.a,.q,.t,.q,dr 16 1 [.none,.none,.none,.none,(.nat g),(.ev (.pv (vW v))),iW z,.none,iW z1,.none,.none,(.nat g),(.ev (.pv (vW v))),iW z2,(.nat g),(.cells (.pure (((j.set g z1):Ws).map ag).flatten))],.h 0 (iI (((g+1):Nat):Int)),.aH [0,1,6,7,8,9,35,36]] (BL (ai h1) (cj (Eq.refl (((g:Nat):Int):Int)) h1) (fj (enc:=ag) (f:=fun a=>(vW a)) (fun _=>rfl) h2) (zJ (k := .u64) h3) (sx h4) (cj (Eq.refl (((g:Nat):Int):Int)) h1) (fj (enc:=ag) (f:=fun a=>(vW a)) (fun _=>rfl) h2) (kh (k := .u64) h5) (cj (Eq.refl (((g:Nat):Int):Int)) h1) (gm aY (j:Ws) z1 h6) (aL h7)) hL
theorem Be(a b:Ws)(c:Int)(d:UInt32)(g:Nat)(i j z:Ws)(l:Int)(z1:Ws)(k:Nat)(v:UInt32)(k1:Nat)(z2 z3:UInt32){r:PV}(h1:(b.length+1)≤g)(h2:av bp 231 [.row 100000 0 (b.length+1) 1,.pv (aa b)] [(100000,(.pure ((j:Ws).map ag).flatten))] (.pv (vI l)) [(100000,(.pure ((z:Ws).map ag).flatten))])(h3:0≤l)(h4:av bp 280 [.row 100000 0 (b.length+1) 1,.pv (aa b)] [(100000,(.pure ((z:Ws).map ag).flatten))] (.pv (.aE [])) [(100000,(.pure ((z1:Ws).map ag).flatten))])(h5:c=(k:Int))(h6:k<9223372036854775808)(h7:(k/32)<a.length)(h8:i[(k/32)]? = some v)(h9:c=(k1:Int))(ec:(1*2^(min (k1%32) 32))%4294967296=z2.toNat)(il:(v.toNat%4294967296) ||| (z2.toNat%4294967296)=z3.toNat)(mF:(k/32)<i.length)(u9:ax (c-1))(hL:ah a b (c-1) (i.set (k/32) z3) z1 r):bA a b c d g i j r :=
 lG 189 [1,1,1,1,1,2,1,1,1,1,2,2,1] [.a,.q,.f,.h 2 (.bG [(17,100000)] none (.pv (vI l)) [(100000,(.pure ((z:Ws).map ag).flatten))]),.t,.h 2 (.bG [(17,100000)] none (.pv (.aE [])) [(100000,(.pure ((z1:Ws).map ag).flatten))]),dr 10 1 [.none,.none,(iI (((k/32):Nat):Int)),(.nat (k/32)),(.ev (.pv (vW v))),.none,(iI (((k1%32):Nat):Int)),iW z2,iW z3,(.nat (k/32)),(.cells (.pure (((i.set (k/32) z3):Ws).map ag).flatten))],.h 1 (iI (c-1)),.aH [0,1,6,7,8]] (Ht (ar h1) h2 (eH h3) h4 (MS h5 (u4 (y:=32) (by decide) h6)) (cj (Eq.refl ((((k/32):Nat):Int):Int)) h7) (fj (enc:=ag) (f:=fun a=>(vW a)) (fun _=>rfl) h8) (MS h9 (Hs (x:=k1) (y:=32) (by decide))) (zJ (k := .i64) ec) (sx il) (cj (Eq.refl ((((k/32):Nat):Int):Int)) h7) (gm aY (i:Ws) z3 mF) (aW u9)) hL
theorem Kt(a b:Ws)(c:Int)(d:UInt32)(g:Nat)(i j z:Ws)(k:Int){r:PV}(h1:(b.length+1)≤g)(h2:av bp 231 [.row 100000 0 (b.length+1) 1,.pv (aa b)] [(100000,(.pure ((j:Ws).map ag).flatten))] (.pv (vI k)) [(100000,(.pure ((z:Ws).map ag).flatten))])(h3:k<0)(h4:ax (c-1))(hL:ah a b (c-1) i z r):bA a b c d g i j r :=
 lG 183 [1,1,1,1] [.a,.q,.f,.h 2 (.bG [(17,100000)] none (.pv (vI k)) [(100000,(.pure ((z:Ws).map ag).flatten))]),.f,.h 1 (iI (c-1)),.aH [0,1,6,7,8]] (y4 (ar h1) h2 (jO h3) (aW h4)) hL
end bZ
namespace jI
theorem e0(a:au)(h1:a.ct.length=0):Cp 276 [a.pv] (vB (!a.neg)) :=
 eD Tryz.func276 84 [1,1] [.q,.h 2 (iI (a.ct.length:Int)),.t,.q] (y2 (an ag a.ct) (aM h1))
theorem e1(a:au)(k:Nat)(v:UInt32)(h1:a.ct.length≠0)(h2:ax ((a.ct.length:Int)-1))(h3:((a.ct.length:Int)-1)=(k:Int))(h4:a.ct[k]? = some v):Cp 276 [a.pv] (vB ((v.toNat:Int) != 0)) :=
 eD Tryz.func276 87 [1,1,1,1,3] [.q,.h 2 (iI (a.ct.length:Int)),.f,.aV [.o,.o,.o,.o,(iI (a.ct.length:Int)),(iI ((a.ct.length:Int)-1)),(.row k (ag v))]] (y5 (an ag a.ct) (aB h1) (an ag a.ct) (aW h2) (bO ag h3 h4))
end jI
namespace ew
@[reducible] noncomputable def fn:Func:=Tryz.f277
noncomputable def bf:List eg:=focus [0,2,0,2,0,0,0] [.code (ay fn)]
def inv1(gX:List UInt32):St:=⟨[(3,(.row 6 0 gX.length 1))],[(6,(.pure ((gX:List UInt32).map ag).flatten))]⟩
@[reducible] noncomputable def ah(gX:List UInt32)(r:PV):Prop:=L bp fn bf (inv1 gX) r
theorem e0(a:Ws){r:PV}(h1:(([]:Ws)++a:Ws).length*4≤140737488355328)(hL:ah a r):Cp 277 [aa a] r :=
 eG Tryz.func277 81 [6] [.q,.h 2 (.app (a:Ws).length ((a:Ws).map ag).flatten),.aH [3]] (y1 (qj aY ([]:Ws) (a:Ws) 4 (Eq.refl ([]:Ws).length) h1 rfl)) hL
theorem l10(b:Ws)(k:Nat)(v:UInt32)(u:Nat){r:PV}(h1:0<b.length)(h2:ax ((b.length:Int)-1))(h3:((b.length:Int)-1)=(k:Int))(h4:k<b.length)(h5:b[k]? = some v)(h6:v.toNat=0)(h7:((b.length:Int)-1)=(u:Int))(h8:u≤(b:Ws).length)(hL:ah (b.take u) r):ah b r :=
 lG 108 [1,1,1,1,1,1,2,1,1,1,1,1,1,5,1] [.a,.aV [.o,.o,.o,.o,.o,.o,.o,(iI ((b.length:Int)-1)),(.nat k),(.ev (.pv (vW v))),.o,(.dec true)],.t,.aV [.o,.o,.o,(iI ((b.length:Int)-1)),(.iL 0 ((b.take u).length) [])],.cut 6 (u*1) (((b.take u):Ws).map ag).flatten,.aH [3]] (Jk (ai h1) (ai h1) (ai h1) (ai h1) (aW h2) (ai h1) (cj h3 h4) (ai h1) (fj (enc:=ag) (f:=fun a=>(vW a)) (fun _=>rfl) h5) (ai h1) (ai h1) (aM h6) (aW h2) (Ew (b:Ws) h7 h8) (tq aY (b:Ws) u)) hL
theorem cV(b:Ws)(k:Nat)(v:UInt32)(h1:0<b.length)(h2:ax ((b.length:Int)-1))(h3:((b.length:Int)-1)=(k:Int))(h4:k<b.length)(h5:b[k]? = some v)(h6:v.toNat≠0):ah b (aa b) :=
 lD 114 [1,1,1,1,1,1,2,1,1,1,1,1,3] [.a,.aV [.o,.o,.o,.o,.o,.o,.o,(iI ((b.length:Int)-1)),(.nat k),(.ev (.pv (vW v))),.o,(.dec true)],.f,.q,.fo 2 ((b:Ws).map ag)] (Ht (ai h1) (ai h1) (ai h1) (ai h1) (aW h2) (ai h1) (cj h3 h4) (ai h1) (fj (enc:=ag) (f:=fun a=>(vW a)) (fun _=>rfl) h5) (ai h1) (ai h1) (aB h6) (cU aY (b:Ws) (Eq.refl (b:Ws).length)))
theorem kI(b:Ws)(h1:b.length≤0):ah b (aa b) :=
 lD 114 [1,1,1,1,1,1,1,1,3] [.a,.aV [.o,.o,.o,.o,.skip,.skip,.skip,.skip,.skip,.skip,.skip,(.dec false)],.a,.q,.fo 2 ((b:Ws).map ag)] (y9 (ar h1) (ar h1) (ar h1) (ar h1) (ar h1) (ar h1) (ar h1) (ar h1) (cU aY (b:Ws) (Eq.refl (b:Ws).length)))
end ew
namespace dZ
@[reducible] noncomputable def fn:Func:=Tryz.f277
noncomputable def bf:List eg:=focus [0,2,0,2,0,0,0] [.code (ay fn)]
def inv1(gX:List UInt32):St:=⟨[(3,(.row 6 0 gX.length 1))],[(6,(.pure ((gX:List UInt32).map ag).flatten))]⟩
@[reducible] noncomputable def ah(gX:List UInt32)(sin:aS)(r:EV)(sout:aS):Prop:=LX bp fn bf (inv1 gX) sin r sout
theorem e0(a:Ws){r:EV}{sout:aS}(h1:(([]:Ws)++a:Ws).length*4≤140737488355328)(hL:ah a [] r sout):av bp 277 [(.pv (aa a))] [] r sout :=
 Kl Tryz.func277 81 [6] [.q,.h 2 (.app (a:Ws).length ((a:Ws).map ag).flatten),.aH [3]] (y1 (qj aY ([]:Ws) (a:Ws) 4 (Eq.refl ([]:Ws).length) h1 rfl)) hL
theorem l10(b:Ws)(k:Nat)(v:UInt32)(u:Nat){r:EV}{sout:aS}{sin:aS}(hs:sin.all (fun p=>Nat.ble fn.ntmps p.1)=true)(h1:0<b.length)(h2:ax ((b.length:Int)-1))(h3:((b.length:Int)-1)=(k:Int))(h4:k<b.length)(h5:b[k]? = some v)(h6:v.toNat=0)(h7:((b.length:Int)-1)=(u:Int))(h8:u≤(b:Ws).length)(hL:ah (b.take u) sin r sout):ah b sin r sout :=
 IK 108 [1,1,1,1,1,1,2,1,1,1,1,1,1,5,1] [.a,.aV [.o,.o,.o,.o,.o,.o,.o,(iI ((b.length:Int)-1)),(.nat k),(.ev (.pv (vW v))),.o,(.dec true)],.t,.aV [.o,.o,.o,(iI ((b.length:Int)-1)),(.iL 0 ((b.take u).length) [])],.cut 6 (u*1) (((b.take u):Ws).map ag).flatten,.aH [3]] hs (Jk (ai h1) (ai h1) (ai h1) (ai h1) (aW h2) (ai h1) (cj h3 h4) (ai h1) (fj (enc:=ag) (f:=fun a=>(vW a)) (fun _=>rfl) h5) (ai h1) (ai h1) (aM h6) (aW h2) (Ew (b:Ws) h7 h8) (tq aY (b:Ws) u)) hL
theorem cV(b:Ws)(k:Nat)(v:UInt32){sin:aS}(hs:sin.all (fun p=>Nat.ble fn.ntmps p.1)=true)(hi:sin.all (fun p=>uC p.1||(aS.get [(0,(.pure ((b:Ws).map ag).flatten))] p.1).isSome)=true)(h1:0<b.length)(h2:ax ((b.length:Int)-1))(h3:((b.length:Int)-1)=(k:Int))(h4:k<b.length)(h5:b[k]? = some v)(h6:v.toNat≠0):ah b sin (.row 0 0 b.length 1) [(0,(.pure ((b:Ws).map ag).flatten))] :=
 DP 114 [1,1,1,1,1,1,2,1,1,1,1,1] [.a,.aV [.o,.o,.o,.o,.o,.o,.o,(iI ((b.length:Int)-1)),(.nat k),(.ev (.pv (vW v))),.o,(.dec true)],.f,.q,.ra 6 0,.ord [0]] hs hi (Jj (ai h1) (ai h1) (ai h1) (ai h1) (aW h2) (ai h1) (cj h3 h4) (ai h1) (fj (enc:=ag) (f:=fun a=>(vW a)) (fun _=>rfl) h5) (ai h1) (ai h1) (aB h6))
theorem kI(b:Ws){sin:aS}(hs:sin.all (fun p=>Nat.ble fn.ntmps p.1)=true)(hi:sin.all (fun p=>uC p.1||(aS.get [(0,(.pure ((b:Ws).map ag).flatten))] p.1).isSome)=true)(h1:b.length≤0):ah b sin (.row 0 0 b.length 1) [(0,(.pure ((b:Ws).map ag).flatten))] :=
 DP 114 [1,1,1,1,1,1,1,1] [.a,.aV [.o,.o,.o,.o,.skip,.skip,.skip,.skip,.skip,.skip,.skip,(.dec false)],.a,.q,.ra 6 0,.ord [0]] hs hi (y8 (ar h1) (ar h1) (ar h1) (ar h1) (ar h1) (ar h1) (ar h1) (ar h1))
end dZ
namespace lX
theorem e0(a:Ws)(i:Int)(k:Nat)(v:UInt32)(h1:i<(a.length:Int))(h2:i=(k:Int))(h3:a[k]? = some v):Cp 278 [aa a,vI i] (vU v.toNat) :=
 eD Tryz.func278 84 [1,1,3,1] [.q,.h 2 (iI (a.length:Int)),.t,.aV [.o,.o,(.row k (ag v)),.o,iU v.toNat]] (y4 (an ag a) (bY h1) (bO ag h2 h3) (mg v))
theorem e1(a:Ws)(i:Int)(h1:(a.length:Int)≤i):Cp 278 [aa a,vI i] (vU 0) :=
 eD Tryz.func278 87 [1,1] [.q,.h 2 (iI (a.length:Int)),.f,.q] (y2 (an ag a) (bD h1))
end lX
namespace lk
theorem e0(a:Ws)(b:Nat)(i:Int)(k:Nat)(v:UInt32)(h1:i<(b:Int))(h2:i=(k:Int))(h3:k<b)(h4:a[k]? = some v):av bp 278 [(.row 100000 0 b 1),eI i] [(100000,(.pure ((a:Ws).map ag).flatten))] (.pv (vU v.toNat)) [(100000,(.pure ((a:Ws).map ag).flatten))] :=
 IL Tryz.func278 84 [1,2,1,1] [.q,.q,.t,.aV [.o,.o,(.nat k),(.ev (.pv (vW v))),iU v.toNat],.ord [100000]] (y4 (bY h1) (cj h2 h3) (fj (enc:=ag) (f:=fun a=>(vW a)) (fun _=>rfl) h4) (mg v))
theorem e1(a:Ws)(b:Nat)(i:Int)(h1:(b:Int)≤i):av bp 278 [(.row 100000 0 b 1),eI i] [(100000,(.pure ((a:Ws).map ag).flatten))] (.pv (vU 0)) [(100000,(.pure ((a:Ws).map ag).flatten))] :=
 IL Tryz.func278 87 [1] [.q,.q,.f,.q,.ord [100000]] (y1 (bD h1))
end lk
namespace eY
@[reducible] noncomputable def fn:Func:=Tryz.f279
noncomputable def bf:List eg:=focus [0,2,0,0,2,0,0] [.code (ay fn)]
def inv1(len Px:Nat)(bw:List UInt32):St:=⟨[(0,(.row 100000 0 len 1)),(5,(eI (len:Int))),(6,(eI (Px:Int)))],[(100000,(.pure ((bw:List UInt32).map ag).flatten))]⟩
@[reducible] noncomputable def ah(len Px:Nat)(bw:List UInt32)(sin:aS)(r:EV)(sout:aS):Prop:=LX bp fn bf (inv1 len Px bw) sin r sout
theorem e0 (a : Ws) (b : Nat) {r : EV} {sout : aS}  (hL : ah b 0 a [(100000, (.pure ((a : Ws).map ag).flatten))] r sout) : av bp 279 [(.row 100000 0 b 1)] [(100000, (.pure ((a : Ws).map ag).flatten))] r sout :=
 Kl Tryz.func279 81 [] [.q,.q,.aH [0,5,6]] True.intro hL
theorem l10(b c:Nat)(d z:Ws)(g z1:Nat)(z2:Ws)(i z3 z4:Nat)(w:UInt32){r:EV}{sout:aS}{sin:aS}(hs:sin.all (fun p=>Nat.ble fn.ntmps p.1)=true)(h1:c<b)(h2:av bp 278 [.row 100000 0 b 1,.pv (vI (c:Int))] [(100000,(.pure ((d:Ws).map ag).flatten))] (.pv (vU g)) [(100000,(.pure ((z:Ws).map ag).flatten))])(h3:g/2^(min 1 64)=z1)(h4:(c+1)<9223372036854775808)(h5:av bp 278 [.row 100000 0 b 1,.pv (vI (((c+1):Nat):Int))] [(100000,(.pure ((z:Ws).map ag).flatten))] (.pv (vU i)) [(100000,(.pure ((z2:Ws).map ag).flatten))])(h6:(i*2^(min 31 64))%18446744073709551616=z3)(h7:(z1%18446744073709551616) ||| (z3%18446744073709551616)=z4)(h8:z4%4294967296=w.toNat)(h9:c<z2.length)(hL:ah b (c+1) (z2.set c w) sin r sout):ah b c d sin r sout :=
 IK 120 [1,1,1,1,1,1,1,1,2,2,1] [.a,.q,.t,.q,.aV [.o,.o,.o,.o,(.bG [(100000,100000)] none (.pv (vU g)) [(100000,(.pure ((z:Ws).map ag).flatten))]),iU z1,.o,.o,(iI (((c+1):Nat):Int)),(.bG [(100000,100000)] none (.pv (vU i)) [(100000,(.pure ((z2:Ws).map ag).flatten))]),iU z3,iU z4,iW w,(.nat c),(.cells (.pure (((z2.set c w):Ws).map ag).flatten))],.h 0 (iI (((c+1):Nat):Int)),.aH [0,5,6]] hs (BL (ai h1) h2 (cF (k := .u64) h3) (aL h4) h5 (gP (k := .u64) h6) (lR h7) (cv h8) (cj (Eq.refl (((c:Nat):Int):Int)) h1) (gm aY (z2:Ws) w h9) (aL h4)) hL
theorem cV(b c:Nat)(d z:Ws)(n:Nat){sin:aS}(hs:sin.all (fun p=>Nat.ble fn.ntmps p.1)=true)(hi:sin.all (fun p=>uC p.1||(aS.get [(100000,(.pure (((z.take n):Ws).map ag).flatten))] p.1).isSome)=true)(h1:b≤c)(h2:av bp 281 [.row 100000 0 b 1] [(100000,(.pure ((d:Ws).map ag).flatten))] (.row 100000 0 n 1) [(100000,(.pure ((z:Ws).map ag).flatten))]):ah b c d sin (.row 100000 0 n 1) [(100000,(.pure (((z.take n):Ws).map ag).flatten))] :=
 DP 114 [1,1,1] [.a,.q,.f,.h 1 (.bG [(100000,100000)] none (.row 100000 0 n 1) [(100000,(.pure ((z:Ws).map ag).flatten))]),.cut 100000 (n*1) (((z.take n):Ws).map ag).flatten,.ord [100000]] hs hi (y3 (ar h1) h2 (tq aY (z:Ws) n))
end eY
namespace fC
@[reducible] noncomputable def fn:Func:=Tryz.f280
noncomputable def bf:List eg:=focus [0,2,0,2,0,0] [.code (ay fn)]
def inv1(len:Nat)(b:List UInt32)(nI KG:Nat)(bw:List UInt32):St:=⟨[(0,(.row 100000 0 len 1)),(1,(.pv (aa b))),(4,(eU nI)),(8,(eI (len:Int))),(9,(eI (KG:Int)))],[(100000,(.pure ((bw:List UInt32).map ag).flatten))]⟩
@[reducible] noncomputable def ah(len:Nat)(b:List UInt32)(nI KG:Nat)(bw:List UInt32)(sin:aS)(r:EV)(sout:aS):Prop:=LX bp fn bf (inv1 len b nI KG bw) sin r sout
theorem e0 (a : Ws) (c : Nat) (b : Ws) {r : EV} {sout : aS}  (hL : ah c b 0 0 a [(100000, (.pure ((a : Ws).map ag).flatten))] r sout) : av bp 280 [(.row 100000 0 c 1), (.pv (aa b))] [(100000, (.pure ((a : Ws).map ag).flatten))] r sout :=
 Kl Tryz.func280 78 [] [.q,.q,.aH [0,1,4,8,9]] True.intro hL
theorem l10(c:Nat)(b:Ws)(g i:Nat)(j z:Ws)(l s m d d1:Nat)(w:UInt32)(z1 d2:Nat){r:EV}{sout:aS}{sin:aS}(hs:sin.all (fun p=>Nat.ble fn.ntmps p.1)=true)(h1:i<c)(h2:av bp 278 [.row 100000 0 c 1,.pv (vI (i:Int))] [(100000,(.pure ((j:Ws).map ag).flatten))] (.pv (vU l)) [(100000,(.pure ((z:Ws).map ag).flatten))])(h3:(4294967296+l)%18446744073709551616=s)(h4:Cp 278 [aa b,(vI (i:Int))] (vU m))(h5:((s:Nat)-(m:Nat):Int)%18446744073709551616=(d:Int))(h6:((d:Nat)-(g:Nat):Int)%18446744073709551616=(d1:Int))(h7:d1%4294967296=w.toNat)(h8:d1/2^(min 32 64)=z1)(h9:((1:Nat)-(z1:Nat):Int)%18446744073709551616=(d2:Int))(ec:i<z.length)(il:(i+1)<9223372036854775808)(hL:ah c b d2 (i+1) (z.set i w) sin r sout):ah c b g i j sin r sout :=
 IK 123 [1,1,1,1,1,1,1,1,1,2,2,1] [.a,.q,.t,.q,.aV [.o,.o,(.bG [(100000,100000)] none (.pv (vU l)) [(100000,(.pure ((z:Ws).map ag).flatten))]),iU s,.o,.o,(.pv (vU m)),iU d,.o,iU d1],.aV [.o,.o,.o,iW w,.o,iU z1,iU d2,(.nat i),(.cells (.pure (((z.set i w):Ws).map ag).flatten))],.h 0 (iI (((i+1):Nat):Int)),.aH [0,1,4,8,9]] hs (Jj (ai h1) h2 (dj h3) h4 (c9 h5) (c9 h6) (cv h7) (cF (k := .u64) h8) (c9 h9) (cj (Eq.refl (((i:Nat):Int):Int)) h1) (gm aY (z:Ws) w ec) (aL il)) hL
theorem cV(c:Nat)(b:Ws)(d g:Nat)(i:Ws){sin:aS}(hs:sin.all (fun p=>Nat.ble fn.ntmps p.1)=true)(hi:sin.all (fun p=>uC p.1||(aS.get [(100000,(.pure ((i:Ws).map ag).flatten))] p.1).isSome)=true)(h1:c≤g):ah c b d g i sin (.pv (.aE [])) [(100000,(.pure ((i:Ws).map ag).flatten))] :=
 DP 105 [1] [.a,.q,.f,.ord [100000]] hs hi (y1 (ar h1))
end fC
namespace eZ
@[reducible] noncomputable def fn:Func:=Tryz.f280
noncomputable def bf:List eg:=focus [0,2,0,2,0,0] [.code (ay fn)]
def inv1(len nF nI KG:Nat)(bw iT:List UInt32):St:=⟨[(0,(.row 100000 0 len 1)),(1,(.row 100001 0 nF 1)),(4,(eU nI)),(8,(eI (len:Int))),(9,(eI (KG:Int)))],[(100000,(.pure ((bw:List UInt32).map ag).flatten)),(100001,(.pure ((iT:List UInt32).map ag).flatten))]⟩
@[reducible] noncomputable def ah(len nF nI KG:Nat)(bw iT:List UInt32)(sin:aS)(r:EV)(sout:aS):Prop:=LX bp fn bf (inv1 len nF nI KG bw iT) sin r sout
theorem e0 (a : Ws) (c : Nat) (b : Ws) (d : Nat) {r : EV} {sout : aS}  (hL : ah c d 0 0 a b [(100000, (.pure ((a : Ws).map ag).flatten)), (100001, (.pure ((b : Ws).map ag).flatten))] r sout) : av bp 280 [(.row 100000 0 c 1), (.row 100001 0 d 1)] [(100000, (.pure ((a : Ws).map ag).flatten)), (100001, (.pure ((b : Ws).map ag).flatten))] r sout :=
 Kl Tryz.func280 78 [] [.q,.q,.aH [0,1,4,8,9]] True.intro hL
theorem l10(b c g i:Nat)(j l z:Ws)(m s:Nat)(z1:Ws)(n d d1:Nat)(w:UInt32)(z2 d2:Nat){r:EV}{sout:aS}{sin:aS}(hs:sin.all (fun p=>Nat.ble fn.ntmps p.1)=true)(h1:i<b)(h2:av bp 278 [.row 100000 0 b 1,.pv (vI (i:Int))] [(100000,(.pure ((j:Ws).map ag).flatten))] (.pv (vU m)) [(100000,(.pure ((z:Ws).map ag).flatten))])(h3:(4294967296+m)%18446744073709551616=s)(h4:av bp 278 [.row 100000 0 c 1,.pv (vI (i:Int))] [(100000,(.pure ((l:Ws).map ag).flatten))] (.pv (vU n)) [(100000,(.pure ((z1:Ws).map ag).flatten))])(h5:((s:Nat)-(n:Nat):Int)%18446744073709551616=(d:Int))(h6:((d:Nat)-(g:Nat):Int)%18446744073709551616=(d1:Int))(h7:d1%4294967296=w.toNat)(h8:d1/2^(min 32 64)=z2)(h9:((1:Nat)-(z2:Nat):Int)%18446744073709551616=(d2:Int))(ec:i<z.length)(il:(i+1)<9223372036854775808)(hL:ah b c d2 (i+1) (z.set i w) z1 sin r sout):ah b c g i j l sin r sout :=
 IK 123 [1,1,1,1,1,1,1,1,1,2,2,1] [.a,.q,.t,.q,.aV [.o,.o,(.bG [(100000,100000)] none (.pv (vU m)) [(100000,(.pure ((z:Ws).map ag).flatten))]),iU s,.o,.o,(.bG [(100001,100000)] none (.pv (vU n)) [(100000,(.pure ((z1:Ws).map ag).flatten))]),iU d,.o,iU d1],.aV [.o,.o,.o,iW w,.o,iU z2,iU d2,(.nat i),(.cells (.pure (((z.set i w):Ws).map ag).flatten))],.h 0 (iI (((i+1):Nat):Int)),.aH [0,1,4,8,9]] hs (Jj (ai h1) h2 (dj h3) h4 (c9 h5) (c9 h6) (cv h7) (cF (k := .u64) h8) (c9 h9) (cj (Eq.refl (((i:Nat):Int):Int)) h1) (gm aY (z:Ws) w ec) (aL il)) hL
theorem cV(b c d g:Nat)(i j:Ws){sin:aS}(hs:sin.all (fun p=>Nat.ble fn.ntmps p.1)=true)(hi:sin.all (fun p=>uC p.1||(aS.get [(100000,(.pure ((i:Ws).map ag).flatten)),(100001,(.pure ((j:Ws).map ag).flatten))] p.1).isSome)=true)(h1:b≤g):ah b c d g i j sin (.pv (.aE [])) [(100000,(.pure ((i:Ws).map ag).flatten)),(100001,(.pure ((j:Ws).map ag).flatten))] :=
 DP 105 [1] [.a,.q,.f,.ord [100000,100001]] hs hi (y1 (ar h1))
end eZ
namespace eQ
@[reducible] noncomputable def fn:Func:=Tryz.f281
noncomputable def bf:List eg:=focus [0,2,0,0,0] [.code (ay fn)]
def inv1(ug:Nat)(a:List UInt32):St:=⟨[(0,(.row 100000 0 ug 1))],[(100000,(.pure ((a:List UInt32).map ag).flatten))]⟩
@[reducible] noncomputable def ah(ug:Nat)(a:List UInt32)(sin:aS)(r:EV)(sout:aS):Prop:=LX bp fn bf (inv1 ug a) sin r sout
theorem e0 (a : Ws) (b : Nat) {r : EV} {sout : aS}  (hL : ah b a [(100000, (.pure ((a : Ws).map ag).flatten))] r sout) : av bp 281 [(.row 100000 0 b 1)] [(100000, (.pure ((a : Ws).map ag).flatten))] r sout :=
 Kl Tryz.func281 75 [] [.q,.aH [0]] True.intro hL
theorem l10(b:Nat)(a:Ws)(k:Nat)(v:UInt32)(u:Nat){r:EV}{sout:aS}{sin:aS}(hs:sin.all (fun p=>Nat.ble fn.ntmps p.1)=true)(h1:0<b)(h2:ax ((b:Int)-1))(h3:((b:Int)-1)=(k:Int))(h4:k<b)(h5:a[k]? = some v)(h6:v.toNat=0)(h7:((b:Int)-1)=(u:Int))(h8:u≤b)(hL:ah u a sin r sout):ah b a sin r sout :=
 IK 102 [1,1,1,1,1,1,2,1,1,1,1,1,1,5] [.a,.aV [.o,.o,.o,.o,.o,.o,.o,(iI ((b:Int)-1)),(.nat k),(.ev (.pv (vW v))),.o,(.dec true)],.t,.aV [.o,.o,.o,(iI ((b:Int)-1)),(.iL 0 u [])],.aH [0]] hs (Km (ai h1) (ai h1) (ai h1) (ai h1) (aW h2) (ai h1) (cj h3 h4) (ai h1) (fj (enc:=ag) (f:=fun a=>(vW a)) (fun _=>rfl) h5) (ai h1) (ai h1) (aM h6) (aW h2) (RJ (Eq.refl (0:Int)) h7 (Or.inl (Eq.refl 0)) (Nat.zero_le u) h8)) hL
theorem cV(b:Nat)(a:Ws)(k:Nat)(v:UInt32){sin:aS}(hs:sin.all (fun p=>Nat.ble fn.ntmps p.1)=true)(hi:sin.all (fun p=>uC p.1||(aS.get [(100000,(.pure (((a.take b):Ws).map ag).flatten))] p.1).isSome)=true)(h1:0<b)(h2:ax ((b:Int)-1))(h3:((b:Int)-1)=(k:Int))(h4:k<b)(h5:a[k]? = some v)(h6:v.toNat≠0):ah b a sin (.row 100000 0 b 1) [(100000,(.pure (((a.take b):Ws).map ag).flatten))] :=
 DP 108 [1,1,1,1,1,1,2,1,1,1,1,1,1] [.a,.aV [.o,.o,.o,.o,.o,.o,.o,(iI ((b:Int)-1)),(.nat k),(.ev (.pv (vW v))),.o,(.dec true)],.f,.q,.cut 100000 (b*1) (((a.take b):Ws).map ag).flatten,.ord [100000]] hs hi (Ht (ai h1) (ai h1) (ai h1) (ai h1) (aW h2) (ai h1) (cj h3 h4) (ai h1) (fj (enc:=ag) (f:=fun a=>(vW a)) (fun _=>rfl) h5) (ai h1) (ai h1) (aB h6) (tq aY (a:Ws) b))
theorem kI(b:Nat)(a:Ws){sin:aS}(hs:sin.all (fun p=>Nat.ble fn.ntmps p.1)=true)(hi:sin.all (fun p=>uC p.1||(aS.get [(100000,(.pure (((a.take b):Ws).map ag).flatten))] p.1).isSome)=true)(h1:b≤0):ah b a sin (.row 100000 0 b 1) [(100000,(.pure (((a.take b):Ws).map ag).flatten))] :=
 DP 108 [1,1,1,1,1,1,1,1,1] [.a,.aV [.o,.o,.o,.o,.skip,.skip,.skip,.skip,.skip,.skip,.skip,(.dec false)],.a,.q,.cut 100000 (b*1) (((a.take b):Ws).map ag).flatten,.ord [100000]] hs hi (y9 (ar h1) (ar h1) (ar h1) (ar h1) (ar h1) (ar h1) (ar h1) (ar h1) (tq aY (a:Ws) b))
end eQ
namespace dI
@[reducible] noncomputable def fn:Func:=Tryz.f293
noncomputable def bf:List eg:=focus [0,2,0,0,2,1,2,0,2,0,0,2,0,0] [.code (ay fn)]
def inv1(Po:Int)(UT:UInt32):St:=⟨[(3,(eI Po)),(4,(eW UT))],[]⟩
@[reducible] noncomputable def ah(Po:Int)(UT:UInt32)(r:PV):Prop:=L bp fn bf (inv1 Po UT) r
theorem e0(a:Ws)(h1:a.length=0):Cp 293 [aa a] (vI 0) :=
 eD Tryz.func293 84 [1,1] [.q,.h 1 (iI (a.length:Int)),.t,.q] (y2 (an ag a) (aM h1))
theorem e1(a:Ws)(k:Nat)(v:UInt32){r:PV}(h1:a.length≠0)(h2:ax ((a.length:Int)-1))(h3:ax (32*((a.length:Int)-1)))(h4:((a.length:Int)-1)=(k:Int))(h5:a[k]? = some v)(hL:ah (32*((a.length:Int)-1)) v r):Cp 293 [aa a] r :=
 eG Tryz.func293 102 [1,1,1,1,1,1,1,3] [.q,.h 1 (iI (a.length:Int)),.f,.aV [.o,(iI (a.length:Int)),(iI ((a.length:Int)-1)),(iI (32*((a.length:Int)-1)))],.aV [.o,.o,(iI (a.length:Int)),(iI ((a.length:Int)-1)),(.row k (ag v))],.aH [3,4]] (y8 (an ag a) (aB h1) (an ag a) (aW h2) (tV h3) (an ag a) (aW h2) (bO ag h4 h5)) hL
theorem l10(b:Int)(c z:UInt32){r:PV}(h1:0<c.toNat)(h2:ax (b+1))(h3:c.toNat/2^(min 1 32)=z.toNat)(hL:ah (b+1) z r):ah b c r :=
 lG 135 [1,1,1] [.a,.q,.t,.h 1 (iI (b+1)),.h 1 (iW z),.aH [3,4]] (y3 (ai h1) (o0 h2) (kh (k := .u64) h3)) hL
theorem cV(b:Int)(c:UInt32)(h1:c.toNat≤0):ah b c (vI b) :=
 lD 135 [1] [.a,.q,.f,.q] (y1 (ar h1))
end dI
end Go.Proofs.YtllmkadmohkbfaaGreatDoor.Sym.Path
namespace Go.Proofs.YtllmkadmohkbfaaGreatDoor.Sym
open Go Path
set_option linter.unusedVariables false
abbrev ws(a:Words):SC := .pure ((a:List UInt32).map ag).flatten
namespace uD
open bN
theorem Valid(a:au)(h:Fit a.ct):Cp 276 [a.pv] (vB a.valid):=by
 unfold au.valid
 rw[db]
 by_cases h0:a.ct.length=0
 ·simp only[h0,decide_true,cond_true]
  exact jI.e0 a h0
 ·simp only[h0,decide_false,cond_false]
  obtain⟨v,hv⟩:∃v,a.ct[a.ct.length-1]? = some v:=⟨_,List.getElem?_eq_getElem (by omega)⟩
  have:=jI.e1 a (a.ct.length-1) v h0 (by unfold ax;omega) (by omega) hv
  have e:cn a.ct=((v.toNat:Int) != 0):=by
   have h1:=l6 hv
   by_cases h2:v.toNat=0
   ·have h3:((v.toNat:Int) != 0)=false:=by simp[h2]
    rw[h3]
    cases hc:cn a.ct with
    |true=>exact absurd h2 (h1.1 hc)
    |false=>rfl
   ·have h3:((v.toNat:Int) != 0)=true:=by simp;omega
    rw[h3];exact h1.2 h2
  rw[e];exact this
theorem ct(a:au)(h:Fit a.ct):Cp 227 [a.pv] (aa (words a.val.natAbs)):=by
 rw[C0]
 cases hv:a.valid with
 |false=>exact lh.e0 a a.valid (Valid a h) hv
 |true=>exact lh.e1 a a.valid (Valid a h) hv
theorem neg(a:au)(h:Fit a.ct):Cp 228 [a.pv] (vB (decide (a.val<0))):=by
 rw[yk]
 cases hv:a.valid with
 |false=>exact lj.e1 a a.valid (Valid a h) hv
 |true=>rw[Bool.true_and];exact lj.e0 a a.valid (Valid a h) hv
theorem trimmed{l:Words}{n:Nat}{v:UInt32}(hv:l[n]? = some v)(h0:v.toNat=0)(hn:n+1=l.length):nat (l.take n)=nat l:=by
 have:=bR hv
 rw[aR (by omega),h0] at this
 omega
theorem trim(a:Words)(h:a.length≤35184372088832):Cp 277 [aa a] (aa (words (nat a))):=by
 have loop:∀(n:Nat) (l:Words),l.length=n→n≤35184372088832→ew.ah l (aa (words (nat l))):=by
  intro n
  induction n with
  |zero =>
   intro l hl _
   have:l=[]:=List.eq_nil_of_length_eq_zero hl
   subst this
   exact ew.kI [] (by simp)
  |succ n ih =>
   intro l hl hb
   obtain⟨v,hv⟩:∃v,l[n]? = some v:=⟨_,List.getElem?_eq_getElem (by omega)⟩
   by_cases h0:v.toNat=0
   ·refine ew.l10 l n v n (by omega) (by unfold ax;omega) (by omega) (by omega) hv h0 (by omega) (by omega) ?_
    have:=ih (l.take n) (by simp;omega) (by omega)
    rwa[trimmed hv h0 hl.symm] at this
   ·rw[rH ((l6 (v:=v) (by rw[hl];exact hv)).2 h0) rfl]
    exact ew.cV l n v (by omega) (by unfold ax;omega) (by omega) (by omega) hv h0
 exact ew.e0 a (by simp;omega) (loop _ a rfl h)
theorem Ob(a:Words)(h:a.length≤35184372088832):av bp 277 [.pv (aa a)] [] (.row 0 0 (words (nat a)).length 1) [(0,ws (words (nat a)))]:=by
 have loop:∀(n:Nat) (l:Words),l.length=n→n≤35184372088832→dZ.ah l [] (.row 0 0 (words (nat l)).length 1) [(0,ws (words (nat l)))]:=by
  intro n
  induction n with
  |zero =>
   intro l hl _
   have:l=[]:=List.eq_nil_of_length_eq_zero hl
   subst this
   exact dZ.kI [] rfl rfl (by simp)
  |succ n ih =>
   intro l hl hb
   obtain⟨v,hv⟩:∃v,l[n]? = some v:=⟨_,List.getElem?_eq_getElem (by omega)⟩
   by_cases h0:v.toNat=0
   ·refine dZ.l10 l n v n rfl (by omega) (by unfold ax;omega) (by omega) (by omega) hv h0 (by omega) (by omega) ?_
    have:=ih (l.take n) (by simp;omega) (by omega)
    rwa[trimmed hv h0 hl.symm] at this
   ·rw[rH ((l6 (v:=v) (by rw[hl];exact hv)).2 h0) rfl]
    exact dZ.cV l n v rfl rfl (by omega) (by unfold ax;omega) (by omega) (by omega) hv h0
 exact dZ.e0 a (by simp;omega) (loop _ a rfl h)
theorem cut(a:Words)(h:a.length≤35184372088832):av bp 281 [.row 100000 0 a.length 1] [(100000,ws a)] (.row 100000 0 (words (nat a)).length 1) [(100000,ws (words (nat a)))]:=by
 have loop:∀n:Nat,n≤a.length→nat (a.take n)=nat a→eQ.ah n a [(100000,ws a)] (.row 100000 0 (words (nat a)).length 1) [(100000,ws (words (nat a)))]:=by
  intro n
  induction n with
  |zero =>
   intro _ h2
   have:nat a=0:=by rw[←h2];rfl
   rw[this,eT]
   have:=eQ.kI 0 a (sin:=[(100000,ws a)]) rfl rfl (Nat.le_refl 0)
   exact this
  |succ n ih =>
   intro h1 h2
   obtain⟨v,hv⟩:∃v,a[n]? = some v:=⟨_,List.getElem?_eq_getElem (by omega)⟩
   by_cases h0:v.toNat=0
   ·refine eQ.l10 _ a n v n rfl (by omega) (by unfold ax;omega) (by omega) (by omega) hv h0 (by omega) (by omega) (ih (by omega) ?_)
    rw[bR hv,h0] at h2
    omega
   ·have e:words (nat a)=a.take (n+1):=by
     refine rH ?_ h2
     refine(l6 (v:=v) ?_).2 h0
     rw[List.length_take,Nat.min_eq_left h1,Nat.add_sub_cancel,List.getElem?_take,if_pos (by omega)]
     exact hv
    have:=eQ.cV (n+1) a n v (sin:=[(100000,ws a)]) rfl rfl (by omega) (by unfold ax;omega) (by omega) (by omega) hv h0
    rw[e,List.length_take,Nat.min_eq_left h1]
    exact this
 exact eQ.e0 a a.length (loop a.length (Nat.le_refl _) (aR (Nat.le_refl _)))
theorem form(neg:Bool)(m:Words)(h:m.length≤35184372088832):Cp 229 [vB neg,aa m] (Sym.whole (bif neg then -(nat m:Int) else (nat m:Int))).pv:=by
 have ht:=trim m h
 by_cases h0:nat m=0
 ·have:=km.e0 neg m _ ht (by rw[h0,eT];rfl)
  rw[h0]
  cases neg<;>exact this
 ·have hl:(words (nat m)).length≠0:=by rw[Ne,dk];exact h0
  have:=km.e1 neg m _ ht hl
  cases neg with
  |false =>
   have e:decide ((nat m:Int)<0)=false:=by simp
   simp only[Sym.whole,cond_false,e,Int.natAbs_natCast]
   exact this
  |true =>
   have e:decide (-(nat m:Int)<0)=true:=by simp;omega
   simp only[Sym.whole,cond_true,e,Int.natAbs_neg,Int.natAbs_natCast]
   exact this
theorem at'(a:Words)(i:Nat):Cp 278 [aa a,vI (i:Int)] (vU (wd a i)):=by
 unfold wd
 cases h:a[i]? with
 |none =>
  have:=List.getElem?_eq_none_iff.1 h
  exact lX.e1 a i (by omega)
 |some v =>
  have:=(List.getElem?_eq_some_iff.1 h).1
  exact lX.e0 a i i v (by omega) rfl h
theorem atR(a:Words)(i:Nat)(len:Nat)(hl:len=a.length):av bp 278 [.row 100000 0 len 1,.pv (vI (i:Int))] [(100000,ws a)] (.pv (vU (wd a i))) [(100000,ws a)]:=by
 subst hl
 unfold wd
 cases h:a[i]? with
 |none =>
  have:=List.getElem?_eq_none_iff.1 h
  exact lk.e1 a a.length i (by omega)
 |some v =>
  have:=(List.getElem?_eq_some_iff.1 h).1
  exact lk.e0 a a.length i i v (by omega) rfl this h
def Alike(a b:Words)(n:Nat):Prop:=∀q,n≤q→wd a q=wd b q
theorem KH:∀(n:Nat) (a b:Words),a.length≤n→b.length≤n→(∀q,wd a q=wd b q)→nat a=nat b
 |0,a,b,ha,hb,_=>by
  have h1:a=[]:=List.eq_nil_of_length_eq_zero (by omega)
  have h2:b=[]:=List.eq_nil_of_length_eq_zero (by omega)
  rw[h1,h2]
 |n+1,a,b,ha,hb,h=>by
  have h1:=iS a 0
  have h2:=iS b 0
  have hw:∀(c:Words) (q:Nat),wd (c.drop 1) q=wd c (q+1):=fun c q=>by unfold wd;rw[List.getElem?_drop,Nat.add_comm]
  have:=KH n (a.drop 1) (b.drop 1) (by simp;omega) (by simp;omega) (fun q=>by rw[hw,hw];exact h (q+1))
  simp only[List.drop_zero,Nat.zero_add] at h1 h2
  rw[h1,h2,this,h 0]
theorem Aa{a b:Words}{n:Nat}(h:Alike a b n):nat (a.drop n)=nat (b.drop n):=by
 refine KH (max (a.drop n).length (b.drop n).length) _ _ (Nat.le_max_left _ _) (Nat.le_max_right _ _) (fun q => ?_)
 have:=h (n+q) (by omega)
 unfold wd at this ⊢
 rw[List.getElem?_drop,List.getElem?_drop];exact this
theorem HA(a:Words)(k:Nat):nat a=nat (a.take k)+4294967296^k*wd a k+4294967296^(k+1)*nat (a.drop (k+1)):=by
 by_cases h:k<a.length
 ·have hv:=List.getElem?_eq_getElem h
  rw[iF hv];exact wE a k hv
 ·rw[aR (by omega),va (by omega),List.drop_of_length_le (by omega),show nat []=0 from rfl,Nat.mul_zero,Nat.mul_zero,Nat.add_zero]
theorem wF{a b:Words}{k:Nat}(h:Alike a b (k+1))(bh:wd a k<wd b k):nat a<nat b:=by
 rw[HA a k,HA b k,Aa h]
 have h1:=dU (a.take k)
 have h2:=kV (show (a.take k).length≤k by simp;omega)
 have h3:4294967296^k*(wd a k+1)≤4294967296^k*wd b k:=Nat.mul_le_mul_left _ bh
 rw[Nat.mul_add] at h3
 omega
theorem wG{a b:Words}{n:Nat}(ha:a.length≤n)(hb:b.length≤n):Alike a b n:=fun q hq=>by rw[va (by omega),va (by omega)]
theorem wH{a b:Words}(h:Alike a b 0):nat a=nat b:=by
 have:=Aa h
 simpa using this
theorem uh{a b:Words}{n:Nat}(h:Alike a b (n+1))(he:wd a n=wd b n):Alike a b n:=fun q hq=>by
 by_cases Oc:q=n
 ·rw[Oc];exact he
 ·exact h q (by omega)
theorem compare(a b:Words)(ha:a.length<4611686018427387904)(hb:b.length<4611686018427387904):Cp 231 [aa a,aa b] (vI (dC (nat a) (nat b))):=by
 have loop:∀n:Nat,n<4611686018427387904→Alike a b n→cP.ah a b ((n:Int)-1) (vI (dC (nat a) (nat b))):=by
  intro n
  induction n with
  |zero =>
   intro _ hd
   rw[ym (by rw[wH hd])]
   exact cP.ta a b _ (by omega)
  |succ n ih =>
   intro hn hd
   have e:((n+1:Nat):Int)-1=(n:Int):=by omega
   have h1:=at' a n
   have h2:=at' b n
   rw[e]
   by_cases he:wd a n=wd b n
   ·exact cP.kI a b _ _ _ (by omega) h1 h2 he (by unfold ax;omega) (ih (by omega) (uh hd he))
   ·by_cases bh:wd a n<wd b n
    ·rw[ow (by have:=wF hd bh;omega)]
     exact cP.l10 a b _ _ _ _ _ (by omega) h1 h2 he h1 h2 bh
    ·rw[mW (by have:=wF (a:=b) (b:=a) (fun q hq=>(hd q hq).symm) (show wd b n<wd a n by omega);omega)]
     exact cP.cV a b _ _ _ _ _ (by omega) h1 h2 he h1 h2 (by omega)
 exact cP.e0 a b (by unfold ax;omega) (loop _ (by omega) (wG (Nat.le_max_left _ _) (Nat.le_max_right _ _)))
theorem KI(a b:Words)(len:Nat)(hl:len=a.length)(ha:a.length<4611686018427387904)(hb:b.length<4611686018427387904) :
  av bp 231 [.row 100000 0 len 1,.pv (aa b)] [(100000,ws a)] (.pv (vI (dC (nat a) (nat b)))) [(100000,ws a)]:=by
 have loop:∀n:Nat,n<4611686018427387904→Alike a b n→cG.ah len b ((n:Int)-1) a [(100000,ws a)] (.pv (vI (dC (nat a) (nat b)))) [(100000,ws a)]:=by
  intro n
  induction n with
  |zero =>
   intro _ hd
   rw[ym (by rw[wH hd])]
   exact cG.ta len b _ a rfl rfl (by omega)
  |succ n ih =>
   intro hn hd
   have e:((n+1:Nat):Int)-1=(n:Int):=by omega
   have h1:=atR a n len hl
   have h2:=at' b n
   rw[e]
   by_cases he:wd a n=wd b n
   ·exact cG.kI len b _ a a _ _ rfl (by omega) h1 h2 he (by unfold ax;omega) (ih (by omega) (uh hd he))
   ·by_cases bh:wd a n<wd b n
    ·rw[ow (by have:=wF hd bh;omega)]
     exact cG.l10 len b _ a a _ _ a _ _ rfl rfl (by omega) h1 h2 he h1 h2 bh
    ·rw[mW (by have:=wF (a:=b) (b:=a) (fun q hq=>(hd q hq).symm) (show wd b n<wd a n by omega);omega)]
     exact cG.cV len b _ a a _ _ a _ _ rfl rfl (by omega) h1 h2 he h1 h2 (by omega)
 exact cG.e0 a len b (by unfold ax;omega) (loop _ (by omega) (wG (by omega) (Nat.le_max_right _ _)))
theorem IP(a b:Words)(len nF:Nat)(hl:len=a.length)(xe:nF=b.length)(ha:a.length<4611686018427387904)(hb:b.length<4611686018427387904) :
  av bp 231 [.row 100000 0 len 1,.row 100001 0 nF 1] [(100000,ws a),(100001,ws b)] (.pv (vI (dC (nat a) (nat b)))) [(100000,ws a),(100001,ws b)]:=by
 have loop:∀n:Nat,n<4611686018427387904→Alike a b n→cy.ah len nF ((n:Int)-1) a b [(100000,ws a),(100001,ws b)] (.pv (vI (dC (nat a) (nat b)))) [(100000,ws a),(100001,ws b)]:=by
  intro n
  induction n with
  |zero =>
   intro _ hd
   rw[ym (by rw[wH hd])]
   exact cy.ta len nF _ a b rfl rfl (by omega)
  |succ n ih =>
   intro hn hd
   have e:((n+1:Nat):Int)-1=(n:Int):=by omega
   have h1:=atR a n len hl
   have h2:=atR b n nF xe
   rw[e]
   by_cases he:wd a n=wd b n
   ·exact cy.kI len nF _ a b a _ b _ rfl (by omega) h1 h2 he (by unfold ax;omega) (ih (by omega) (uh hd he))
   ·by_cases bh:wd a n<wd b n
    ·rw[ow (by have:=wF hd bh;omega)]
     exact cy.l10 len nF _ a b a _ b _ a _ b _ rfl rfl (by omega) h1 h2 he h1 h2 bh
    ·rw[mW (by have:=wF (a:=b) (b:=a) (fun q hq=>(hd q hq).symm) (show wd b n<wd a n by omega);omega)]
     exact cy.cV len nF _ a b a _ b _ a _ b _ rfl rfl (by omega) h1 h2 he h1 h2 (by omega)
 exact cy.e0 a len b nF (by unfold ax;omega) (loop _ (by omega) (wG (by omega) (by omega)))
theorem EI(l:Words)(w:UInt32):nat (l++[w])=nat l+4294967296^l.length*w.toNat:=by
 rw[lU];simp[nat]
theorem plus(a b:Words)(ha:a.length≤2199023255552)(hb:b.length≤2199023255552):Cp 230 [aa a,aa b] (aa (words (nat a+nat b))):=by
 have loop:∀(j t carry:Nat) (site:Words),max a.length b.length+1-t=j→t≤max a.length b.length+1→site.length=t→carry≤1 →
   nat site+4294967296^t*carry=nat (a.take t)+nat (b.take t)→fz.ah a b site carry t (aa (words (nat a+nat b))):=by
  intro j
  induction j with
  |zero =>
   intro t carry site hj ht hs hc hinv
   have uY:t=max a.length b.length+1:=by omega
   have Gw:nat site=nat a+nat b:=by
    rw[aR (by omega),aR (by omega)] at hinv
    have h1:=dU a
    have h2:=dU b
    have h3:=kV (show a.length≤t-1 by omega)
    have h4:=kV (show b.length≤t-1 by omega)
    have h5:(4294967296:Nat)^t=4294967296^(t-1)*4294967296:=by rw[←Nat.pow_succ];congr 1;omega
    have yl:carry=0:=by
     cases carry with
     |zero=>rfl
     |succ c =>
      have h6:4294967296^t*1≤4294967296^t*(c+1):=Nat.mul_le_mul_left _ (by omega)
      omega
    subst yl;simpa using hinv
   have:=fz.cV a b site carry t (words (nat site)) (by omega) (trim site (by omega))
   rwa[Gw] at this
  |succ j ih =>
   intro t carry site hj ht hs hc hinv
   have h1:=mq a t
   have h2:=mq b t
   obtain⟨w,hw⟩:=gD ((wd a t+wd b t+carry)%4294967296) (by omega)
   have Kz:(2:Nat)^min 32 64=4294967296:=by decide
   refine fz.l10 a b site carry t _ _ (wd a t+wd b t) (wd a t+wd b t+carry) w ((wd a t+wd b t+carry)/4294967296) (by omega) (at' a t) (at' b t) (by omega) (by omega) hw.symm (by simp;omega) (by rw[Kz]) (by omega) ?_
   refine ih (t+1) _ (site++[w]) (by omega) (by omega) (by simpa using hs) (by omega) ?_
   rw[EI,hs,dM a t,dM b t,hw,Nat.pow_succ,Nat.mul_assoc]
   have h6:4294967296^t*((wd a t+wd b t+carry)%4294967296)+4294967296^t*(4294967296*((wd a t+wd b t+carry)/4294967296))=4294967296^t*carry+4294967296^t*wd a t+4294967296^t*wd b t:=by
    rw[←Nat.mul_add,←Nat.mul_add,←Nat.mul_add]
    congr 1
    omega
   omega
 exact fz.e0 a b (by omega) (loop _ 0 0 _ rfl (by omega) rfl (by omega) (by simp[nat]))
theorem ui{p q borrow:Nat}(hp:p<4294967296)(hq:q<4294967296)(hb:borrow≤1) :
  ∃s d d1 x z nb:Nat,(4294967296+p)%18446744073709551616=s∧((s:Nat)-(q:Nat):Int)%18446744073709551616=(d:Int)∧((d:Nat)-(borrow:Nat):Int)%18446744073709551616=(d1:Int)∧d1%4294967296=x∧d1/2^min 32 64=z ∧
   ((1:Nat)-(z:Nat):Int)%18446744073709551616=(nb:Int)∧nb≤1∧x<4294967296∧x+q+borrow=p+4294967296*nb:=by
 have e:(2:Nat)^min 32 64=4294967296:=by decide
 rw[e]
 refine⟨4294967296+p,4294967296+p-q,4294967296+p-q-borrow,_,_,1-(4294967296+p-q-borrow)/4294967296,by omega,by omega,by omega,rfl,rfl,?_,?_,?_,?_⟩
 ·have h1:(4294967296+p-q-borrow)/4294967296≤1:=by omega
  generalize (4294967296+p-q-borrow)/4294967296=u at h1 ⊢
  omega
 ·omega
 ·omega
 ·by_cases h:q+borrow≤p
  ·have h1:(4294967296+p-q-borrow)/4294967296=1:=by omega
   rw[h1];omega
  ·have h1:(4294967296+p-q-borrow)/4294967296=0:=by omega
   rw[h1];omega
theorem minus(a b:Words)(ha:a.length≤2199023255552)(dm:nat b≤nat a):Cp 232 [aa a,aa b] (aa (words (nat a-nat b))):=by
 have loop:∀(j t borrow:Nat) (site:Words),a.length-t=j→t≤a.length→site.length=t→borrow≤1 →
   nat site+nat (b.take t)=nat (a.take t)+4294967296^t*borrow→eX.ah a b site borrow t (aa (words (nat a-nat b))):=by
  intro j
  induction j with
  |zero =>
   intro t borrow site hj ht hs hc hinv
   have uY:t=a.length:=by omega
   have Gw:nat site=nat a-nat b:=by
    subst uY
    rw[aR (l:=a) (by omega)] at hinv
    have h1:=dU a
    have h2:=dU site
    rw[hs] at h2
    have h3:nat (b.take a.length)=nat b:=by
     by_cases hl:b.length≤a.length
     ·exact aR hl
     ·have h4:=jl b a.length (by omega)
      have h5:nat (b.drop a.length)=0:=by
       refine Nat.eq_zero_of_not_pos fun hp => ?_
       have:=Nat.mul_le_mul_left (4294967296^a.length) hp
       omega
      rw[h5] at h4;omega
    have Hv:borrow=0:=by
     refine Nat.eq_zero_of_not_pos fun hp => ?_
     have:=Nat.mul_le_mul_left (4294967296^a.length) hp
     omega
    subst Hv
    omega
   have:=eX.cV a b site borrow t (words (nat site)) (by omega) (trim site (by omega))
   rwa[Gw] at this
  |succ j ih =>
   intro t borrow site hj ht hs hc hinv
   obtain⟨s,d,d1,x,z,nb,g1,g2,g3,g4,g5,g6,g7,g8,g9⟩:=ui (mq a t) (mq b t) hc
   obtain⟨w,hw⟩:=gD x g8
   refine eX.l10 a b site borrow t _ s _ d d1 w z nb (by omega) (at' a t) g1 (at' b t) g2 g3 (by omega) (by simp;omega) g5 g6 (by omega) ?_
   refine ih (t+1) nb (site++[w]) (by omega) (by omega) (by simpa using hs) g7 ?_
   rw[EI,hs,dM a t,dM b t,hw,Nat.pow_succ,Nat.mul_assoc]
   have h6:4294967296^t*x+4294967296^t*wd b t+4294967296^t*borrow=4294967296^t*wd a t+4294967296^t*(4294967296*nb):=by
    rw[←Nat.mul_add,←Nat.mul_add,←Nat.mul_add,g9]
   omega
 exact eX.e0 a b (loop _ 0 0 _ rfl (by omega) rfl (by omega) (by simp[nat]))
theorem EJ{a b U:Words}{borrow:Nat}(hl:U.length=a.length)(dm:nat b≤nat a)(hinv:nat (U.take a.length)+nat (b.take a.length)=nat (a.take a.length)+4294967296^a.length*borrow):nat U=nat a-nat b:=by
 rw[aR (by omega),aR (l:=a) (by omega)] at hinv
 have h1:=dU a
 have h2:=dU U
 rw[hl] at h2
 have h3:nat (b.take a.length)=nat b:=by
  by_cases hl:b.length≤a.length
  ·exact aR hl
  ·have h4:=jl b a.length (by omega)
   have h5:nat (b.drop a.length)=0:=by
    refine Nat.eq_zero_of_not_pos fun hp => ?_
    have:=Nat.mul_le_mul_left (4294967296^a.length) hp
    omega
   rw[h5] at h4;omega
 have Hv:borrow=0:=by
  refine Nat.eq_zero_of_not_pos fun hp => ?_
  have:=Nat.mul_le_mul_left (4294967296^a.length) hp
  omega
 subst Hv
 omega
theorem BQ{a b U:Words}{borrow nb t:Nat}{w:UInt32}(ht:t<a.length)(hl:U.length=a.length)(hinv:nat (U.take t)+nat (b.take t)=nat (a.take t)+4294967296^t*borrow)(h:w.toNat+wd b t+borrow=wd a t+4294967296*nb) :
  nat ((U.set t w).take (t+1))+nat (b.take (t+1))=nat (a.take (t+1))+4294967296^(t+1)*nb:=by
 rw[fV (by omega),dM a t,dM b t,Nat.pow_succ,Nat.mul_assoc]
 have h6:4294967296^t*w.toNat+4294967296^t*wd b t+4294967296^t*borrow=4294967296^t*wd a t+4294967296^t*(4294967296*nb):=by
  rw[←Nat.mul_add,←Nat.mul_add,←Nat.mul_add,h]
 omega
theorem sG{l:Words}{t q:Nat}{w:UInt32}(h:q≠t):wd (l.set t w) q=wd l q:=by
 unfold wd
 rw[List.getElem?_set_ne (by omega)]
theorem take(a b:Words)(len:Nat)(hlen:len=a.length)(ha:a.length≤2199023255553)(dm:nat b≤nat a) :
  ∃U:Words,U.length=a.length∧nat U=nat a-nat b∧av bp 280 [.row 100000 0 len 1,.pv (aa b)] [(100000,ws a)] (.pv (.aE [])) [(100000,ws U)]:=by
 subst hlen
 have loop:∀(j t borrow:Nat) (U:Words),a.length-t=j→t≤a.length→U.length=a.length→borrow≤1→(∀q,t≤q→wd U q=wd a q) →
   nat (U.take t)+nat (b.take t)=nat (a.take t)+4294967296^t*borrow →
   ∃V:Words,V.length=a.length∧nat V=nat a-nat b∧fC.ah a.length b borrow t U [(100000,ws a)] (.pv (.aE [])) [(100000,ws V)]:=by
  intro j
  induction j with
  |zero =>
   intro t borrow U hj ht hl hb gA hinv
   have uY:t=a.length:=by omega
   subst uY
   exact⟨U,hl,EJ hl dm hinv,fC.cV _ b borrow _ U (sin:=[(100000,ws a)]) rfl rfl (Nat.le_refl _)⟩
  |succ j ih =>
   intro t borrow U hj ht hl hb gA hinv
   obtain⟨s,d,d1,x,z,nb,g1,g2,g3,g4,g5,g6,g7,g8,g9⟩:=ui (mq a t) (mq b t) hb
   obtain⟨w,hw⟩:=gD x g8
   obtain⟨V,h1,h2,h3⟩:=ih (t+1) nb (U.set t w) (by omega) (by omega) (by simpa using hl) g7 (fun q hq=>by rw[sG (by omega)];exact gA q (by omega)) (BQ (by omega) hl hinv (by rw[hw];exact g9))
   refine⟨V,h1,h2,fC.l10 _ b borrow t U U _ s _ d d1 w z nb rfl (by omega) (atR U t a.length hl.symm) (by rw[gA t (Nat.le_refl t)];exact g1) (at' b t) g2 g3 (by omega) g5 g6 (by omega) (by omega) h3⟩
 obtain⟨V,h1,h2,h3⟩:=loop _ 0 0 a rfl (by omega) rfl (by omega) (fun _ _=>rfl) (by simp[nat])
 exact⟨V,h1,h2,fC.e0 a a.length b h3⟩
theorem R3(a b:Words)(len nF:Nat)(hlen:len=a.length)(R4:nF=b.length)(ha:a.length≤2199023255553)(dm:nat b≤nat a) :
  ∃U:Words,U.length=a.length∧nat U=nat a-nat b∧av bp 280 [.row 100000 0 len 1,.row 100001 0 nF 1] [(100000,ws a),(100001,ws b)] (.pv (.aE [])) [(100000,ws U),(100001,ws b)]:=by
 subst hlen
 have loop:∀(j t borrow:Nat) (U:Words),a.length-t=j→t≤a.length→U.length=a.length→borrow≤1→(∀q,t≤q→wd U q=wd a q) →
   nat (U.take t)+nat (b.take t)=nat (a.take t)+4294967296^t*borrow →
   ∃V:Words,V.length=a.length∧nat V=nat a-nat b∧eZ.ah a.length nF borrow t U b [(100000,ws a),(100001,ws b)] (.pv (.aE [])) [(100000,ws V),(100001,ws b)]:=by
  intro j
  induction j with
  |zero =>
   intro t borrow U hj ht hl hb gA hinv
   have uY:t=a.length:=by omega
   subst uY
   exact⟨U,hl,EJ hl dm hinv,eZ.cV _ _ borrow _ U b (sin:=[(100000,ws a),(100001,ws b)]) rfl rfl (Nat.le_refl _)⟩
  |succ j ih =>
   intro t borrow U hj ht hl hb gA hinv
   obtain⟨s,d,d1,x,z,nb,g1,g2,g3,g4,g5,g6,g7,g8,g9⟩:=ui (mq a t) (mq b t) hb
   obtain⟨w,hw⟩:=gD x g8
   obtain⟨V,h1,h2,h3⟩:=ih (t+1) nb (U.set t w) (by omega) (by omega) (by simpa using hl) g7 (fun q hq=>by rw[sG (by omega)];exact gA q (by omega)) (BQ (by omega) hl hinv (by rw[hw];exact g9))
   refine⟨V,h1,h2,eZ.l10 _ _ borrow t U b U _ s b _ d d1 w z nb rfl (by omega) (atR U t a.length hl.symm) (by rw[gA t (Nat.le_refl t)];exact g1) (atR b t nF R4) g2 g3 (by omega) g5 g6 (by omega) (by omega) h3⟩
 obtain⟨V,h1,h2,h3⟩:=loop _ 0 0 a rfl (by omega) rfl (by omega) (fun _ _=>rfl) (by simp[nat])
 exact⟨V,h1,h2,eZ.e0 a a.length b nF h3⟩
theorem IQ{x y:Nat}(hx:x<4294967296)(hy:y<4294967296):((x/2)%18446744073709551616) ||| ((y*2^min 31 64)%18446744073709551616%18446744073709551616)=(y*4294967296+x)/2:=by
 have e:(2:Nat)^min 31 64=2147483648:=by decide
 rw[e,Nat.mod_mod,Nat.mod_eq_of_lt (show x/2<18446744073709551616 by omega),Nat.mod_eq_of_lt (show y*2147483648<18446744073709551616 by omega),Nat.or_comm,Nat.mul_comm y]
 have:=Nat.two_pow_add_eq_or_of_lt (i:=31) (show x/2<2^31 by omega) y
 rw[show (2:Nat)^31=2147483648 from rfl] at this
 rw[←this]
 omega
theorem IS{a U:Words}{t:Nat}{w:UInt32}(ht:t<a.length)(hl:U.length=a.length)(hinv:nat (U.take t)=(nat a/2)%4294967296^t)(hw:w.toNat=(wd a (t+1)*4294967296+wd a t)/2%4294967296) :
  nat ((U.set t w).take (t+1))=(nat a/2)%4294967296^(t+1):=by
 rw[fV (by omega),hinv,hw]
 have g1:nat a/2/4294967296^t=nat (a.drop t)/2:=by
  rw[Nat.div_div_eq_div_mul,Nat.mul_comm,←Nat.div_div_eq_div_mul,rL a t (by omega)]
 have g2:nat (a.drop t)/2%4294967296=(wd a (t+1)*4294967296+wd a t)/2%4294967296:=by
  rw[iS a t,iS a (t+1)]
  generalize nat (a.drop (t+1+1))=r
  generalize wd a (t+1)=y
  generalize wd a t=x
  omega
 have g3:=Nat.mod_mul (a:=4294967296^t) (b:=4294967296) (x:=nat a/2)
 rw[Nat.pow_succ,g3,g1,g2]
theorem KJ(a:Words)(len:Nat)(hlen:len=a.length)(ha:a.length≤2199023255553) :
  av bp 279 [.row 100000 0 len 1] [(100000,ws a)] (.row 100000 0 (words (nat a/2)).length 1) [(100000,ws (words (nat a/2)))]:=by
 subst hlen
 have e1:(2:Nat)^min 1 64=2:=by decide
 have loop:∀(j t:Nat) (U:Words),a.length-t=j→t≤a.length→U.length=a.length→(∀q,t≤q→wd U q=wd a q)→nat (U.take t)=(nat a/2)%4294967296^t →
   eY.ah a.length t U [(100000,ws a)] (.row 100000 0 (words (nat a/2)).length 1) [(100000,ws (words (nat a/2)))]:=by
  intro j
  induction j with
  |zero =>
   intro t U hj ht hl gA hinv
   have uY:t=a.length:=by omega
   subst uY
   rw[aR (by omega),Nat.mod_eq_of_lt (Nat.lt_of_le_of_lt (Nat.div_le_self _ _) (dU a))] at hinv
   have hc:=cut U (by omega)
   rw[hinv,hl] at hc
   have:=eY.cV a.length a.length U (words (nat a/2)) (words (nat a/2)).length (sin:=[(100000,ws a)]) rfl rfl (Nat.le_refl _) hc
   rw[List.take_of_length_le (Nat.le_refl _)] at this
   exact this
  |succ j ih =>
   intro t U hj ht hl gA hinv
   have h1:=mq a t
   have h2:=mq a (t+1)
   obtain⟨w,hw⟩:=gD ((wd a (t+1)*4294967296+wd a t)/2%4294967296) (Nat.mod_lt _ (by omega))
   have hA:=atR U t a.length hl.symm
   have hB:=atR U (t+1) a.length hl.symm
   rw[gA t (Nat.le_refl t)] at hA
   rw[gA (t+1) (by omega)] at hB
   refine eY.l10 a.length t U U _ _ U _ _ ((wd a (t+1)*4294967296+wd a t)/2) w rfl (by omega) hA (by rw[e1]) (by omega) hB rfl (IQ h1 h2) hw.symm (by omega) ?_
   exact ih (t+1) (U.set t w) (by omega) (by omega) (by simpa using hl) (fun q hq=>by rw[sG (by omega)];exact gA q (by omega)) (IS (by omega) hl hinv hw)
 exact eY.e0 a a.length (loop _ 0 a rfl (by omega) rfl (fun _ _=>rfl) (by simp[nat,Nat.mod_one]))
end uD
end Go.Proofs.YtllmkadmohkbfaaGreatDoor.Sym
namespace Go.Proofs.YtllmkadmohkbfaaGreatDoor.Sym
open Go Path
set_option linter.unusedVariables false
namespace uD
open bN
theorem times(a b:Words)(ha:a.length≤2199023255552)(hb:b.length≤2199023255552):Cp 233 [aa a,aa b] (aa (words (nat a*nat b))):=by
 have inner:∀(i:Nat) (v:UInt32) (r:PV),a[i]? = some v→i<a.length→(∀site:Words,site.length=a.length+b.length→nat site=nat (a.take i)*nat b+4294967296^i*(v.toNat*nat b)→(∀q,i+1+b.length≤q→q<site.length→wd site q=0)→cw.ah a b (i+1) site r) →
   ∀(j k carry:Nat) (site:Words),b.length-k=j→k≤b.length→site.length=a.length+b.length→carry<4294967296→(∀q,i+b.length≤q→q<site.length→wd site q=0) →
   nat site+4294967296^(i+k)*carry=nat (a.take i)*nat b+4294967296^i*(v.toNat*nat (b.take k))→cw.bA a b i carry i k site r:=by
  intro i v r hv hi F6 j
  induction j with
  |zero =>
   intro k carry site hj hk hs hc hz hinv
   have Uu:k=b.length:=by omega
   subst Uu
   obtain⟨w,hw⟩:=gD carry hc
   refine cw.Be a b i carry i b.length site w (by omega) (by omega) (by omega) (by omega) (by omega) (by omega) (F6 _ (by simpa using hs) ?_ ?_)
   ·obtain⟨u,hu⟩:∃u,site[i+b.length]? = some u:=⟨_,List.getElem?_eq_getElem (by omega)⟩
    have h0:=hz (i+b.length) (by omega) (by omega)
    rw[iF hu] at h0
    have h1:=ot site (i+b.length) w u hu
    rw[h0,hw] at h1
    rw[aR (l:=b) (by omega)] at hinv
    omega
   ·intro q QQ Fx
    rw[List.length_set] at Fx
    have:=hz q (by omega) Fx
    unfold wd at this ⊢
    rw[List.getElem?_set_ne (by omega)]
    exact this
  |succ j ih =>
   intro k carry site hj hk hs hc hz hinv
   obtain⟨u,hu⟩:∃u,b[k]? = some u:=⟨_,List.getElem?_eq_getElem (by omega)⟩
   obtain⟨x,hx⟩:∃x,site[i+k]? = some x:=⟨_,List.getElem?_eq_getElem (by omega)⟩
   have h1:=vb (ij v) (ij u)
   have h2:=ij x
   generalize hp:v.toNat*u.toNat=p at *
   obtain⟨w,hw⟩:=gD ((carry+(p+x.toNat))%4294967296) (by omega)
   have e:(2:Nat)^min 32 64=4294967296:=by decide
   refine cw.yj a b i carry i k site v u p x (p+x.toNat) (carry+(p+x.toNat)) w ((carry+(p+x.toNat))/4294967296) (by omega) hv hu (by rw[hp];omega) (by omega) (by omega) hx (by omega) (by omega) hw.symm (by rw[e]) (by omega) (by omega) ?_
   refine ih (k+1) _ (site.set (i+k) w) (by omega) (by omega) (by simpa using hs) (by omega) ?_ ?_
   ·intro q QQ Fx
    rw[List.length_set] at Fx
    have:=hz q QQ Fx
    unfold wd at this ⊢
    rw[List.getElem?_set_ne (by omega)]
    exact this
   ·have g1:=ot site (i+k) w x hx
    rw[hw] at g1
    rw[bR hu,show i+(k+1)=i+k+1 from rfl,Nat.pow_succ,Nat.mul_assoc]
    have g2:4294967296^(i+k)*((carry+(p+x.toNat))%4294967296)+4294967296^(i+k)*(4294967296*((carry+(p+x.toNat))/4294967296))=4294967296^(i+k)*carry+4294967296^(i+k)*p+4294967296^(i+k)*x.toNat:=by
     rw[←Nat.mul_add,←Nat.mul_add,←Nat.mul_add];congr 1;omega
    have g3:4294967296^i*(v.toNat*(nat (b.take k)+4294967296^k*u.toNat))=4294967296^i*(v.toNat*nat (b.take k))+4294967296^(i+k)*p:=by
     rw[←hp,Nat.pow_add,Nat.mul_add,Nat.mul_add]
     congr 1
     rw[Nat.mul_assoc];congr 1
     rw[Nat.mul_left_comm]
    omega
 have loop:∀(j t:Nat) (site:Words),a.length-t=j→t≤a.length→site.length=a.length+b.length→nat site=nat (a.take t)*nat b→(∀q,t+b.length≤q→q<site.length→wd site q=0) →
   cw.ah a b t site (aa (words (nat a*nat b))):=by
  intro j
  induction j with
  |zero =>
   intro t site hj ht hs hinv _
   rw[aR (by omega)] at hinv
   have:=cw.cV a b t site (words (nat site)) (by omega) (by omega) (trim site (by omega))
   rwa[hinv] at this
  |succ j ih =>
   intro t site hj ht hs hinv hz
   obtain⟨v,hv⟩:∃v,a[t]? = some v:=⟨_,List.getElem?_eq_getElem (by omega)⟩
   refine cw.l10 a b t site (by omega) ?_
   refine inner t v _ hv (by omega) (fun Ku Io Rk L4 => ?_) _ 0 0 site rfl (by omega) hs (by omega) hz ?_
   ·refine ih (t+1) Ku (by omega) (by omega) Io ?_ L4
    rw[Rk,bR hv,Nat.add_mul,Nat.mul_assoc]
   ·simp[nat,hinv]
 refine cw.e0 a b (by omega) (by omega) (loop _ 0 _ rfl (by omega) (by simp) (by simp[nat,lV]) ?_)
 intro q _ hq
 unfold wd
 rw[List.getElem?_replicate]
 split
 ·rename_i w h
  split at h
  ·injection h with h;subst h;rfl
  ·cases h
 ·rfl
theorem BR(k:Nat):(4294967296:Nat)^k=2^(32*k):=by rw[Nat.pow_mul]
theorem Py{l:Words}{k:Nat}(h:l.length=k+1):nat l=nat (l.take k)+4294967296^k*wd l k:=by
 have:=dM l k
 rwa[aR (by omega)] at this
theorem bits(a:Words)(hc:cn a=true)(ha:a.length≤2199023255553):Cp 293 [aa a] (vI (blen (nat a))):=by
 by_cases h0:a.length=0
 ·have:a=[]:=List.eq_nil_of_length_eq_zero h0
  subst this
  exact dI.e0 [] rfl
 ·have loop:∀(j:Nat) (n:Int) (x:UInt32),x.toNat≤j→ax (n+j)→ax n→dI.ah n x (vI (n+blen x.toNat)):=by
   intro j
   induction j with
   |zero =>
    intro n x hx _ _
    have e:x.toNat=0:=by omega
    rw[e,sE]
    have:=dI.cV n x (by omega)
    rwa[show n+((0:Nat):Int)=n from by omega]
   |succ j ih =>
    intro n x hx hn UU
    by_cases h:x.toNat=0
    ·rw[h,sE]
     have:=dI.cV n x (by omega)
     rwa[show n+((0:Nat):Int)=n from by omega]
    ·obtain⟨z,hz⟩:=gD (x.toNat/2) (by have:=ij x;omega)
     have e:blen x.toNat=1+blen (x.toNat/2):=by
      have:=rK (n:=x.toNat) (k:=1)
      by_cases h1:x.toNat=1
      ·rw[h1];rfl
      ·exact this (by omega)
     unfold ax at hn UU
     have:=ih (n+1) z (by omega) (by unfold ax;omega) (by unfold ax;omega)
     rw[hz] at this
     rw[e,show n+((1+blen (x.toNat/2):Nat):Int)=n+1+(blen (x.toNat/2):Nat) from by omega]
     exact dI.l10 n x z (by omega) (by unfold ax;omega) (by rw[hz];rfl) this
  obtain⟨k,hk⟩:∃k,a.length=k+1:=⟨a.length-1,by omega⟩
  obtain⟨v,hv⟩:∃v,a[k]? = some v:=⟨_,List.getElem?_eq_getElem (by omega)⟩
  have h1:=(l6 (v:=v) (by rw[hk];exact hv)).1 hc
  have h2:=dU (a.take k)
  rw[List.length_take,Nat.min_eq_left (by omega)] at h2
  have h3:=Py hk
  rw[iF hv] at h3
  have e:blen (nat a)=32*k+blen v.toNat:=by
   rw[BR] at h2 h3
   have h4:2^(32*k)≤nat a:=by
    have:=Nat.mul_le_mul_left (2^(32*k)) (show 1≤v.toNat by omega)
    omega
   rw[rK h4]
   congr 2
   rw[h3,Nat.add_mul_div_left _ _ (Nat.two_pow_pos _),Nat.div_eq_of_lt h2,Nat.zero_add]
  have hw:=ij v
  have:=loop v.toNat (32*((a.length:Int)-1)) v (Nat.le_refl _) (by unfold ax;omega) (by unfold ax;omega)
  rw[e,show((32*k+blen v.toNat:Nat):Int)=32*((a.length:Int)-1)+(blen v.toNat:Nat) from by omega]
  exact dI.e1 a k v h0 (by unfold ax;omega) (by unfold ax;omega) (by omega) hv this
theorem KK{v c:Nat}(hv:v<4294967296)(hc:c≤1):((v*2^(min 1 32))%4294967296%4294967296) ||| (c%4294967296)=(2*v)%4294967296+c:=by
 have e:(2:Nat)^min 1 32=2:=by decide
 rw[e,Nat.mod_mod,Nat.mod_eq_of_lt (show c<4294967296 by omega)]
 obtain⟨u,hu⟩:∃u,(v*2)%4294967296=2*u:=⟨(v*2)%4294967296/2,by omega⟩
 rw[hu]
 have:=Nat.two_pow_add_eq_or_of_lt (i:=1) (show c<2^1 by omega) u
 rw[show (2:Nat)^1=2 from rfl] at this
 rw[←this];omega
theorem Pz{v s:Nat}(hs:s<32)(hv:v%2^(s+1)=0)(hl:v<4294967296):(v%4294967296) ||| (((1*2^(min (s%32) 32))%4294967296)%4294967296)=v+2^s:=by
 have h1:2^s<4294967296:=by
  have:=Nat.pow_lt_pow_right (a:=2) (by omega) hs
  omega
 rw[Nat.mod_eq_of_lt hs,Nat.min_eq_left (by omega),Nat.one_mul,Nat.mod_mod,Nat.mod_eq_of_lt hl,Nat.mod_eq_of_lt h1]
 have h2:v=2^(s+1)*(v/2^(s+1)):=by have:=Nat.div_add_mod v (2^(s+1));omega
 have h3:=Nat.two_pow_add_eq_or_of_lt (i:=s+1) (show 2^s<2^(s+1) by rw[Nat.pow_succ];have:=Nat.two_pow_pos s;omega) (v/2^(s+1))
 rw[←h2] at h3
 exact h3.symm
theorem KL(a:Words)(t:Nat)(ht:t≤a.length):wd a t=nat a/4294967296^t%4294967296:=by
 rw[rL a t ht,iS a t]
 have:=mq a t
 omega
theorem PA(a:Words)(t s Q:Nat)(hs:s<32)(ht:t≤a.length)(h:nat a=Q*2^(32*t+s+1)):wd a t%2^(s+1)=0:=by
 rw[KL a t ht,h,BR,show 32*t+s+1=(s+1)+32*t from by omega,Nat.pow_add,←Nat.mul_assoc,Nat.mul_div_cancel _ (Nat.two_pow_pos _)]
 have:(4294967296:Nat)=2^(s+1)*2^(32-(s+1)):=by rw[←Nat.pow_add,show s+1+(32-(s+1))=32 from by omega]
 rw[this,Nat.mod_mul_right_mod,Nat.mul_mod_left]
theorem PB(a:Words)(k:Nat)(hk:k/32≤a.length):wd a (k/32)/2^(k%32)%2=nat a/2^k%2:=by
 rw[KL a _ hk,BR]
 have e:(4294967296:Nat)=2^(k%32)*2^(32-k%32):=by rw[←Nat.pow_add,show k%32+(32-k%32)=32 from by omega]
 have e2:(2:Nat)^(32-k%32)=2*2^(31-k%32):=by rw[show 32-k%32=(31-k%32)+1 from by omega,Nat.pow_succ,Nat.mul_comm]
 rw[e,Nat.mod_mul_right_div_self,e2,Nat.mod_mul_right_mod,Nat.div_div_eq_div_mul,←Nat.pow_add,Nat.div_add_mod]
theorem X6(a b:Words)(hb:b.length≤2199023255552):∀(i:Int) (q R:Words) (bit:Nat) (r:PV),R.length=b.length+1→nat R<nat b→bit≤1 →
  (∀(c:UInt32) (t:Nat) (U:Words),b.length+1≤t→U.length=b.length+1→nat U=2*nat R+bit→bZ.bA a b i c t q U r) →
  ∀(j t:Nat) (c:UInt32) (U:Words),b.length+1-t=j→t≤b.length+1→U.length=b.length+1→c.toNat≤1→(∀p,t≤p→wd U p=wd R p) →
  nat (U.take t)+4294967296^t*c.toNat=2*nat (R.take t)+bit→bZ.bA a b i c t q U r:=by
 have X7:=dU b
 have Od:2*nat b<4294967296^(b.length+1):=by rw[Nat.pow_succ];omega
 intro i q R bit r hR YV PC F6 j
 induction j with
 |zero =>
  intro t c U hj ht hU hc gA hinv
  have uY:t=b.length+1:=by omega
  rw[←uY] at Od
  refine F6 c _ U (by omega) hU ?_
  rw[aR (by omega),aR (by omega)] at hinv
  clear uY
  generalize 4294967296^t=P at hinv Od
  have:c.toNat=0:=by
   refine Nat.eq_zero_of_not_pos fun hp => ?_
   have:=Nat.mul_le_mul_left P (show 1≤c.toNat from hp)
   omega
  rw[this] at hinv
  omega
 |succ j ih =>
  intro t c U hj ht hU hc gA hinv
  obtain⟨v,hv⟩:∃v,U[t]? = some v:=⟨_,List.getElem?_eq_getElem (by omega)⟩
  have BP:=gA t (Nat.le_refl t)
  rw[iF hv] at BP
  have yQ:=ij v
  obtain⟨z,hz⟩:=gD ((v.toNat*2^(min 1 32))%4294967296) (Nat.mod_lt _ (by omega))
  obtain⟨z1,ED⟩:=gD ((2*v.toNat)%4294967296+c.toNat) (by omega)
  obtain⟨z2,OD⟩:=gD (v.toNat/2147483648) (by omega)
  have X8:(2:Nat)^min 31 32=2147483648:=by decide
  refine bZ.yj a b i c t q U v z z1 z2 (by omega) hv hz.symm (by rw[hz,ED];exact KK yQ hc) (by rw[X8,OD]) (by omega) (by omega) ?_
  refine ih (t+1) z2 (U.set t z1) (by omega) (by omega) (by simpa using hU) (by omega) (fun p hp=>by rw[sG (by omega)];exact gA p (by omega)) ?_
  rw[fV (by omega),dM R t,←BP,ED,OD,Nat.pow_succ,Nat.mul_assoc]
  have h6:4294967296^t*((2*v.toNat)%4294967296+c.toNat)+4294967296^t*(4294967296*(v.toNat/2147483648))=4294967296^t*c.toNat+2*(4294967296^t*v.toNat):=by
   rw[Nat.mul_left_comm 2,←Nat.mul_add,←Nat.mul_add]
   congr 1
   omega
  omega
theorem jH(a b:Words)(N8:cn a=true)(Hv:0<nat b)(ha:a.length≤2199023255552)(hb:b.length≤2199023255552) :
  Cp 274 [aa a,aa b] (.aE [aa (words (nat a/nat b)),aa (words (nat a%nat b))]):=by
 have loop:∀(n Q:Nat) (q R:Words),q.length=a.length→R.length=b.length+1→n≤blen (nat a)→n≤32*a.length→nat a/2^n=Q*nat b+nat R→nat R<nat b→nat q=Q*2^n →
   bZ.ah a b ((n:Int)-1) q R (.aE [aa (words (nat a/nat b)),aa (words (nat a%nat b))]):=by
  intro n
  induction n with
  |zero =>
   intro Q q R hq hR _ _ hdiv bh Oc
   have h1:=trim q (by omega)
   have h2:=trim R (by omega)
   rw[Nat.pow_zero,Nat.div_one] at hdiv
   rw[Nat.pow_zero,Nat.mul_one] at Oc
   have e1:nat a/nat b=nat q:=by
    rw[Oc,hdiv,Nat.add_comm,Nat.add_mul_div_right _ _ Hv,Nat.div_eq_of_lt bh,Nat.zero_add]
   have e2:nat a%nat b=nat R:=by
    rw[hdiv,Nat.add_comm,Nat.add_mul_mod_self_right,Nat.mod_eq_of_lt bh]
   rw[e1,e2]
   exact bZ.cV a b _ q R _ _ (by omega) (by omega) (by omega) h1 h2
  |succ n ih =>
   intro Q q R hq hR hn Jh hdiv bh Oc
   have IC:n/32<a.length:=by omega
   obtain⟨v,hv⟩:∃v,a[n/32]? = some v:=⟨_,List.getElem?_eq_getElem IC⟩
   have yQ:=ij v
   have hs:n%32<32:=Nat.mod_lt _ (by omega)
   obtain⟨z,hz⟩:=gD (v.toNat/2^(n%32)) (Nat.lt_of_le_of_lt (Nat.div_le_self _ _) yQ)
   obtain⟨z1,ED⟩:=gD (nat a/2^n%2) (by omega)
   have PC:=PB a n (by omega)
   rw[iF hv] at PC
   rw[show ((n+1:Nat):Int)-1=(n:Int) from by omega]
   refine bZ.l10 a b (n:Int) q R n v n z z1 (by omega) rfl (by omega) hv rfl (by rw[Nat.min_eq_left (by omega),hz]) ?_ ?_
   ·rw[show (1:Nat)%4294967296=1 from rfl,Nat.and_one_is_mod,ED,←PC,hz]
    have:=Nat.lt_of_le_of_lt (Nat.div_le_self v.toNat (2^(n%32))) yQ
    omega
   ·have Hq:nat a/2^n=2*(nat a/2^(n+1))+nat a/2^n%2:=by
     rw[Nat.pow_succ,←Nat.div_div_eq_div_mul];omega
    have sk:nat a/2^n%2≤1:=by omega
    generalize hbv:nat a/2^n%2=bit at *
    refine X6 a b hb (n:Int) q R bit _ hR bh sk ?_ _ 0 z1 R rfl (by omega) hR (by omega) (fun _ _=>rfl) (by simp[nat];exact ED)
    intro c t U ht hU Wz
    have z6:=KI U b (b.length+1) hU.symm (by omega) (by omega)
    by_cases A5:nat b≤nat U
    ·obtain⟨V,YW,X9,Ya⟩:=take U b (b.length+1) hU.symm (by omega) A5
     obtain⟨u,hu⟩:∃u,q[n/32]? = some u:=⟨_,List.getElem?_eq_getElem (by omega)⟩
     have vV:=ij u
     have Bg:=PA q (n/32) (n%32) Q hs (by omega) (by rw[Oc,show 32*(n/32)+n%32+1=n+1 from by omega])
     rw[iF hu] at Bg
     have YX:2^(n%32)<4294967296:=by
      have:=Nat.pow_lt_pow_right (a:=2) (by omega) hs
      omega
     obtain⟨z2,OD⟩:=gD ((1*2^(min (n%32) 32))%4294967296) (Nat.mod_lt _ (by omega))
     have QS:=Pz hs Bg vV
     rw[Nat.mod_eq_of_lt hs] at QS
     have hbound:u.toNat+2^(n%32)<4294967296:=by
      rw[←QS]
      exact Nat.or_lt_two_pow (n:=32) (Nat.mod_lt _ (by omega)) (Nat.mod_lt _ (by omega))
     obtain⟨z3,WA⟩:=gD _ hbound
     refine bZ.Be a b (n:Int) c t q U U _ V n u n z2 z3 ht z6 (by unfold dC;split<;>(try split)<;>omega) Ya rfl (by omega) IC hu rfl OD.symm (by rw[OD,WA];exact QS) (by omega) (by unfold ax;omega) ?_
     refine ih (2*Q+1) (q.set (n/32) z3) V (by simpa using hq) (by omega) (by omega) (by omega) ?_ ?_ ?_
     ·rw[Hq,hdiv,X9,Wz,Nat.add_mul,Nat.mul_add,Nat.mul_assoc];omega
     ·omega
     ·have g:=ot q (n/32) z3 u hu
      rw[WA,Nat.mul_add,Oc,BR,←Nat.pow_add,show 32*(n/32)+n%32=n from by omega] at g
      rw[Nat.pow_succ] at g
      have:(2*Q+1)*2^n=Q*(2^n*2)+2^n:=by rw[Nat.add_mul,Nat.one_mul,Nat.mul_comm 2 Q,Nat.mul_assoc,Nat.mul_comm 2 (2^n)]
      omega
    ·refine bZ.Kt a b (n:Int) c t q U U _ ht z6 (by unfold dC;split<;>(try split)<;>omega) (by unfold ax;omega) ?_
     refine ih (2*Q) q U hq hU (by omega) (by omega) ?_ (by omega) ?_
     ·rw[Hq,hdiv,Wz,Nat.mul_add,Nat.mul_assoc];omega
     ·rw[Oc,Nat.pow_succ,Nat.mul_comm 2 Q,Nat.mul_assoc,Nat.mul_comm 2 (2^n)]
 have R5:=bits a N8 (by omega)
 have Pd:blen (nat a)≤32*a.length:=qw (by rw[←BR];exact dU a)
 refine bZ.e0 a b _ (by omega) (by omega) (by omega) R5 (by unfold ax;omega) ?_
 refine loop (blen (nat a)) 0 _ _ (by simp) (by simp) (Nat.le_refl _) Pd ?_ ?_ ?_
 ·rw[lV,Nat.div_eq_of_lt (MY _)];simp
 ·rw[lV];exact Hv
 ·rw[lV];simp
theorem vd{p:Nat}(hp:0<p):∃v z:UInt32,0<(words p).length∧(words p)[0]? = some v∧(v.toNat%4294967296) &&& (1%4294967296)=z.toNat∧z.toNat=p%2:=by
 have hl:0<(words p).length:=Nat.pos_of_ne_zero (by rw[Ne,dk];omega)
 obtain⟨v,hv⟩:∃v,(words p)[0]? = some v:=⟨_,List.getElem?_eq_getElem hl⟩
 obtain⟨z,hz⟩:=gD (p%2) (by omega)
 refine⟨v,z,hl,hv,?_,hz⟩
 have h:=KL (words p) 0 (by omega)
 rw[iF hv,aD,Nat.pow_zero,Nat.div_one] at h
 rw[show (1:Nat)%4294967296=1 from rfl,Nat.and_one_is_mod,hz,h]
 omega
theorem EK{p q:Nat}(hp:p%2=0)(hq:q%2=1):Nat.gcd (p/2) q=Nat.gcd p q:=by
 have hc:Nat.Coprime 2 q:=by
  unfold Nat.Coprime
  rw[Nat.gcd_rec,hq];rfl
 have:=Nat.Coprime.gcd_mul_left_cancel (p/2) hc
 rw[←this]
 congr 1
 omega
theorem ve{p q k:Nat}(hq:0<q)(h:(words q).length≤k):(words (Nat.gcd p q)).length≤k:=Nat.le_trans (dL (Nat.le_of_dvd hq (Nat.gcd_dvd_right p q))) h
theorem C5(p:Nat)(hp:(words p).length≤2199023255553):av bp 279 [.row 100000 0 (words p).length 1] [(100000,ws (words p))] (.row 100000 0 (words (p/2)).length 1) [(100000,ws (words (p/2)))]:=by
 have:=KJ (words p) _ rfl hp
 rwa[aD] at this
theorem Oe(p q:Nat)(hp:(words p).length≤2199023255553)(N2:q≤p):∃U:Words,U.length=(words p).length ∧
  av bp 280 [.row 100000 0 (words p).length 1,.row 100001 0 (words q).length 1] [(100000,ws (words p)),(100001,ws (words q))] (.pv (.aE [])) [(100000,ws U),(100001,ws (words q))] ∧
  av bp 281 [.row 100000 0 (words p).length 1] [(100000,ws U)] (.row 100000 0 (words (p-q)).length 1) [(100000,ws (words (p-q)))]:=by
 obtain⟨U,h1,h2,h3⟩:=R3 (words p) (words q) _ _ rfl rfl hp (by rw[aD,aD];exact N2)
 have hc:=cut U (by omega)
 rw[aD,aD] at h2
 rw[h2,h1] at hc
 exact⟨U,h1,h3,hc⟩
theorem gcd(a b:Words)(ha:a.length≤1099511627776)(hb:b.length≤1099511627776):Cp 255 [aa a,aa b] (aa (words (Nat.gcd (nat a) (nat b)))):=by
 have t1:=Ob a (by omega)
 have t2:=Ob b (by omega)
 have la:=zS a
 have lb:=zS b
 generalize nat a=A at *
 generalize nat b=B at *
 by_cases hA:A=0
 ·subst hA
  rw[Nat.gcd_zero_left]
  exact aX.e0 a b _ _ _ _ t1 t2 (by rw[eT];rfl) rfl
 by_cases hB:B=0
 ·subst hB
  rw[Nat.gcd_zero_right]
  exact aX.e1 a b _ _ _ _ t1 t2 (by rw[Ne,dk];exact hA) (by rw[eT];rfl) rfl
 refine aX.e2 a b _ _ _ _ t1 t2 (by rw[Ne,dk];exact hA) (by rw[Ne,dk];exact hB) ?_
 have fin:∀(j m t64 t65:Nat),t64-t65=j→t64<9223372036854775808→(words (m*2^j)).length≤1099511627776→aX.EH (words m) t64 t65 (aa (words (m*2^j))):=by
  intro j
  induction j with
  |zero =>
   intro m t64 t65 hj _ _
   rw[Nat.pow_zero,Nat.mul_one]
   exact aX.X2 _ _ _ (by omega)
  |succ j ih =>
   intro m t64 t65 hj ht hl
   have e:m*2^(j+1)=(m+m)*2^j:=by rw[Nat.pow_succ,Nat.add_mul,←Nat.mul_assoc];omega
   have hm:(words m).length≤1099511627776:=by
    refine Nat.le_trans (dL ?_) hl
    have:=Nat.mul_le_mul_left m (Nat.two_pow_pos (j+1))
    omega
   have hp:=plus (words m) (words m) (by omega) (by omega)
   rw[aD] at hp
   rw[e] at hl ⊢
   exact aX.X1 _ _ _ _ (by omega) hp (by omega) (ih (m+m) t64 (t65+1) (by omega) ht hl)
 have rounds:∀(s p q tw:Nat),p+q≤s→0<q→(words p).length≤1099511627776→(words q).length≤1099511627776→tw<9223372036854775808→(words (Nat.gcd p q*2^tw)).length≤1099511627776 →
   ((p%2=1∨q%2=1)→aX.bA (words p).length (words q).length tw (words p) (words q) (aa (words (Nat.gcd p q*2^tw)))) ∧
   (0<p→(p%2=1∨q%2=1)→aX.lJ (words p).length (words q).length tw (words p) (words q) (aa (words (Nat.gcd p q*2^tw)))) ∧
   (p%2=1→aX.z8 (words p).length (words q).length tw (words p) (words q) (aa (words (Nat.gcd p q*2^tw)))):=by
  intro s
  induction s with
  |zero=>intro p q tw h1 h2;omega
  |succ s ih =>
   intro p q tw hs hq lp lq PD hl
   have L5:p%2=1→aX.z8 (words p).length (words q).length tw (words p) (words q) (aa (words (Nat.gcd p q*2^tw))):=by
    intro hp
    obtain⟨v,z,g1,g2,g3,g4⟩:=vd hq
    by_cases he:q%2=0
    ·have hg:=EK (p:=q) (q:=p) he hp
     have:=(ih p (q/2) tw (by omega) (by omega) lp (Nat.le_trans (dL (Nat.div_le_self q 2)) lq) PD (by rw[Nat.gcd_comm,hg,Nat.gcd_comm];exact hl)).2.2 hp
     rw[Nat.gcd_comm,hg,Nat.gcd_comm] at this
     exact aX.X3 _ _ tw _ _ v z _ _ g1 g2 g3 (by omega) (C5 q (by omega)) this
    ·have hc:=IP (words p) (words q) _ _ rfl rfl (by omega) (by omega)
     rw[aD,aD] at hc
     by_cases bh:p<q
     ·obtain⟨U,u1,u2,u3⟩:=Oe q p (by omega) (by omega)
      have hg:Nat.gcd (q-p) p=Nat.gcd p q:=by rw[Nat.gcd_sub_self_left (by omega),Nat.gcd_comm]
      have:=(ih (q-p) p tw (by omega) (by omega) (Nat.le_trans (dL (Nat.sub_le q p)) lq) lp PD (by rw[hg];exact hl)).1 (by omega)
      rw[hg] at this
      exact aX.X4 _ _ tw _ _ v z _ _ _ U _ _ _ g1 g2 g3 (by omega) hc (by unfold dC;split<;>(try split)<;>omega) u2 u3 this
     ·obtain⟨U,u1,u2,u3⟩:=Oe p q (by omega) (by omega)
      have hg:Nat.gcd (p-q) q=Nat.gcd p q:=Nat.gcd_sub_self_left (by omega)
      have:=(ih (p-q) q tw (by omega) hq (Nat.le_trans (dL (Nat.sub_le p q)) lp) lq PD (by rw[hg];exact hl)).1 (by omega)
      rw[hg] at this
      exact aX.X5 _ _ tw _ _ v z _ _ _ U _ _ _ g1 g2 g3 (by omega) hc (by unfold dC;split<;>(try split)<;>omega) u2 u3 this
   have L3:0<p→(p%2=1∨q%2=1)→aX.lJ (words p).length (words q).length tw (words p) (words q) (aa (words (Nat.gcd p q*2^tw))):=by
    intro hp R6
    obtain⟨v,z,g1,g2,g3,g4⟩:=vd hp
    by_cases he:p%2=0
    ·have hg:=EK (p:=p) (q:=q) he (by omega)
     have:=(ih (p/2) q tw (by omega) hq (Nat.le_trans (dL (Nat.div_le_self p 2)) lp) lq PD (by rw[hg];exact hl)).2.1 (by omega) (by omega)
     rw[hg] at this
     exact aX.US _ _ tw _ _ v z _ _ g1 g2 g3 (by omega) (C5 p (by omega)) this
    ·exact aX.R2 _ _ tw _ _ v z g1 g2 g3 (by omega) (L5 (by omega))
   refine⟨fun R6 => ?_,L3,L5⟩
   by_cases hp:p=0
   ·subst hp
    rw[Nat.gcd_zero_left] at hl ⊢
    exact aX.Be _ _ tw _ _ (by rw[eT];simp) rfl (fin tw q tw 0 rfl PD hl)
   ·exact aX.yj _ _ tw _ _ (Nat.pos_of_ne_zero (by rw[Ne,dk];exact hp)) (L3 (by omega) R6)
 have first:∀(s p q tw:Nat),p+q≤s→0<p→0<q→(words p).length≤1099511627776→(words q).length≤1099511627776→(words (Nat.gcd p q*2^tw)).length≤1099511627776 →
   aX.ah (words p).length (words q).length tw (words p) (words q) (aa (words (Nat.gcd p q*2^tw))):=by
  intro s
  induction s with
  |zero=>intro p q tw h1 h2;omega
  |succ s ih =>
   intro p q tw hs hp hq lp lq hl
   have PD:tw+1<9223372036854775808:=by
    have h1:2^tw≤Nat.gcd p q*2^tw:=Nat.le_mul_of_pos_left _ (Nat.gcd_pos_of_pos_left _ hp)
    have h2:=jm (Nat.gcd p q*2^tw)
    rw[BR] at h2
    have h3:=(Nat.pow_lt_pow_iff_right (a:=2) (by omega)).1 (Nat.lt_of_le_of_lt h1 h2)
    omega
   obtain⟨v,z,g1,g2,g3,g4⟩:=vd hp
   by_cases he:p%2=0
   ·obtain⟨v',z',SR,Ja,SS,SL⟩:=vd hq
    by_cases gn:q%2=0
    ·have hg:Nat.gcd (p/2) (q/2)*2^(tw+1)=Nat.gcd p q*2^tw:=by
      have h:=Nat.gcd_mul_left 2 (p/2) (q/2)
      rw[show 2*(p/2)=p from by omega,show 2*(q/2)=q from by omega] at h
      rw[h,Nat.pow_succ,Nat.mul_comm 2,Nat.mul_assoc,Nat.mul_comm 2]
     have:=ih (p/2) (q/2) (tw+1) (by omega) (by omega) (by omega) (Nat.le_trans (dL (Nat.div_le_self p 2)) lp) (Nat.le_trans (dL (Nat.div_le_self q 2)) lq) (by rw[hg];exact hl)
     rw[hg] at this
     exact aX.l10 _ _ tw _ _ v z v' z' _ _ _ _ g1 g2 g3 (by omega) SR Ja SS (by omega) (C5 p (by omega)) (C5 q (by omega)) PD this
    ·exact aX.cV _ _ tw _ _ v z v' z' g1 g2 g3 (by omega) SR Ja SS (by omega) ((rounds (p+q) p q tw (Nat.le_refl _) hq lp lq (by omega) hl).1 (by omega))
   ·exact aX.kI _ _ tw _ _ v z g1 g2 g3 (by omega) ((rounds (p+q) p q tw (Nat.le_refl _) hq lp lq (by omega) hl).1 (by omega))
 have:=first (A+B) A B 0 (Nat.le_refl _) (by omega) (by omega) (by omega) (by omega) (by rw[Nat.pow_zero,Nat.mul_one];exact ve (by omega) (by omega))
 rwa[Nat.pow_zero,Nat.mul_one] at this
end uD
end Go.Proofs.YtllmkadmohkbfaaGreatDoor.Sym
namespace Go.Proofs.YtllmkadmohkbfaaGreatDoor.Sym
open Go Path
set_option linter.unusedVariables false
namespace uD
open bN
theorem Sign(a:au)(h:Fit a.ct):Cp 211 [a.pv] (vI (nZ a.val)):=by
 have hm:=ct a h
 by_cases h0:a.val=0
 ·rw[h0,EG]
  exact gV.e0 a _ hm (by rw[h0];rfl)
 ·have hg:=neg a h
  have hl:(words a.val.natAbs).length≠0:=by rw[Ne,dk];omega
  by_cases hn:a.val<0
  ·rw[Hy hn]
   exact gV.e1 a _ _ hm hl hg (decide_eq_true hn)
  ·rw[Hz (by omega)]
   exact gV.e2 a _ _ hm hl hg (decide_eq_false hn)
theorem Neg(a:au)(h:Fit a.ct):Cp 170 [a.pv] (Sym.whole (-a.val)).pv:=by
 have h3:=ct a h
 have h5:=neg a h
 have la:=a8 a
 have hw:=form (!decide (a.val<0)) (words a.val.natAbs) (by have:(words a.val.natAbs).length≤a.ct.length:=la;omega)
 have e:(bif !decide (a.val<0) then -(nat (words a.val.natAbs):Int) else (nat (words a.val.natAbs):Int)) = -a.val:=by
  rw[aD]
  by_cases h:a.val<0
  ·simp[h];omega
  ·simp[h];omega
 rw[e] at hw
 exact oy.e0 a _ _ _ h5 h3 hw
theorem Add(a b:au)(ha:Fit a.ct)(hb:Fit b.ct):Cp 146 [a.pv,b.pv] (Sym.whole (a.val+b.val)).pv:=by
 have h1:=ct a ha
 have h2:=ct b hb
 have h3:=neg a ha
 have h4:=neg b hb
 have la:(words a.val.natAbs).length≤a.ct.length:=a8 a
 have lb:(words b.val.natAbs).length≤b.ct.length:=a8 b
 by_cases hs:decide (a.val<0)=decide (b.val<0)
 ·have hp:=plus (words a.val.natAbs) (words b.val.natAbs) (by omega) (by omega)
  rw[aD,aD] at hp
  have hl:=eu (n:=a.val.natAbs+b.val.natAbs) (k:=max (words a.val.natAbs).length (words b.val.natAbs).length+1) (by
   have g1:=jm a.val.natAbs
   have g2:=jm b.val.natAbs
   have g3:=kV (Nat.le_max_left (words a.val.natAbs).length (words b.val.natAbs).length)
   have g4:=kV (Nat.le_max_right (words a.val.natAbs).length (words b.val.natAbs).length)
   rw[Nat.pow_succ];omega)
  have hw:=form (decide (a.val<0)) (words (a.val.natAbs+b.val.natAbs)) (by omega)
  rw[aD] at hw
  have e:(bif decide (a.val<0) then -((a.val.natAbs+b.val.natAbs:Nat):Int) else ((a.val.natAbs+b.val.natAbs:Nat):Int))=a.val+b.val:=by
   by_cases h:a.val<0
   ·have:b.val<0:=by simpa[h] using hs.symm
    simp[h];omega
   ·have:¬b.val<0:=by simpa[h] using hs.symm
    simp[h];omega
  rw[e] at hw
  exact iG.e0 a b _ _ _ _ _ _ _ h1 h2 h3 h4 hs h3 hp hw
 ·have hc:=compare (words a.val.natAbs) (words b.val.natAbs) (by omega) (by omega)
  rw[aD,aD] at hc
  by_cases A5:b.val.natAbs≤a.val.natAbs
  ·have hl:=minus (words a.val.natAbs) (words b.val.natAbs) (by omega) (by rw[aD,aD];exact A5)
   rw[aD,aD] at hl
   have hlen:=dL (show a.val.natAbs-b.val.natAbs≤a.val.natAbs by omega)
   have hw:=form (decide (a.val<0)) (words (a.val.natAbs-b.val.natAbs)) (by omega)
   rw[aD] at hw
   have e:(bif decide (a.val<0) then -((a.val.natAbs-b.val.natAbs:Nat):Int) else ((a.val.natAbs-b.val.natAbs:Nat):Int))=a.val+b.val:=by
    by_cases h:a.val<0
    ·have:¬b.val<0:=by simpa[h] using hs
     simp[h];omega
    ·have:b.val<0:=by simpa[h] using hs
     simp[h];omega
   rw[e] at hw
   exact iG.e1 a b _ _ _ _ _ _ _ _ h1 h2 h3 h4 hs hc (by unfold dC;split<;>(try split)<;>omega) h3 hl hw
  ·have hl:=minus (words b.val.natAbs) (words a.val.natAbs) (by omega) (by rw[aD,aD];omega)
   rw[aD,aD] at hl
   have hlen:=dL (show b.val.natAbs-a.val.natAbs≤b.val.natAbs by omega)
   have hw:=form (decide (b.val<0)) (words (b.val.natAbs-a.val.natAbs)) (by omega)
   rw[aD] at hw
   have e:(bif decide (b.val<0) then -((b.val.natAbs-a.val.natAbs:Nat):Int) else ((b.val.natAbs-a.val.natAbs:Nat):Int))=a.val+b.val:=by
    by_cases h:b.val<0
    ·have:¬a.val<0:=by intro h';simp[h,h'] at hs
     simp[h];omega
    ·have:a.val<0:=by
      refine Classical.byContradiction fun h' => ?_
      simp[h,h'] at hs
     simp[h];omega
   rw[e] at hw
   exact iG.e2 a b _ _ _ _ _ _ _ _ h1 h2 h3 h4 hs hc (by unfold dC;split<;>(try split)<;>omega) h4 hl hw
theorem Sub(a b:au)(ha:Fit a.ct)(hb:Fit b.ct):Cp 254 [a.pv,b.pv] (Sym.whole (a.val-b.val)).pv:=by
 have h1:=Neg b hb
 have h2:=Add a (Sym.whole (-b.val)) ha (by
  have:=a8 b
  show(words (-b.val).natAbs).length≤_
  rw[Int.natAbs_neg]
  have:(words b.val.natAbs).length≤b.ct.length:=this
  omega)
 rw[aA,←Int.sub_eq_add_neg] at h2
 exact oB.e0 a b _ _ h1 h2
theorem Mul(a b:au)(ha:Fit a.ct)(hb:Fit b.ct):Cp 147 [a.pv,b.pv] (Sym.whole (a.val*b.val)).pv:=by
 have h1:=ct a ha
 have h2:=ct b hb
 have h3:=neg a ha
 have h4:=neg b hb
 have la:(words a.val.natAbs).length≤a.ct.length:=a8 a
 have lb:(words b.val.natAbs).length≤b.ct.length:=a8 b
 have ht:=times (words a.val.natAbs) (words b.val.natAbs) (by omega) (by omega)
 rw[aD,aD] at ht
 have hl:(words (a.val.natAbs*b.val.natAbs)).length≤(words a.val.natAbs).length+(words b.val.natAbs).length:=by
  have:=dH a.val b.val
  unfold wl at this
  rw[Int.natAbs_mul] at this;exact this
 have hw:=form (!(decide (a.val<0)==decide (b.val<0))) (words (a.val.natAbs*b.val.natAbs)) (by omega)
 rw[aD] at hw
 have e:(bif !(decide (a.val<0)==decide (b.val<0)) then -((a.val.natAbs*b.val.natAbs:Nat):Int) else ((a.val.natAbs*b.val.natAbs:Nat):Int))=a.val*b.val:=by
  by_cases h:a.val<0<;>by_cases h':b.val<0<;>simp only[h,h',decide_true,decide_false,beq_self_eq_true,Bool.not_true,cond_false,Bool.not_false,cond_true,show(true==false)=false from rfl,show(false==true)=false from rfl]
  ·rw[←Int.natAbs_mul,Int.natAbs_of_nonneg (Int.mul_nonneg_of_nonpos_of_nonpos (by omega) (by omega))]
  ·rw[←Int.natAbs_mul,Int.ofNat_natAbs_of_nonpos (Int.mul_nonpos_of_nonpos_of_nonneg (by omega) (by omega))];omega
  ·rw[←Int.natAbs_mul,Int.ofNat_natAbs_of_nonpos (Int.mul_nonpos_of_nonneg_of_nonpos (by omega) (by omega))];omega
  ·rw[←Int.natAbs_mul,Int.natAbs_of_nonneg (Int.mul_nonneg (by omega) (by omega))]
 rw[e] at hw
 exact ox.e0 a b _ _ _ _ _ _ h3 h4 h1 h2 ht hw
theorem Of(n:Int)(h:ax n):Cp 171 [vI n] (Sym.whole n).pv:=by
 obtain⟨g1,g2⟩:=h
 have Kz:(2:Nat)^min 32 64=4294967296:=by decide
 have key:∀m:Nat,m=n.natAbs→∃w w1:UInt32,m%4294967296=w.toNat∧m/4294967296%4294967296=w1.toNat∧Cp 229 [(vB (decide (n<0))),(aa [w,w1])] (Sym.whole n).pv:=by
  intro m hm
  obtain⟨w,hw⟩:=gD (m%4294967296) (by omega)
  obtain⟨w1,Jg⟩:=gD (m/4294967296%4294967296) (by omega)
  refine⟨w,w1,hw.symm,Jg.symm,?_⟩
  have:=form (decide (n<0)) [w,w1] (by simp)
  have e:nat [w,w1]=m:=by simp only[nat,hw,Jg];omega
  rw[e,hm] at this
  have e2:(bif decide (n<0) then -(n.natAbs:Int) else (n.natAbs:Int))=n:=by
   by_cases h:n<0
   ·simp[h];omega
   ·simp[h];omega
  rw[e2] at this;exact this
 by_cases hn:n<0
 ·obtain⟨w,w1,q1,q2,q3⟩:=key n.natAbs rfl
  exact lW.e0 n (n%18446744073709551616).toNat n.natAbs w _ w1 _ (by omega) hn (by omega) q1 (by rw[Kz]) q2 q3
 ·obtain⟨w,w1,q1,q2,q3⟩:=key n.natAbs rfl
  exact lW.e1 n n.natAbs w _ w1 _ (by omega) (by omega) q1 (by rw[Kz]) q2 q3
theorem Div(a b:au)(ha:Fit a.ct)(hb:Fit b.ct)(h0:b.val≠0) :
  Cp 223 [a.pv,b.pv] (.aE [(Sym.whole (a.val/b.val)).pv,(Sym.whole (a.val%b.val)).pv,vI 0]):=by
 have h1:=ct a ha
 have h2:=ct b hb
 have h3:=neg a ha
 have h4:=neg b hb
 have la:(words a.val.natAbs).length≤a.ct.length:=a8 a
 have lb:(words b.val.natAbs).length≤b.ct.length:=a8 b
 have Nf:=Sign b hb
 have Jb:nZ b.val≠0:=by unfold nZ dC;split<;>(try split)<;>omega
 have Oa:0<b.val.natAbs:=by omega
 have hd:=jH (words a.val.natAbs) (words b.val.natAbs) (gE _) (by rw[aD];omega) (by omega) (by omega)
 rw[aD,aD] at hd
 have hq:=dL (Nat.div_le_self a.val.natAbs b.val.natAbs)
 have hr:=dL (Nat.le_of_lt (Nat.mod_lt a.val.natAbs Oa))
 have FE:=Nat.div_add_mod a.val.natAbs b.val.natAbs
 have Uw:=Nat.mod_lt a.val.natAbs Oa
 generalize hQ:a.val.natAbs/b.val.natAbs=q at *
 generalize hR:a.val.natAbs%b.val.natAbs=r at *
 have sb:b.val=if b.val<0 then -(b.val.natAbs:Int) else (b.val.natAbs:Int):=by split<;>omega
 have uniq:∀x y:Int,a.val=b.val*x+y→0≤y→y<b.val.natAbs→a.val/b.val=x∧a.val%b.val=y:=by
  intro x y e1 e2 e3
  rcases Int.lt_or_gt_of_ne h0 with eN|eN
  ·exact(Int.ediv_emod_unique' eN).2 ⟨by omega,e2,by omega⟩
  ·exact(Int.ediv_emod_unique eN).2 ⟨by omega,e2,by omega⟩
 by_cases hn:a.val<0
 ·by_cases Bv:r=0
  ·have hw:=form (!(decide (a.val<0)==decide (b.val<0))) (words q) (by omega)
   have zx:=form false (words r) (by omega)
   rw[aD] at hw zx
   subst Bv
   have e:a.val/b.val=(bif !(decide (a.val<0)==decide (b.val<0)) then -(q:Int) else (q:Int))∧a.val%b.val=0:=by
    refine uniq _ 0 ?_ (by omega) (by omega)
    have su:(a.val.natAbs:Int)=(b.val.natAbs:Int)*q:=by rw[←FE];simp
    by_cases h':b.val<0
    ·simp only[hn,h',decide_true,beq_self_eq_true,Bool.not_true,cond_false]
     have:(b.val.natAbs:Int) = -b.val:=by omega
     rw[this] at su
     have:(a.val.natAbs:Int) = -a.val:=by omega
     rw[this,Int.neg_mul] at su
     omega
    ·simp only[hn,h',decide_true,decide_false,show(true==false)=false from rfl,Bool.not_false,cond_true]
     have:(b.val.natAbs:Int)=b.val:=by omega
     rw[this] at su
     have:(a.val.natAbs:Int) = -a.val:=by omega
     rw[this] at su
     rw[Int.mul_neg];omega
   rw[e.1,e.2]
   exact iH.e2 a b _ _ _ _ _ _ _ _ _ _ Nf Jb h1 h2 hd h3 (decide_eq_true hn) (by rw[eT];simp) h3 h4 hw zx
  ·have hp:=plus (words q) [1] (by omega) (by simp)
   have hl:=minus (words b.val.natAbs) (words r) (by omega) (by rw[aD,aD];omega)
   rw[aD] at hp
   rw[aD,aD] at hl
   have e1:nat [1]=1:=rfl
   rw[e1] at hp
   have xe:=eu (n:=q+1) (k:=(words q).length+1) (by have:=jm q;rw[Nat.pow_succ];omega)
   have Nc:=dL (show b.val.natAbs-r≤b.val.natAbs by omega)
   have hw:=form (!(decide (a.val<0)==decide (b.val<0))) (words (q+1)) (by omega)
   have zx:=form false (words (b.val.natAbs-r)) (by omega)
   rw[aD] at hw zx
   have e:a.val/b.val=(bif !(decide (a.val<0)==decide (b.val<0)) then -((q+1:Nat):Int) else ((q+1:Nat):Int))∧a.val%b.val=((b.val.natAbs-r:Nat):Int):=by
    refine uniq _ _ ?_ (by omega) (by omega)
    have su:(a.val.natAbs:Int)=(b.val.natAbs:Int)*q+r:=by rw[←FE];simp
    by_cases h':b.val<0
    ·simp only[hn,h',decide_true,beq_self_eq_true,Bool.not_true,cond_false]
     have e5:(b.val.natAbs:Int) = -b.val:=by omega
     rw[e5] at su
     have:(a.val.natAbs:Int) = -a.val:=by omega
     rw[this,Int.neg_mul] at su
     rw[show ((q+1:Nat):Int)=(q:Int)+1 from by omega,Int.mul_add]
     omega
    ·simp only[hn,h',decide_true,decide_false,show(true==false)=false from rfl,Bool.not_false,cond_true]
     have:(b.val.natAbs:Int)=b.val:=by omega
     rw[this] at su
     have:(a.val.natAbs:Int) = -a.val:=by omega
     rw[this] at su
     rw[show ((q+1:Nat):Int)=(q:Int)+1 from by omega,Int.mul_neg,Int.mul_add];omega
   rw[e.1,e.2]
   exact iH.e1 a b _ _ _ _ _ _ _ _ _ _ _ _ _ Nf Jb h1 h2 hd h3 (decide_eq_true hn) (by have:=(dk (n:=r)).1;omega) hp h2 hl h3 h4 hw zx
 ·have hw:=form (!(decide (a.val<0)==decide (b.val<0))) (words q) (by omega)
  have zx:=form false (words r) (by omega)
  rw[aD] at hw zx
  have e:a.val/b.val=(bif !(decide (a.val<0)==decide (b.val<0)) then -(q:Int) else (q:Int))∧a.val%b.val=(r:Int):=by
   refine uniq _ _ ?_ (by omega) (by omega)
   have su:(a.val.natAbs:Int)=(b.val.natAbs:Int)*q+r:=by rw[←FE];simp
   by_cases h':b.val<0
   ·simp only[hn,h',decide_true,decide_false,show(false==true)=false from rfl,Bool.not_false,cond_true]
    have e5:(b.val.natAbs:Int) = -b.val:=by omega
    rw[e5] at su
    have:(a.val.natAbs:Int)=a.val:=by omega
    rw[this,Int.neg_mul] at su
    rw[Int.mul_neg];omega
   ·simp only[hn,h',decide_false,beq_self_eq_true,Bool.not_true,cond_false]
    have:(b.val.natAbs:Int)=b.val:=by omega
    rw[this] at su
    have:(a.val.natAbs:Int)=a.val:=by omega
    rw[this] at su
    omega
  rw[e.1,e.2]
  exact iH.e3 a b _ _ _ _ _ _ _ _ _ _ Nf Jb h1 h2 hd h3 (decide_eq_false hn) h3 h4 hw zx
theorem rb(a b:au)(ha:a.ct.length<1099511627776)(hb:b.ct.length<1099511627776):Cp 190 [a.pv,b.pv] (vI (dC a.val b.val)):=by
 have h1:=Sub a b (by omega) (by omega)
 have h2:=Sign (Sym.whole (a.val-b.val)) (by
  have g1:=z7 a.val (-b.val)
  have g2:=a8 a
  have g3:=a8 b
  rw[gF,←Int.sub_eq_add_neg] at g1
  show wl (a.val-b.val)≤_
  omega)
 rw[aA] at h2
 have e:nZ (a.val-b.val)=dC a.val b.val:=by
  unfold nZ dC
  split<;>split<;>(try split)<;>(try split)<;>omega
 rw[←e]
 exact oz.e0 a b _ _ h1 h2
theorem Gcd(a b:au)(ha:Fit a.ct)(hb:Fit b.ct):Cp 191 [a.pv,b.pv] (Sym.whole (Nat.gcd a.val.natAbs b.val.natAbs)).pv:=by
 have la:(words a.val.natAbs).length≤a.ct.length:=a8 a
 have lb:(words b.val.natAbs).length≤b.ct.length:=a8 b
 have hg:=gcd (words a.val.natAbs) (words b.val.natAbs) (by omega) (by omega)
 rw[aD,aD] at hg
 have hl:(words (Nat.gcd a.val.natAbs b.val.natAbs)).length≤1099511627776:=by
  by_cases h:b.val.natAbs=0
  ·rw[h,Nat.gcd_zero_right];omega
  ·exact ve (by omega) (by omega)
 have hw:=form false (words (Nat.gcd a.val.natAbs b.val.natAbs)) (by omega)
 rw[aD] at hw
 exact oA.e0 a b _ _ _ _ (ct a ha) (ct b hb) hg hw
end uD
end Go.Proofs.YtllmkadmohkbfaaGreatDoor.Sym
namespace Go.Proofs.YtllmkadmohkbfaaGreatDoor.Sym
open bN
set_option linter.unusedVariables false
def af.valid(a:af):Bool :=
 bif a.num.isEmpty&&a.den.isEmpty then !a.neg else !a.num.isEmpty&&(!a.den.isEmpty&&(cn a.num&&(cn a.den&&Nat.beq (Nat.gcd (nat a.num) (nat a.den)) 1)))
def af.val(a:af):Rat:=bif a.valid && !a.num.isEmpty then Rat.divInt (bif a.neg then -(nat a.num:Int) else (nat a.num:Int)) (nat a.den:Int) else 0
def aN(q:Rat):af:=bif q.num.natAbs.beq 0 then ⟨false,[],[]⟩ else ⟨decide (q.num<0),words q.num.natAbs,words q.den⟩
theorem beq_iff{a b:Nat} : Nat.beq a b=true↔a=b:=⟨Nat.eq_of_beq_eq_true,fun h=>by subst h;exact Nat.beq_refl a⟩
theorem eR{a b:Nat} : Nat.beq a b=false↔a≠b:=by
 constructor
 ·intro h e;rw[beq_iff.2 e] at h;cases h
 ·intro h
  cases hb:Nat.beq a b with
  |true=>exact absurd (beq_iff.1 hb) h
  |false=>rfl
theorem pG:aN 0=⟨false,[],[]⟩:=rfl
theorem qy{q:Rat}(h:q≠0):aN q=⟨decide (q.num<0),words q.num.natAbs,words q.den⟩:=by
 unfold aN
 rw[eR.2 (by intro e;exact h (Rat.num_eq_zero.1 (by omega))),cond_false]
theorem Bh{n:Nat} : (words n).isEmpty=Nat.beq n 0:=by
 by_cases h:n=0
 ·subst h;rfl
 ·rw[eR.2 h,db]
  rw[decide_eq_false (by rw[dk];exact h)]
theorem sH(q:Rat):(aN q).valid=true:=by
 by_cases h:q=0
 ·subst h;rfl
 ·rw[qy h]
  unfold af.valid
  have h1:q.num.natAbs≠0:=by intro e;exact h (Rat.num_eq_zero.1 (by omega))
  simp only[Bh,eR.2 h1,eR.2 q.den_nz,Bool.and_self,Bool.not_false,cond_false,gE,aD,Bool.true_and]
  exact beq_iff.2 q.reduced
theorem mr{a:af}(hv:a.valid=true)(h0:a.num≠[]):a.den≠[]∧cn a.num=true∧cn a.den=true∧Nat.gcd (nat a.num) (nat a.den)=1:=by
 have h1:a.num.isEmpty=false:=by cases h:a.num with
  |nil=>exact absurd h h0
  |cons=>rfl
 unfold af.valid at hv
 rw[h1,Bool.false_and,cond_false,Bool.not_false,Bool.true_and] at hv
 simp only[Bool.and_eq_true] at hv
 obtain⟨g1,g2,g3,g4⟩:=hv
 refine⟨?_,g2,g3,beq_iff.1 g4⟩
 intro e;rw[e] at g1;cases g1
theorem Gz{a:af}(hv:a.valid=true)(h0:a.num=[]):a=⟨false,[],[]⟩:=by
 obtain⟨n,m,d⟩:=a
 subst h0
 unfold af.valid at hv
 cases d with
 |nil=>cases n with
  |false=>rfl
  |true=>cases hv
 |cons=>cases hv
theorem sI{a:af}(hv:a.valid=true)(h0:a.num≠[]):a.val.num=(bif a.neg then -(nat a.num:Int) else (nat a.num:Int))∧a.val.den=nat a.den:=by
 obtain⟨g1,g2,g3,g4⟩:=mr hv h0
 have h1:a.num.isEmpty=false:=by cases h:a.num with
  |nil=>exact absurd h h0
  |cons=>rfl
 have hd:=o7 g3 g1
 unfold af.val
 rw[hv,h1,Bool.not_false,Bool.and_self,cond_true,Rat.divInt_ofNat]
 have hr:Nat.Coprime (bif a.neg then -(nat a.num:Int) else (nat a.num:Int)).natAbs (nat a.den):=by
  cases a.neg<;>simp<;>exact g4
 rw[←Rat.mk_eq_mkRat _ _ (by omega) hr]
 exact⟨rfl,rfl⟩
theorem C6{a:af}(hv:a.valid=true)(h0:a.num≠[]):a.val≠0:=by
 obtain⟨g1,g2,g3,g4⟩:=mr hv h0
 have:=o7 g2 h0
 intro e
 have h:=(sI hv h0).1
 rw[e] at h
 have h:(0:Int)=_:=h
 cases hn:a.neg<;>rw[hn] at h<;>simp at h<;>omega
theorem C7{a:af}(hv:a.valid=false):a.val=0:=by unfold af.val;rw[hv];rfl
theorem sJ{a:af}(h:a.num=[]):a.val=0:=by unfold af.val;rw[h];simp
theorem wI{a:af}(hv:a.valid=true):aN a.val=a:=by
 by_cases h0:a.num=[]
 ·rw[sJ h0,Gz hv h0];rfl
 ·obtain⟨g1,g2,g3,g4⟩:=mr hv h0
  have hp:=o7 g2 h0
  obtain⟨e1,e2⟩:=sI hv h0
  rw[qy (C6 hv h0),e1,e2,et g3]
  obtain⟨n,m,d⟩:=a
  cases n
  ·simp only[cond_false,Int.natAbs_natCast,et g2,af.mk.injEq,and_true,decide_eq_false_iff_not]
   omega
  ·simp only[cond_true,Int.natAbs_neg,Int.natAbs_natCast,et g2,af.mk.injEq,and_true,decide_eq_true_eq]
   simp only at hp
   omega
theorem HB{p q:Rat}(h:aN p=aN q):p=q:=by
 by_cases hp:p=0
 ·subst hp
  by_cases hq:q=0
  ·exact hq.symm
  ·rw[pG,qy hq] at h
   injection h with _ h _
   have:=sC.1 h.symm
   exact absurd (Rat.num_eq_zero.1 (by omega)) hq
 ·by_cases hq:q=0
  ·subst hq
   rw[pG,qy hp] at h
   injection h with _ h _
   have:=sC.1 h
   exact absurd (Rat.num_eq_zero.1 (by omega)) hp
  ·rw[qy hp,qy hq] at h
   injection h with h1 h2 h3
   have h2:=congrArg nat h2
   have h3:=congrArg nat h3
   rw[aD,aD] at h2 h3
   refine Rat.ext ?_ h3
   by_cases h:p.num<0
   ·have:q.num<0:=by simpa[h] using h1.symm
    omega
   ·have:¬q.num<0:=by simpa[h] using h1.symm
    omega
theorem bB(q:Rat):(aN q).val=q:=HB (wI (sH q))
def ht(q:Rat):Nat:=max (wl q.num) (wl (q.den:Int))
abbrev kq(a:af):Prop:=a.num.length≤274877906944∧a.den.length≤274877906944
theorem jo:ht 0=1:=by decide
theorem GA(q:Rat):1≤ht q:=by
 have h:(words q.den).length≠0:=by rw[Ne,dk];exact q.den_nz
 have:wl (q.den:Int)≤ht q:=Nat.le_max_right _ _
 have h2:wl (q.den:Int)=(words q.den).length:=rfl
 omega
theorem dV(q:Rat):wl q.num≤ht q:=Nat.le_max_left _ _
theorem eL(q:Rat):wl (q.den:Int)≤ht q:=Nat.le_max_right _ _
theorem gY{q:Rat}(h:ht q≤274877906944):kq (aN q):=by
 by_cases h0:q=0
 ·subst h0;constructor<;>simp[pG]
 ·rw[qy h0]
  exact⟨Nat.le_trans (dV q) h,Nat.le_trans (eL q) h⟩
theorem dD{a:af}{k:Nat}(h1:a.num.length≤k)(h2:a.den.length≤k)(hk:1≤k):ht a.val≤k:=by
 by_cases hv:a.valid=true
 ·by_cases h0:a.num=[]
  ·rw[sJ h0,jo];exact hk
  ·obtain⟨g1,g2,g3,g4⟩:=mr hv h0
   obtain⟨e1,e2⟩:=sI hv h0
   unfold ht
   rw[e1,e2]
   refine Nat.max_le.2 ⟨?_,?_⟩
   ·have e:(bif a.neg then -(nat a.num:Int) else (nat a.num:Int)).natAbs=nat a.num:=by cases a.neg<;>simp
    show(words _).length≤k
    rw[e,et g2];exact h1
   ·show(words _).length≤k
    rw[Int.natAbs_natCast,et g3];exact h2
 ·rw[C7 (by simpa using hv),jo];exact hk
theorem uj{i j:Int}(h:i.natAbs≤j.natAbs):wl i≤wl j:=dL h
theorem sK(n d:Int):ht (Rat.divInt n d)≤max (wl n) (max (wl d) 1):=by
 by_cases hd:d=0
 ·subst hd
  rw[Rat.divInt_zero,jo];omega
 ·unfold ht
  refine Nat.max_le.2 ⟨Nat.le_trans (uj ?_) (Nat.le_max_left _ _),Nat.le_trans (uj (j:=d) ?_) (Nat.le_trans (Nat.le_max_left _ _) (Nat.le_max_right _ _))⟩
  ·rw[Rat.num_divInt]
   have h1:=Int.natAbs_ediv_of_dvd (a:=d.sign*n) (b:=(d.gcd n:Int)) (by
    exact Int.dvd_mul_of_dvd_right (Int.gcd_dvd_right d n))
   rw[h1,Int.natAbs_mul,Int.natAbs_sign_of_ne_zero hd,Nat.one_mul]
   exact Nat.div_le_self _ _
  ·rw[Rat.den_divInt,if_neg hd,Int.natAbs_natCast]
   exact Nat.div_le_self _ _
theorem PE:wl 1=1:=rfl
theorem EL(n:Int)(d:Nat):ht (mkRat n d)≤max (wl n) (max (wl (d:Int)) 1):=by
 rw[←Rat.divInt_ofNat];exact sK n d
theorem uk(a:Rat):ht (-a)=ht a:=by
 unfold ht
 rw[Rat.neg_num,gF,Rat.neg_den]
theorem ll(a b:Rat):ht (a*b)≤ht a+ht b:=by
 rw[Rat.mul_def']
 have h1:=EL (a.num*b.num) (a.den*b.den)
 have h2:=dH a.num b.num
 have h3:=dH (a.den:Int) (b.den:Int)
 have h4:=dV a
 have h5:=eL a
 have h6:=dV b
 have h7:=eL b
 have h8:=GA a
 rw[←Int.natCast_mul] at h3
 omega
theorem rM(a b:Rat):ht (a+b)≤ht a+ht b+1:=by
 rw[Rat.add_def']
 have h1:=EL (a.num*b.den+b.num*a.den) (a.den*b.den)
 have h2:=dH a.num b.den
 have h3:=dH b.num a.den
 have h9:=z7 (a.num*b.den) (b.num*a.den)
 have ec:=dH (a.den:Int) (b.den:Int)
 have h4:=dV a
 have h5:=eL a
 have h6:=dV b
 have h7:=eL b
 have h8:=GA a
 rw[←Int.natCast_mul] at ec
 omega
theorem C8(a b:Rat):ht (a-b)≤ht a+ht b+1:=by
 rw[Rat.sub_eq_add_neg,←uk b];exact rM a (-b)
theorem KM(a:Rat):ht a⁻¹≤ht a:=by
 rw[Rat.inv_def]
 have h1:=sK (a.den:Int) a.num
 have h4:=dV a
 have h5:=eL a
 have h8:=GA a
 omega
theorem pc(a b:Rat):ht (a/b)≤ht a+ht b:=by
 rw[Rat.div_def]
 have:=ll a b⁻¹
 have:=KM b
 omega
theorem wJ(n:Int):ht (n:Rat)=max (wl n) 1:=by
 unfold ht
 rw[Rat.num_intCast,Rat.den_intCast];rfl
def fJ(p q:Rat):Int:=if p<q then -1 else if p=q then 0 else 1
theorem KN(p q:Rat):dC (p.num*q.den) (q.num*p.den)=fJ p q:=by
 unfold dC fJ
 have h1:=Rat.lt_iff p q
 have h2:p=q↔p.num*q.den=q.num*p.den:=by
  constructor
  ·intro h;subst h;rfl
  ·intro h
   have g1:=(Rat.le_iff p q).2 (by omega)
   have g2:=(Rat.le_iff q p).2 (by omega)
   exact Rat.le_antisymm g1 g2
 simp only[h1,h2]
theorem PF(p:Rat):p.num<0↔p<0:=by
 rw[Rat.lt_iff]
 simp
theorem EM(p q:Rat):nZ (p-q).num=fJ p q:=by
 unfold nZ dC fJ
 have h1:(p-q).num<0↔p<q:=by
  rw[PF];constructor<;>intro h<;>grind
 have h2:(p-q).num=0↔p=q:=by
  rw[Rat.num_eq_zero];constructor<;>intro h<;>grind
 simp only[h1,h2]
theorem wK(p:Rat):nZ p.num=fJ p 0:=by
 have:=EM p 0
 rwa[show p-0=p from by grind] at this
theorem C9{p q:Rat} : fJ p q<0↔p<q:=by
 unfold fJ;split
 ·simp_all
 ·split
  ·simp_all
  ·simp_all
theorem eS{p q:Rat} : fJ p q=0↔p=q:=by
 unfold fJ;split
 ·rename_i h;constructor
  ·intro h;cases h
  ·intro e;subst e;exact absurd h (Rat.lt_irrefl)
 ·split
  ·simp_all
  ·simp_all
theorem HC{p q:Rat} : 0<fJ p q↔q<p:=by
 unfold fJ;split
 ·rename_i h;constructor
  ·intro h;cases h
  ·intro e;grind
 ·split
  ·rename_i h1 h;subst h;simp[Rat.lt_irrefl]
  ·rename_i h1 h2
   constructor
   ·intro _;grind
   ·intro _;decide
def Bi(p q:Rat):Rat:=if fJ p q≤0 then p else q
theorem Da{n d:Int}(hd:0<d)(g:Nat)(hg:g=Nat.gcd n.natAbs d.natAbs):(Rat.divInt n d).num=n/(g:Int)∧((Rat.divInt n d).den:Int)=d/(g:Int):=by
 have e:d.gcd n=g:=by rw[hg,Nat.gcd_comm];rfl
 refine⟨?_,?_⟩
 ·rw[Rat.num_divInt,e,Int.sign_eq_one_of_pos hd,Int.one_mul]
 ·rw[Rat.den_divInt,if_neg (by omega),e,Int.natCast_ediv,Int.natAbs_of_nonneg (by omega)]
end Go.Proofs.YtllmkadmohkbfaaGreatDoor.Sym
namespace Go.Proofs.YtllmkadmohkbfaaGreatDoor.Sym.Path
open Go
set_option maxRecDepth 20000
set_option linter.unusedVariables false
namespace tv
theorem e0(n d:Int)(of a:au)(b:af)(c:Option Int)(h1:Cp 67 [vI n] of.pv)(h2:Cp 67 [vI d] a.pv)(h3:Cp 90 [of.pv,a.pv] (.aE [b.pv,bc c])):Cp 31 [vI n,vI d] (.aE [b.pv,bc c]) :=
 eD Tryz.func31 72 [1,1,1] [.q,.aV [.o,(.pv of.pv),.o,(.pv a.pv),(.pv (.aE [b.pv,bc c]))]] (y3 h1 h2 h3)
end tv
namespace vf
theorem e0(a b c d:af)(h1:Cp 87 [b.pv] c.pv)(h2:Cp 91 [a.pv,c.pv] d.pv):Cp 32 [a.pv,b.pv] d.pv :=
 eD Tryz.func32 72 [1,1] [.q,dr 4 1 [.none,.none,(.pv c.pv),(.pv d.pv)]] (y2 h1 h2)
end vf
namespace tx
theorem e0(a:af)(b c:au)(d:Int)(h1:Cp 92 [a.pv] (.aE [b.pv,c.pv]))(h2:Cp 93 [b.pv] (vI d)):Cp 33 [a.pv] (vI d) :=
 eD Tryz.func33 78 [1,1] [.q,.h 1 (.pv (.aE [b.pv,c.pv])),.h 1 (.pv (vI d))] (y2 h1 h2)
end tx
namespace vg
theorem e0(a b:af)(c d g i j k:au)(l:Int)(h1:Cp 92 [a.pv] (.aE [c.pv,d.pv]))(h2:Cp 92 [b.pv] (.aE [g.pv,i.pv]))(h3:Cp 95 [c.pv,i.pv] j.pv)(h4:Cp 95 [g.pv,d.pv] k.pv)(h5:Cp 94 [j.pv,k.pv] (vI l)):Cp 34 [a.pv,b.pv] (vI l) :=
 eD Tryz.func34 84 [1,1,1,1,1] [.q,.h 1 (.pv (.aE [c.pv,d.pv])),.h 1 (.pv (.aE [g.pv,i.pv])),dr 7 1 [.none,.none,(.pv j.pv),.none,.none,(.pv k.pv),(.pv (vI l))]] (y5 h1 h2 h3 h4 h5)
end vg
namespace xA
theorem e0(n:Int)(of a:au)(b:af)(h1:Cp 67 [vI n] of.pv)(h2:Cp 114 [] a.pv)(h3:Cp 113 [of.pv,a.pv] b.pv):Cp 46 [vI n] b.pv :=
 eD Tryz.func46 72 [1,1,1] [.q,.aV [.o,(.pv of.pv),(.pv a.pv),(.pv b.pv)]] (y3 h1 h2 h3)
end xA
namespace pd
theorem e0(a:af)(b c d:au)(g:Int)(i:ByteArray)(h1:Cp 92 [a.pv] (.aE [b.pv,c.pv]))(h2:Cp 114 [] d.pv)(h3:Cp 94 [c.pv,d.pv] (vI g))(h4:g=0)(h5:Cp 129 [b.pv] (.str i)):Cp 61 [a.pv] (.str i) :=
 eD Tryz.func61 90 [1,1,1,1,1] [.q,.h 1 (.pv (.aE [b.pv,c.pv])),dr 4 0 [.none,(.pv d.pv),(.pv (vI g))],.t,.h 1 (.pv (.str i))] (y5 h1 h2 h3 (aP h4) h5)
theorem e1(a:af)(b c d:au)(g:Int)(i j:ByteArray)(h1:Cp 92 [a.pv] (.aE [b.pv,c.pv]))(h2:Cp 114 [] d.pv)(h3:Cp 94 [c.pv,d.pv] (vI g))(h4:g≠0)(h5:Cp 129 [b.pv] (.str i))(h6:i.size+(ByteArray.mk #[47]).size<9223372036854775808)(h7:Cp 129 [c.pv] (.str j))(h8:(i++(ByteArray.mk #[47])).size+j.size<9223372036854775808):Cp 61 [a.pv] (.str ((i++(ByteArray.mk #[47]))++j)) :=
 eD Tryz.func61 93 [1,1,1,1,1,1,1,1] [.q,.h 1 (.pv (.aE [b.pv,c.pv])),dr 4 0 [.none,(.pv d.pv),(.pv (vI g))],.f,dr 6 1 [.none,(.pv (.str i)),(.pv (.str (i++(ByteArray.mk #[47])))),.none,(.pv (.str j)),(.pv (.str ((i++(ByteArray.mk #[47]))++j)))]] (y8 h1 h2 h3 (bW h4) h5 (u0 h6) h7 (u0 h8))
end pd
namespace oC
theorem e0(a b c:af)(d:Int)(h1:Cp 143 [a.pv,b.pv] c.pv)(h2:Cp 124 [c.pv] (vI d)):Cp 69 [a.pv,b.pv] (vI d) :=
 eD Tryz.func69 72 [1,1] [.q,.aV [.o,.o,(.pv c.pv),(.pv (vI d))]] (y2 h1 h2)
end oC
namespace oD
theorem e0(a b:af)(c d g i j k l m:au)(n:af)(h1:Cp 144 [a.pv] (.aE [c.pv,d.pv]))(h2:Cp 144 [b.pv] (.aE [g.pv,i.pv]))(h3:Cp 147 [c.pv,i.pv] j.pv)(h4:Cp 147 [g.pv,d.pv] k.pv)(h5:Cp 146 [j.pv,k.pv] l.pv)(h6:Cp 147 [d.pv,i.pv] m.pv)(h7:Cp 145 [l.pv,m.pv] n.pv):Cp 70 [a.pv,b.pv] n.pv :=
 eD Tryz.func70 84 [1,1,1,1,1,1,1] [.q,.h 1 (.pv (.aE [c.pv,d.pv])),.h 1 (.pv (.aE [g.pv,i.pv])),dr 11 1 [.none,.none,(.pv j.pv),.none,.none,(.pv k.pv),(.pv l.pv),.none,.none,(.pv m.pv),(.pv n.pv)]] (y7 h1 h2 h3 h4 h5 h6 h7)
end oD
namespace vh
theorem e0(a:af)(b c d:au)(g:af)(h1:Cp 92 [a.pv] (.aE [b.pv,c.pv]))(h2:Cp 169 [b.pv] d.pv)(h3:Cp 113 [d.pv,c.pv] g.pv):Cp 87 [a.pv] g.pv :=
 eD Tryz.func87 78 [1,1,1] [.q,.h 1 (.pv (.aE [b.pv,c.pv])),dr 4 1 [.none,(.pv d.pv),.none,(.pv g.pv)]] (y3 h1 h2 h3)
end vh
namespace oE
theorem e0(a:af)(b c d:au)(g:af)(h1:Cp 144 [a.pv] (.aE [b.pv,c.pv]))(h2:Cp 170 [b.pv] d.pv)(h3:Cp 145 [d.pv,c.pv] g.pv):Cp 88 [a.pv] g.pv :=
 eD Tryz.func88 78 [1,1,1] [.q,.h 1 (.pv (.aE [b.pv,c.pv])),dr 4 1 [.none,(.pv d.pv),.none,(.pv g.pv)]] (y3 h1 h2 h3)
end oE
namespace pH
theorem e0(n:Int)(of a:au)(b:af)(h1:Cp 171 [vI n] of.pv)(h2:Cp 172 [] a.pv)(h3:Cp 145 [of.pv,a.pv] b.pv):Cp 89 [vI n] b.pv :=
 eD Tryz.func89 72 [1,1,1] [.q,.aV [.o,(.pv of.pv),(.pv a.pv),(.pv b.pv)]] (y3 h1 h2 h3)
end pH
namespace tz
theorem e1(n d:au)(a:Int)(b:af)(h1:Cp 93 [d.pv] (vI a))(h2:a≠0)(h3:Cp 113 [n.pv,d.pv] b.pv):Cp 90 [n.pv,d.pv] (.aE [b.pv,.az]) :=
 eD Tryz.func90 87 [1,1,1] [.q,.h 1 (.pv (vI a)),.f,.h 2 (.pv b.pv)] (y3 h1 (bW h2) h3)
end tz
namespace vi
theorem e0(a b:af)(c d g i j k l m:au)(n:af)(h1:Cp 92 [a.pv] (.aE [c.pv,d.pv]))(h2:Cp 92 [b.pv] (.aE [g.pv,i.pv]))(h3:Cp 95 [c.pv,i.pv] j.pv)(h4:Cp 95 [g.pv,d.pv] k.pv)(h5:Cp 66 [j.pv,k.pv] l.pv)(h6:Cp 95 [d.pv,i.pv] m.pv)(h7:Cp 113 [l.pv,m.pv] n.pv):Cp 91 [a.pv,b.pv] n.pv :=
 eD Tryz.func91 84 [1,1,1,1,1,1,1] [.q,.h 1 (.pv (.aE [c.pv,d.pv])),.h 1 (.pv (.aE [g.pv,i.pv])),dr 11 1 [.none,.none,(.pv j.pv),.none,.none,(.pv k.pv),(.pv l.pv),.none,.none,(.pv m.pv),(.pv n.pv)]] (y7 h1 h2 h3 h4 h5 h6 h7)
end vi
namespace lu
@[reducible] noncomputable def fn:Func:=Tryz.f92
theorem e0(a:af)(b:Bool)(c:au)(h1:Cp 164 [a.pv] (vB b))(h2:b=false)(h3:Cp 114 [] c.pv):Cp 92 [a.pv] (.aE [(⟨false,[]⟩:au).pv,c.pv]) :=
 eD Tryz.func92 84 [1,1,1,1,1,1,1] [.q,.aV [.o,(.pv (vB b)),.o,.o,.skip,.skip,.skip,.skip,(.dec true)],.a,.h 1 (.pv c.pv)] (y7 h1 (cf h2) (cf h2) (cf h2) (cf h2) (cf h2) h3)
theorem e1(a:af)(b:Bool)(c:au)(h1:Cp 164 [a.pv] (vB b))(h2:b=true)(h3:a.num.length=0)(h4:Cp 114 [] c.pv):Cp 92 [a.pv] (.aE [(⟨false,[]⟩:au).pv,c.pv]) :=
 eD Tryz.func92 84 [1,1,1,1,1,1,1,1,1] [.q,.aV [.o,(.pv (vB b)),.o,.o,.o,.o,(iI (a.num.length:Int)),.o,(.dec false)],.t,.h 1 (.pv c.pv)] (y9 h1 (aU h2) (aU h2) (aU h2) (an ag a.num) (aU h2) (aU h2) (aM h3) h4)
theorem Ng(a:af):wA bp mU fn.ntmps (bC (focus [0,2,0,0,2,1,2,0] [.code (ay fn)])) (mf (bC (focus [0,2,0,0,2,1,2,0] [.code (ay fn)])) []) (jN (bC (focus [0,2,0,0,2,1,2,0] [.code (ay fn)])) []) [.none,.none,.none,.none,.none,(.iL (a.num:List UInt32).length 0 ((a.num:List UInt32).map ag)),.none,.none] (BF mU fn.ntmps (bC (focus [0,2,0,0,2,1,2,0] [.code (ay fn)])) [] ⟨[(1,(.ptr 1 0)),(2,(.ptr 2 0)),(3,(.ptr 3 0))],[(3,(.lit [(eB false),(.pv (.list []))])),(2,(.lit [(eB false),(.pv (.list []))])),(1,(.lit [(eB a.neg),(.pv (aa a.num)),(.pv (aa a.den))]))]⟩)=wB bp mU fn.ntmps (bC (focus [0,2,0,0,2,1,2,0] [.code (ay fn)])) (mf (bC (focus [0,2,0,0,2,1,2,0] [.code (ay fn)])) []) (jN (bC (focus [0,2,0,0,2,1,2,0] [.code (ay fn)])) []) [.none,.none,.none,.none,.none,(.iL (a.num:List UInt32).length 0 ((a.num:List UInt32).map ag)),.none,.none] (BF mU fn.ntmps (bC (focus [0,2,0,0,2,1,2,0] [.code (ay fn)])) [] ⟨[(1,(.ptr 1 0)),(2,(.ptr 2 0)),(3,(.ptr 3 0))],[(3,(.lit [(eB false),(.pv (.list []))])),(2,(.lit [(eB false),(.pv (.list []))])),(1,(.lit [(eB a.neg),(.pv (aa a.num)),(.pv (aa a.den))]))]⟩):=by kernel_rfl
theorem Nh(a:af):wA bp mU fn.ntmps (bC (focus [0,2,0,0,2,1,2,0,2,0] [.code (ay fn)])) (mf (bC (focus [0,2,0,0,2,1,2,0,2,0] [.code (ay fn)])) []) (jN (bC (focus [0,2,0,0,2,1,2,0,2,0] [.code (ay fn)])) []) [.none,.none,.none,.none,(.iL (a.den:List UInt32).length 0 ((a.den:List UInt32).map ag)),.none,.none,.none] (BF mU fn.ntmps (bC (focus [0,2,0,0,2,1,2,0,2,0] [.code (ay fn)])) [] ⟨[(1,(.ptr 1 0)),(2,(.ptr 2 0)),(3,(.ptr 3 0))],[(3,(.lit [(eB false),(.pv (.list []))])),(2,(.lit [(eB a.neg),(.pv (aa a.num))])),(1,(.lit [(eB a.neg),(.pv (aa a.num)),(.pv (aa a.den))]))]⟩)=wB bp mU fn.ntmps (bC (focus [0,2,0,0,2,1,2,0,2,0] [.code (ay fn)])) (mf (bC (focus [0,2,0,0,2,1,2,0,2,0] [.code (ay fn)])) []) (jN (bC (focus [0,2,0,0,2,1,2,0,2,0] [.code (ay fn)])) []) [.none,.none,.none,.none,(.iL (a.den:List UInt32).length 0 ((a.den:List UInt32).map ag)),.none,.none,.none] (BF mU fn.ntmps (bC (focus [0,2,0,0,2,1,2,0,2,0] [.code (ay fn)])) [] ⟨[(1,(.ptr 1 0)),(2,(.ptr 2 0)),(3,(.ptr 3 0))],[(3,(.lit [(eB false),(.pv (.list []))])),(2,(.lit [(eB a.neg),(.pv (aa a.num))])),(1,(.lit [(eB a.neg),(.pv (aa a.num)),(.pv (aa a.den))]))]⟩):=by kernel_rfl
theorem e2(a:af)(b:Bool)(h1:Cp 164 [a.pv] (vB b))(h2:b=true)(h3:a.num.length≠0)(h4:(([]:Ws)++a.num:Ws).length*4≤140737488355328)(h5:(([]:Ws)++a.den:Ws).length*4≤140737488355328):Cp 92 [a.pv] (.aE [(⟨a.neg,a.num⟩:au).pv,(⟨false,a.den⟩:au).pv]) :=
 eD Tryz.func92 93 [1,1,1,1,1,1,1,1,6,3,1,6,3,1] [.q,.aV [.o,(.pv (vB b)),.o,.o,.o,.o,(iI (a.num.length:Int)),.o,(.dec false)],.f,.aH [1,2,3],.any [] [.none,.none,.none,.none,.none,(.iL (a.num:Ws).length 0 ((a.num:Ws).map ag)),.none,.none],.aH [1,2,3],.any [] [.none,.none,.none,.none,(.iL (a.den:Ws).length 0 ((a.den:Ws).map ag)),.none,.none,.none]] (Km h1 (aU h2) (aU h2) (aU h2) (an ag a.num) (aU h2) (aU h2) (aB h3) (qj aY ([]:Ws) (a.num:Ws) 4 (Eq.refl ([]:Ws).length) h4 rfl) (cU aY (a.num:Ws) (Eq.refl (a.num:Ws).length)) (Ng a) (qj aY ([]:Ws) (a.den:Ws) 4 (Eq.refl ([]:Ws).length) h5 rfl) (cU aY (a.den:Ws) (Eq.refl (a.den:Ws).length)) (Nh a))
end lu
namespace cN
theorem e0(a:af)(h1:a.num.length=0)(h2:a.den.length=0):Cp 111 [a.pv] (vB (!a.neg)) :=
 eD Tryz.func111 84 [1,1,1,1,1,1,1,1] [.q,.aV [.o,.o,(iI (a.num.length:Int)),.o,.o,.o,.o,(iI (a.den.length:Int)),.o,(.dec true)],.t,.q] (y8 (an ag a.num) (aM h1) (aM h1) (aM h1) (an ag a.den) (aM h1) (aM h1) (aM h2))
theorem e3(a:af)(b:Bool)(h1:a.num.length=0)(h2:a.den.length≠0)(h3:Cp 189 [aa a.num] (vB b))(h4:b=false):Cp 111 [a.pv] (vB false) :=
 eD Tryz.func111 87 [1,1,1,1,1,1,1,1,1,1,1,1,1,1,1,1,1,1,1,1,1,1,1] [.q,.aV [.o,.o,(iI (a.num.length:Int)),.o,.o,.o,.o,(iI (a.den.length:Int)),.o,(.dec true)],.f,.aV [.o,.o,(.pv (vB b)),.o,.skip,.skip,.skip,(.dec false),.o,.skip,.skip,.skip,.skip,.skip,.skip,.skip,.skip,.skip,.skip]] (Wh (an ag a.num) (aM h1) (aM h1) (aM h1) (an ag a.den) (aM h1) (aM h1) (aB h2) h3 h4 h4 h4 h4 (Eq.refl false) (Eq.refl false) (Eq.refl false) (Eq.refl false) (Eq.refl false) (Eq.refl false) (Eq.refl false) (Eq.refl false) (Eq.refl false) (Eq.refl false))
theorem e4(a:af)(b c:Bool)(d g:au)(i:Int)(h1:a.num.length≠0)(h2:Cp 189 [aa a.num] (vB b))(h3:b=true)(h4:Cp 189 [aa a.den] (vB c))(h5:c=true)(h6:Cp 191 [(⟨false,a.num⟩:au).pv,(⟨false,a.den⟩:au).pv] d.pv)(h7:Cp 172 [] g.pv)(h8:Cp 190 [d.pv,g.pv] (vI i)):Cp 111 [a.pv] (vB (i==0)) :=
 eD Tryz.func111 87 [1,1,1,1,1,1,1,1,1,1,1,1,1,1,1,1,1,1,1,1,1,1,1,1,1,1] [.q,.aV [.o,.o,(iI (a.num.length:Int)),.o,.o,.skip,.skip,.skip,.skip,(.dec false)],.a,.aV [.o,.o,(.pv (vB b)),.o,.o,.o,(.pv (vB c)),(.dec true),.o,.o,.o,.o,.o,.o,.o,(.pv d.pv),(.pv g.pv),(.pv (vI i)),.o,(.dec true)]] (XM (an ag a.num) (aB h1) (aB h1) (aB h1) (aB h1) (aB h1) h2 h3 h3 h3 h4 h3 h5 h5 h5 h5 h5 h5 h5 h6 h5 h7 h5 h8 h5 h5)
theorem e5(a:af)(b c:Bool)(h1:a.num.length≠0)(h2:Cp 189 [aa a.num] (vB b))(h3:b=true)(h4:Cp 189 [aa a.den] (vB c))(h5:c=false):Cp 111 [a.pv] (vB false) :=
 eD Tryz.func111 87 [1,1,1,1,1,1,1,1,1,1,1,1,1,1,1,1,1,1,1,1,1,1,1] [.q,.aV [.o,.o,(iI (a.num.length:Int)),.o,.o,.skip,.skip,.skip,.skip,(.dec false)],.a,.aV [.o,.o,(.pv (vB b)),.o,.o,.o,(.pv (vB c)),(.dec true),.o,.skip,.skip,.skip,.skip,.skip,.skip,.skip,.skip,.skip,.skip,(.dec false)]] (Wh (an ag a.num) (aB h1) (aB h1) (aB h1) (aB h1) (aB h1) h2 h3 h3 h3 h4 h3 h5 h5 h5 h5 h5 h5 h5 h5 h5 h5 h5)
theorem e6(a:af)(b:Bool)(h1:a.num.length≠0)(h2:Cp 189 [aa a.num] (vB b))(h3:b=false):Cp 111 [a.pv] (vB false) :=
 eD Tryz.func111 87 [1,1,1,1,1,1,1,1,1,1,1,1,1,1,1,1,1,1,1,1,1] [.q,.aV [.o,.o,(iI (a.num.length:Int)),.o,.o,.skip,.skip,.skip,.skip,(.dec false)],.a,.aV [.o,.o,(.pv (vB b)),.o,.skip,.skip,.skip,(.dec false),.o,.skip,.skip,.skip,.skip,.skip,.skip,.skip,.skip,.skip,.skip]] (Wf (an ag a.num) (aB h1) (aB h1) (aB h1) (aB h1) (aB h1) h2 h3 h3 h3 h3 (Eq.refl false) (Eq.refl false) (Eq.refl false) (Eq.refl false) (Eq.refl false) (Eq.refl false) (Eq.refl false) (Eq.refl false) (Eq.refl false) (Eq.refl false))
end cN
namespace iy
theorem e0(n d:au)(a:Int)(h1:Cp 93 [n.pv] (vI a))(h2:a=0):Cp 113 [n.pv,d.pv] ((⟨false,[],[]⟩:af).pv) :=
 eD Tryz.func113 84 [1,1] [.q,.h 1 (.pv (vI a)),.t,.q] (y2 h1 (aP h2))
theorem e1(n d:au)(a b:Int)(c g i:au)(j:Int)(k l m:au)(o:Option Int)(p s:au)(u:Option Int)(h1:Cp 93 [n.pv] (vI a))(h2:a≠0)(h3:Cp 93 [d.pv] (vI b))(h4:b<0)(h5:Cp 169 [n.pv] c.pv)(h6:Cp 169 [d.pv] g.pv)(h7:Cp 192 [c.pv,g.pv] i.pv)(h8:Cp 93 [c.pv] (vI j))(h9:j<0)(ec:Cp 169 [c.pv] k.pv)(il:Cp 132 [k.pv,i.pv] (.aE [l.pv,m.pv,bc o]))(mF:Cp 132 [g.pv,i.pv] (.aE [p.pv,s.pv,bc u])):Cp 113 [n.pv,d.pv] ((⟨(decide (j<0)),l.ct,p.ct⟩:af).pv) :=
 eD Tryz.func113 141 [1,1,1,1,1,1,1,1,1,1,1,1] [.q,.h 1 (.pv (vI a)),.f,.h 1 (.pv (vI b)),.t,dr 4 2 [.none,(.pv c.pv),.none,(.pv g.pv)],.h 2 (.pv i.pv),.h 1 (.pv (vI j)),.q,.t,.h 1 (.pv k.pv),.h 2 (.pv (.aE [l.pv,m.pv,bc o])),.h 2 (.pv (.aE [p.pv,s.pv,bc u])),.q] (Jj h1 (bW h2) h3 (bY h4) h5 h6 h7 h8 (bY h9) ec il mF)
theorem e2(n d:au)(a b:Int)(c g i:au)(j:Int)(k l:au)(m:Option Int)(o p:au)(s:Option Int)(h1:Cp 93 [n.pv] (vI a))(h2:a≠0)(h3:Cp 93 [d.pv] (vI b))(h4:b<0)(h5:Cp 169 [n.pv] c.pv)(h6:Cp 169 [d.pv] g.pv)(h7:Cp 192 [c.pv,g.pv] i.pv)(h8:Cp 93 [c.pv] (vI j))(h9:0≤j)(ec:Cp 132 [c.pv,i.pv] (.aE [k.pv,l.pv,bc m]))(il:Cp 132 [g.pv,i.pv] (.aE [o.pv,p.pv,bc s])):Cp 113 [n.pv,d.pv] ((⟨(decide (j<0)),k.ct,o.ct⟩:af).pv) :=
 eD Tryz.func113 141 [1,1,1,1,1,1,1,1,1,1,1] [.q,.h 1 (.pv (vI a)),.f,.h 1 (.pv (vI b)),.t,dr 4 2 [.none,(.pv c.pv),.none,(.pv g.pv)],.h 2 (.pv i.pv),.h 1 (.pv (vI j)),.q,.f,.h 2 (.pv (.aE [k.pv,l.pv,bc m])),.h 2 (.pv (.aE [o.pv,p.pv,bc s])),.q] (BL h1 (bW h2) h3 (bY h4) h5 h6 h7 h8 (bD h9) ec il)
theorem e3(n d:au)(a b:Int)(c:au)(g:Int)(i j k:au)(l:Option Int)(m o:au)(p:Option Int)(h1:Cp 93 [n.pv] (vI a))(h2:a≠0)(h3:Cp 93 [d.pv] (vI b))(h4:0≤b)(h5:Cp 192 [n.pv,d.pv] c.pv)(h6:Cp 93 [n.pv] (vI g))(h7:g<0)(h8:Cp 169 [n.pv] i.pv)(h9:Cp 132 [i.pv,c.pv] (.aE [j.pv,k.pv,bc l]))(ec:Cp 132 [d.pv,c.pv] (.aE [m.pv,o.pv,bc p])):Cp 113 [n.pv,d.pv] ((⟨(decide (g<0)),j.ct,m.ct⟩:af).pv) :=
 eD Tryz.func113 141 [1,1,1,1,1,1,1,1,1,1] [.q,.h 1 (.pv (vI a)),.f,.h 1 (.pv (vI b)),.f,.h 2 (.pv c.pv),.h 1 (.pv (vI g)),.q,.t,.h 1 (.pv i.pv),.h 2 (.pv (.aE [j.pv,k.pv,bc l])),.h 2 (.pv (.aE [m.pv,o.pv,bc p])),.q] (FA h1 (bW h2) h3 (bD h4) h5 h6 (bY h7) h8 h9 ec)
theorem e4(n d:au)(a b:Int)(c:au)(g:Int)(i j:au)(k:Option Int)(l m:au)(o:Option Int)(h1:Cp 93 [n.pv] (vI a))(h2:a≠0)(h3:Cp 93 [d.pv] (vI b))(h4:0≤b)(h5:Cp 192 [n.pv,d.pv] c.pv)(h6:Cp 93 [n.pv] (vI g))(h7:0≤g)(h8:Cp 132 [n.pv,c.pv] (.aE [i.pv,j.pv,bc k]))(h9:Cp 132 [d.pv,c.pv] (.aE [l.pv,m.pv,bc o])):Cp 113 [n.pv,d.pv] ((⟨(decide (g<0)),i.ct,l.ct⟩:af).pv) :=
 eD Tryz.func113 141 [1,1,1,1,1,1,1,1,1] [.q,.h 1 (.pv (vI a)),.f,.h 1 (.pv (vI b)),.f,.h 2 (.pv c.pv),.h 1 (.pv (vI g)),.q,.f,.h 2 (.pv (.aE [i.pv,j.pv,bc k])),.h 2 (.pv (.aE [l.pv,m.pv,bc o])),.q] (y9 h1 (bW h2) h3 (bD h4) h5 h6 (bD h7) h8 h9)
end iy
namespace vj
theorem e0(of:au)(h1:Cp 67 [vI 1] of.pv):Cp 114 [] of.pv :=
 eD Tryz.func114 72 [1] [.q,.h 0 (.pv of.pv)] (y1 h1)
end vj
namespace nJ
theorem e0(a:af)(b c:au)(d:Int)(h1:Cp 144 [a.pv] (.aE [b.pv,c.pv]))(h2:Cp 211 [b.pv] (vI d)):Cp 124 [a.pv] (vI d) :=
 eD Tryz.func124 78 [1,1] [.q,.h 1 (.pv (.aE [b.pv,c.pv])),.h 1 (.pv (vI d))] (y2 h1 h2)
end nJ
namespace oF
theorem e0(a b c d:af)(h1:Cp 88 [b.pv] c.pv)(h2:Cp 70 [a.pv,c.pv] d.pv):Cp 143 [a.pv,b.pv] d.pv :=
 eD Tryz.func143 72 [1,1] [.q,dr 4 1 [.none,.none,(.pv c.pv),(.pv d.pv)]] (y2 h1 h2)
end oF
namespace gu
theorem e0(a:af)(b:Bool)(c:au)(h1:Cp 111 [a.pv] (vB b))(h2:b=false)(h3:Cp 172 [] c.pv):Cp 144 [a.pv] (.aE [(⟨false,[]⟩:au).pv,c.pv]) :=
 eD Tryz.func144 84 [1,1,1,1,1,1,1] [.q,.aV [.o,(.pv (vB b)),.o,.o,.skip,.skip,.skip,.skip,(.dec true)],.a,.h 1 (.pv c.pv)] (y7 h1 (cf h2) (cf h2) (cf h2) (cf h2) (cf h2) h3)
theorem e1(a:af)(b:Bool)(c:au)(h1:Cp 111 [a.pv] (vB b))(h2:b=true)(h3:a.num.length=0)(h4:Cp 172 [] c.pv):Cp 144 [a.pv] (.aE [(⟨false,[]⟩:au).pv,c.pv]) :=
 eD Tryz.func144 84 [1,1,1,1,1,1,1,1,1] [.q,.aV [.o,(.pv (vB b)),.o,.o,.o,.o,(iI (a.num.length:Int)),.o,(.dec false)],.t,.h 1 (.pv c.pv)] (y9 h1 (aU h2) (aU h2) (aU h2) (an ag a.num) (aU h2) (aU h2) (aM h3) h4)
theorem e2(a:af)(b:Bool)(h1:Cp 111 [a.pv] (vB b))(h2:b=true)(h3:a.num.length≠0):Cp 144 [a.pv] (.aE [(⟨a.neg,a.num⟩:au).pv,(⟨false,a.den⟩:au).pv]) :=
 eD Tryz.func144 87 [1,1,1,1,1,1,1,1] [.q,.aV [.o,(.pv (vB b)),.o,.o,.o,.o,(iI (a.num.length:Int)),.o,(.dec false)],.f,dr 9 1 []] (y8 h1 (aU h2) (aU h2) (aU h2) (an ag a.num) (aU h2) (aU h2) (aB h3))
end gu
namespace gZ
theorem e0(n d:au)(a:Int)(h1:Cp 211 [n.pv] (vI a))(h2:a=0):Cp 145 [n.pv,d.pv] ((⟨false,[],[]⟩:af).pv) :=
 eD Tryz.func145 84 [1,1] [.q,.h 1 (.pv (vI a)),.t,.q] (y2 h1 (aP h2))
theorem e1(n d:au)(a b:Int)(c g i j k:au)(l:Int)(m o:au)(p:Int)(h1:Cp 211 [n.pv] (vI a))(h2:a≠0)(h3:Cp 211 [d.pv] (vI b))(h4:b<0)(h5:Cp 170 [n.pv] c.pv)(h6:Cp 170 [d.pv] g.pv)(h7:Cp 191 [c.pv,g.pv] i.pv)(h8:Cp 223 [c.pv,i.pv] (.aE [j.pv,k.pv,vI l]))(h9:Cp 223 [g.pv,i.pv] (.aE [m.pv,o.pv,vI p])):Cp 145 [n.pv,d.pv] ((⟨j.neg,j.ct,m.ct⟩:af).pv) :=
 eD Tryz.func145 120 [1,1,1,1,1,1,1,1,1] [.q,.h 1 (.pv (vI a)),.f,.h 1 (.pv (vI b)),.t,dr 4 2 [.none,(.pv c.pv),.none,(.pv g.pv)],.h 2 (.pv i.pv),.h 2 (.pv (.aE [j.pv,k.pv,vI l])),.h 2 (.pv (.aE [m.pv,o.pv,vI p])),.q] (y9 h1 (bW h2) h3 (bY h4) h5 h6 h7 h8 h9)
theorem e2(n d:au)(a b:Int)(c g i:au)(j:Int)(k l:au)(m:Int)(h1:Cp 211 [n.pv] (vI a))(h2:a≠0)(h3:Cp 211 [d.pv] (vI b))(h4:0≤b)(h5:Cp 191 [n.pv,d.pv] c.pv)(h6:Cp 223 [n.pv,c.pv] (.aE [g.pv,i.pv,vI j]))(h7:Cp 223 [d.pv,c.pv] (.aE [k.pv,l.pv,vI m])):Cp 145 [n.pv,d.pv] ((⟨g.neg,g.ct,k.ct⟩:af).pv) :=
 eD Tryz.func145 120 [1,1,1,1,1,1,1] [.q,.h 1 (.pv (vI a)),.f,.h 1 (.pv (vI b)),.f,.h 2 (.pv c.pv),.h 2 (.pv (.aE [g.pv,i.pv,vI j])),.h 2 (.pv (.aE [k.pv,l.pv,vI m])),.q] (y7 h1 (bW h2) h3 (bD h4) h5 h6 h7)
end gZ
namespace oG
theorem e0(a b:af)(c d g i j k:au)(l:af)(m:Int)(h1:Cp 144 [a.pv] (.aE [c.pv,d.pv]))(h2:Cp 144 [b.pv] (.aE [g.pv,i.pv]))(h3:Cp 147 [c.pv,i.pv] j.pv)(h4:Cp 147 [d.pv,g.pv] k.pv)(h5:Cp 224 [j.pv,k.pv] (.aE [l.pv,vI m])):Cp 148 [a.pv,b.pv] (.aE [l.pv,vI m]) :=
 eD Tryz.func148 84 [1,1,1,1,1] [.q,.h 1 (.pv (.aE [c.pv,d.pv])),.h 1 (.pv (.aE [g.pv,i.pv])),dr 9 2 [.none,.none,(.pv j.pv),.none,.none,(.pv k.pv),(.pv (.aE [l.pv,vI m]))]] (y5 h1 h2 h3 h4 h5)
end oG
namespace fD
theorem e0(a:af)(h1:a.num.length=0)(h2:a.den.length=0):Cp 164 [a.pv] (vB (!a.neg)) :=
 eD Tryz.func164 84 [1,1,1,1,1,1,1,1] [.q,.aV [.o,.o,(iI (a.num.length:Int)),.o,.o,.o,.o,(iI (a.den.length:Int)),.o,(.dec true)],.t,.q] (y8 (an ag a.num) (aM h1) (aM h1) (aM h1) (an ag a.den) (aM h1) (aM h1) (aM h2))
theorem e1(a:af)(h1:a.num.length=0)(h2:a.den.length≠0):Cp 164 [a.pv] (vB false) :=
 eD Tryz.func164 105 [1,1,1,1,1,1,1,1,1,1,1,1,1,1,1,1,1,1,1,1] [.q,.aV [.o,.o,(iI (a.num.length:Int)),.o,.o,.o,.o,(iI (a.den.length:Int)),.o,(.dec true)],.f,dr 9 1 [],.aV [.o,.o,(iI (a.num.length:Int)),.o,.o,.skip,.skip,.skip,.skip,(.dec true),.o,.skip,.skip,.skip,.o,.o,.skip,.skip,.skip],.a,.q] (Uk (an ag a.num) (aM h1) (aM h1) (aM h1) (an ag a.den) (aM h1) (aM h1) (aB h2) (an ag a.num) (aM h1) (aM h1) (aM h1) (aM h1) (aM h1) (Eq.refl true) (Eq.refl true) (Eq.refl true) (Eq.refl true) (Eq.refl true) (Eq.refl true))
theorem e2(a:af)(h1:a.num.length≠0)(h2:a.den.length=0):Cp 164 [a.pv] (vB false) :=
 eD Tryz.func164 105 [1,1,1,1,1,1,1,1,1,1,1,1,1,1,1,1,1,1,1,1] [.q,.aV [.o,.o,(iI (a.num.length:Int)),.o,.o,.skip,.skip,.skip,.skip,(.dec false)],.a,dr 9 1 [],.aV [.o,.o,(iI (a.num.length:Int)),.o,.o,.o,.o,(iI (a.den.length:Int)),.o,(.dec false),.o,.skip,.skip,.skip,(.dec true),.o,.skip,.skip,.skip],.a,.q] (Uk (an ag a.num) (aB h1) (aB h1) (aB h1) (aB h1) (aB h1) (an ag a.num) (aB h1) (aB h1) (aB h1) (an ag a.den) (aB h1) (aB h1) (aM h2) (aM h2) (aM h2) (aM h2) (Eq.refl true) (Eq.refl true) (Eq.refl true))
theorem e3(a:af)(b:Bool)(h1:a.num.length≠0)(h2:a.den.length≠0)(h3:Cp 220 [(⟨false,a.num⟩:au).pv] (vB b))(h4:b=false):Cp 164 [a.pv] (vB false) :=
 eD Tryz.func164 105 [1,1,1,1,1,1,1,1,1,1,1,1,1,1,1,1,1,1,1,1,1,1] [.q,.aV [.o,.o,(iI (a.num.length:Int)),.o,.o,.skip,.skip,.skip,.skip,(.dec false)],.a,dr 9 1 [],.aV [.o,.o,(iI (a.num.length:Int)),.o,.o,.o,.o,(iI (a.den.length:Int)),.o,(.dec false),.o,.o,(.pv (vB b)),.o,(.dec false),.o,.skip,.skip,.skip,(.dec true)],.a,.q] (Wg (an ag a.num) (aB h1) (aB h1) (aB h1) (aB h1) (aB h1) (an ag a.num) (aB h1) (aB h1) (aB h1) (an ag a.den) (aB h1) (aB h1) (aB h2) (aB h2) h3 (aB h2) (aB h2) (cf h4) (cf h4) (cf h4) (cf h4))
theorem e4(a:af)(b c:Bool)(h1:a.num.length≠0)(h2:a.den.length≠0)(h3:Cp 220 [(⟨false,a.num⟩:au).pv] (vB b))(h4:b=true)(h5:Cp 220 [(⟨false,a.den⟩:au).pv] (vB c))(h6:c=false):Cp 164 [a.pv] (vB false) :=
 eD Tryz.func164 105 [1,1,1,1,1,1,1,1,1,1,1,1,1,1,1,1,1,1,1,1,1,1,1,1] [.q,.aV [.o,.o,(iI (a.num.length:Int)),.o,.o,.skip,.skip,.skip,.skip,(.dec false)],.a,dr 9 1 [],.aV [.o,.o,(iI (a.num.length:Int)),.o,.o,.o,.o,(iI (a.den.length:Int)),.o,(.dec false),.o,.o,(.pv (vB b)),.o,(.dec false),.o,.o,(.pv (vB c)),.o,(.dec false)],.t,.q] (Ul (an ag a.num) (aB h1) (aB h1) (aB h1) (aB h1) (aB h1) (an ag a.num) (aB h1) (aB h1) (aB h1) (an ag a.den) (aB h1) (aB h1) (aB h2) (aB h2) h3 (aB h2) (aB h2) (aU h4) (aU h4) h5 (aU h4) (aU h4) (cf h6))
theorem e5(a:af)(b c:Bool)(d g:au)(i:Int)(h1:a.num.length≠0)(h2:a.den.length≠0)(h3:Cp 220 [(⟨false,a.num⟩:au).pv] (vB b))(h4:b=true)(h5:Cp 220 [(⟨false,a.den⟩:au).pv] (vB c))(h6:c=true)(h7:Cp 192 [(⟨false,a.num⟩:au).pv,(⟨false,a.den⟩:au).pv] d.pv)(h8:Cp 114 [] g.pv)(h9:Cp 94 [d.pv,g.pv] (vI i)):Cp 164 [a.pv] (vB (i==0)) :=
 eD Tryz.func164 108 [1,1,1,1,1,1,1,1,1,1,1,1,1,1,1,1,1,1,1,1,1,1,1,1,1,1,1] [.q,.aV [.o,.o,(iI (a.num.length:Int)),.o,.o,.skip,.skip,.skip,.skip,(.dec false)],.a,dr 9 1 [],.aV [.o,.o,(iI (a.num.length:Int)),.o,.o,.o,.o,(iI (a.den.length:Int)),.o,(.dec false),.o,.o,(.pv (vB b)),.o,(.dec false),.o,.o,(.pv (vB c)),.o,(.dec false)],.f,.aV [.o,.o,(.pv d.pv),(.pv g.pv),(.pv (vI i))]] (XN (an ag a.num) (aB h1) (aB h1) (aB h1) (aB h1) (aB h1) (an ag a.num) (aB h1) (aB h1) (aB h1) (an ag a.den) (aB h1) (aB h1) (aB h2) (aB h2) h3 (aB h2) (aB h2) (aU h4) (aU h4) h5 (aU h4) (aU h4) (aU h6) h7 h8 h9)
end fD
namespace oH
theorem e0(of:au)(h1:Cp 171 [vI 1] of.pv):Cp 172 [] of.pv :=
 eD Tryz.func172 72 [1] [.q,.h 0 (.pv of.pv)] (y1 h1)
end oH
namespace jJ
theorem e0(m:Ws)(k:Nat)(v:UInt32)(h1:0<m.length)(h2:ax ((m.length:Int)-1))(h3:((m.length:Int)-1)=(k:Int))(h4:m[k]? = some v):Cp 189 [aa m] (vB ((v.toNat:Int) != 0)) :=
 eD Tryz.func189 72 [1,1,1,1,1,1,1,1,3,1,1,1] [.q,.aV [.o,(iI (m.length:Int)),.o,.o,.o,.o,(iI (m.length:Int)),(iI ((m.length:Int)-1)),(.row k (ag v)),.o,.o,(.dec true)]] (Jj (an ag m) (ai h1) (ai h1) (ai h1) (an ag m) (ai h1) (aW h2) (ai h1) (bO ag h3 h4) (ai h1) (ai h1) (ai h1))
theorem e1(m:Ws)(h1:m.length≤0):Cp 189 [aa m] (vB false) :=
 eD Tryz.func189 72 [1,1,1,1,1,1,1,1,1] [.q,.aV [.o,(iI (m.length:Int)),.o,.o,.skip,.skip,.skip,.skip,.skip,.skip,.skip,(.dec false)]] (y9 (an ag m) (ar h1) (ar h1) (ar h1) (ar h1) (ar h1) (ar h1) (ar h1) (ar h1))
end jJ
namespace vk
theorem e0(a b:af)(c d g i j k:au)(l:af)(h1:Cp 92 [a.pv] (.aE [c.pv,d.pv]))(h2:Cp 92 [b.pv] (.aE [g.pv,i.pv]))(h3:Cp 95 [c.pv,g.pv] j.pv)(h4:Cp 95 [d.pv,i.pv] k.pv)(h5:Cp 113 [j.pv,k.pv] l.pv):Cp 198 [a.pv,b.pv] l.pv :=
 eD Tryz.func198 84 [1,1,1,1,1] [.q,.h 1 (.pv (.aE [c.pv,d.pv])),.h 1 (.pv (.aE [g.pv,i.pv])),dr 7 1 [.none,.none,(.pv j.pv),.none,.none,(.pv k.pv),(.pv l.pv)]] (y5 h1 h2 h3 h4 h5)
end vk
namespace rN
theorem e0(a:af)(b c d g:au)(i:Option Int)(h1:Cp 92 [a.pv] (.aE [b.pv,c.pv]))(h2:Cp 132 [b.pv,c.pv] (.aE [d.pv,g.pv,bc i])):Cp 218 [a.pv] d.pv :=
 eD Tryz.func218 84 [1,1] [.q,.h 1 (.pv (.aE [b.pv,c.pv])),.h 2 (.pv (.aE [d.pv,g.pv,bc i])),.q] (y2 h1 h2)
end rN
namespace nK
theorem e1(n d:au)(a:Int)(b:af)(h1:Cp 211 [d.pv] (vI a))(h2:a≠0)(h3:Cp 145 [n.pv,d.pv] b.pv):Cp 224 [n.pv,d.pv] (.aE [b.pv,vI 0]) :=
 eD Tryz.func224 87 [1,1,1] [.q,.h 1 (.pv (vI a)),.f,.h 2 (.pv b.pv)] (y3 h1 (bW h2) h3)
end nK
namespace vl
theorem e0(a b:af)(c d g i j k:au)(l:af)(m:Option Int)(h1:Cp 92 [a.pv] (.aE [c.pv,d.pv]))(h2:Cp 92 [b.pv] (.aE [g.pv,i.pv]))(h3:Cp 95 [c.pv,i.pv] j.pv)(h4:Cp 95 [d.pv,g.pv] k.pv)(h5:Cp 90 [j.pv,k.pv] (.aE [l.pv,bc m])):Cp 234 [a.pv,b.pv] (.aE [l.pv,bc m]) :=
 eD Tryz.func234 84 [1,1,1,1,1] [.q,.h 1 (.pv (.aE [c.pv,d.pv])),.h 1 (.pv (.aE [g.pv,i.pv])),dr 9 2 [.none,.none,(.pv j.pv),.none,.none,(.pv k.pv),(.pv (.aE [l.pv,bc m]))]] (y5 h1 h2 h3 h4 h5)
end vl
namespace qz
theorem e0(a:af)(b:Int)(c:af)(h1:Cp 33 [a.pv] (vI b))(h2:b<0)(h3:Cp 87 [a.pv] c.pv):Cp 235 [a.pv] c.pv :=
 eD Tryz.func235 84 [1,1,1] [.q,.h 1 (.pv (vI b)),.t,.h 1 (.pv c.pv)] (y3 h1 (bY h2) h3)
theorem e1(a:af)(b:Int)(c d:au)(g:af)(h1:Cp 33 [a.pv] (vI b))(h2:0≤b)(h3:Cp 92 [a.pv] (.aE [c.pv,d.pv]))(h4:Cp 113 [c.pv,d.pv] g.pv):Cp 235 [a.pv] g.pv :=
 eD Tryz.func235 87 [1,1,1,1] [.q,.h 1 (.pv (vI b)),.f,.aV [.o,(.pv (.aE [c.pv,d.pv])),.o,.o,(.pv g.pv)]] (y4 h1 (bD h2) h3 h4)
end qz
namespace oI
theorem e0(a b:af)(c d g i j k:au)(l:af)(h1:Cp 144 [a.pv] (.aE [c.pv,d.pv]))(h2:Cp 144 [b.pv] (.aE [g.pv,i.pv]))(h3:Cp 147 [c.pv,g.pv] j.pv)(h4:Cp 147 [d.pv,i.pv] k.pv)(h5:Cp 145 [j.pv,k.pv] l.pv):Cp 245 [a.pv,b.pv] l.pv :=
 eD Tryz.func245 84 [1,1,1,1,1] [.q,.h 1 (.pv (.aE [c.pv,d.pv])),.h 1 (.pv (.aE [g.pv,i.pv])),dr 7 1 [.none,.none,(.pv j.pv),.none,.none,(.pv k.pv),(.pv l.pv)]] (y5 h1 h2 h3 h4 h5)
end oI
end Go.Proofs.YtllmkadmohkbfaaGreatDoor.Sym.Path
namespace Go.Proofs.YtllmkadmohkbfaaGreatDoor.Sym
open Go Path bN
set_option linter.unusedVariables false
theorem EN{a:af}(h1:a.num.length=0)(h2:a.den.length=0):a.valid = !a.neg:=by
 unfold af.valid;rw[db,db,decide_eq_true h1,decide_eq_true h2];rfl
theorem EO{a:af}(h1:a.num.length=0)(h2:a.den.length≠0):a.valid=false:=by
 unfold af.valid;rw[db,db,decide_eq_true h1,decide_eq_false h2];rfl
theorem EP{a:af}(h1:a.num.length≠0)(h2:a.den.length=0):a.valid=false:=by
 unfold af.valid;rw[db,db,decide_eq_false h1,decide_eq_true h2];rfl
theorem ER{a:af}(h1:a.num.length≠0)(h2:a.den.length≠0):a.valid=(cn a.num&&(cn a.den&&Nat.beq (Nat.gcd (nat a.num) (nat a.den)) 1)):=by
 unfold af.valid;rw[db,db,decide_eq_false h1,decide_eq_false h2];rfl
theorem um{m:Words}(h:m.length≠0):(⟨false,m⟩:au).valid=cn m:=by
 unfold au.valid
 rw[db,decide_eq_false h];rfl
theorem vm{m:Words}(h:m.length≠0)(hc:cn m=true):(⟨false,m⟩:au).val=(nat m:Int):=by
 unfold au.val
 rw[um h,hc];rfl
theorem HD(g:Nat):(dC (g:Int) 1==0)=Nat.beq g 1:=by
 by_cases h:g=1
 ·subst h;rfl
 ·rw[eR.2 h]
  unfold dC
  split
  ·rfl
  ·rw[if_neg (by omega)];rfl
theorem ES{a:af}(hv:a.valid=true)(h0:a.num.length≠0):Sym.whole a.val.num=⟨a.neg,a.num⟩∧Sym.whole (a.val.den:Int)=⟨false,a.den⟩:=by
 have S7:a.num≠[]:=by intro e;rw[e] at h0;exact h0 rfl
 obtain⟨g1,g2,g3,g4⟩:=mr hv S7
 obtain⟨e1,e2⟩:=sI hv S7
 have hp:=o7 g2 S7
 rw[e1,e2]
 refine⟨?_,?_⟩
 ·unfold Sym.whole
  cases hn:a.neg
  ·simp only[cond_false,Int.natAbs_natCast,et g2,au.mk.injEq,and_true,decide_eq_false_iff_not];omega
  ·simp only[cond_true,Int.natAbs_neg,Int.natAbs_natCast,et g2,au.mk.injEq,and_true,decide_eq_true_eq];omega
 ·unfold Sym.whole
  simp only[Int.natAbs_natCast,et g3,au.mk.injEq,and_true,decide_eq_false_iff_not];omega
theorem wL{a b:Int}{k:Nat}(ha:wl a≤k)(hb:wl b≤k):wl ((Nat.gcd a.natAbs b.natAbs:Nat):Int)≤k:=by
 by_cases h:b=0
 ·subst h
  rw[Int.natAbs_zero,Nat.gcd_zero_right]
  show(words _).length≤k
  rw[Int.natAbs_natCast];exact ha
 ·exact Nat.le_trans (uj (by rw[Int.natAbs_natCast];exact Nat.le_of_dvd (by omega) (Nat.gcd_dvd_right _ _))) hb
theorem formed{n d:Int}(hn:n≠0)(hd:0<d)(g:Nat)(hg:g=Nat.gcd n.natAbs d.natAbs):aN (Rat.divInt n d)=⟨decide (n/(g:Int)<0),(Sym.whole (n/(g:Int))).ct,(Sym.whole (d/(g:Int))).ct⟩:=by
 obtain⟨e1,e2⟩:=Da (n:=n) hd g hg
 have df:Rat.divInt n d≠0:=by
  intro e
  rw[e] at e1
  have e1:(0:Int)=n/(g:Int):=e1
  have h1:(g:Int)∣n:=by rw[hg];exact Int.ofNat_dvd_left.2 (Nat.gcd_dvd_left _ _)
  have:=Int.ediv_mul_cancel h1
  rw[←e1] at this
  omega
 rw[qy df,e1]
 unfold Sym.whole
 simp only[af.mk.injEq,true_and]
 rw[←e2,Int.natAbs_natCast]
theorem Ab{n:Int}(hn:n≠0)(g:Nat)(hg:g∣n.natAbs):decide (n/(g:Int)<0)=decide (n<0)∧(n/(g:Int)).natAbs=((n.natAbs:Int)/(g:Int)).natAbs:=by
 have h1:(g:Int)∣n:=Int.ofNat_dvd_left.2 hg
 have h2:=Int.ediv_mul_cancel h1
 have AW:0<g:=Nat.pos_of_dvd_of_pos hg (by omega)
 refine⟨?_,?_⟩
 ·congr 1
  refine propext ⟨fun h => ?_,fun h => ?_⟩
  ·have:=Int.mul_neg_of_neg_of_pos h (show (0:Int)<g by omega)
   omega
  ·exact Int.ediv_neg_of_neg_of_pos h (by omega)
 ·rw[Int.natAbs_ediv_of_dvd h1,Int.natAbs_natCast,←Int.natCast_ediv,Int.natAbs_natCast]
namespace rO
theorem one:Cp 114 [] (Sym.whole 1).pv:=vj.e0 _ (bN.Of 1 (by unfold ax;omega))
theorem Valid(a:af)(h:kq a):Cp 164 [a.pv] (vB a.valid):=by
 obtain⟨l1,l2⟩:=h
 by_cases h1:a.num.length=0
 ·by_cases h2:a.den.length=0
  ·rw[EN h1 h2];exact fD.e0 a h1 h2
  ·rw[EO h1 h2];exact fD.e1 a h1 h2
 ·by_cases h2:a.den.length=0
  ·rw[EP h1 h2];exact fD.e2 a h1 h2
  ·rw[ER h1 h2]
   have v1:=bN.Valid ⟨false,a.num⟩ (show a.num.length≤_ by omega)
   have v2:=bN.Valid ⟨false,a.den⟩ (show a.den.length≤_ by omega)
   rw[um h1] at v1
   rw[um h2] at v2
   cases Ac:cn a.num with
   |false=>rw[Bool.false_and];exact fD.e3 a _ h1 h2 v1 Ac
   |true =>
    rw[Bool.true_and]
    cases AV:cn a.den with
    |false=>rw[Bool.false_and];exact fD.e4 a _ _ h1 h2 v1 Ac v2 AV
    |true =>
     have hg:=bN.Gcd ⟨false,a.num⟩ ⟨false,a.den⟩ (show a.num.length≤_ by omega) (show a.den.length≤_ by omega)
     rw[vm h1 Ac,vm h2 AV,Int.natAbs_natCast,Int.natAbs_natCast] at hg
     have gl:=wL (a:=(nat a.num:Int)) (b:=(nat a.den:Int)) (k:=274877906944) (by show(words _).length≤_;rw[Int.natAbs_natCast,et Ac];exact l1) (by show(words _).length≤_;rw[Int.natAbs_natCast,et AV];exact l2)
     rw[Int.natAbs_natCast,Int.natAbs_natCast] at gl
     have hc:=bN.rb (Sym.whole (Nat.gcd (nat a.num) (nat a.den):Nat)) (Sym.whole 1) (show wl _≤_ by omega) (show wl 1≤_ by decide)
     rw[aA,aA] at hc
     rw[Bool.true_and,←HD]
     exact fD.e5 a _ _ _ _ _ h1 h2 v1 Ac v2 AV hg one hc
theorem jC(a:af)(h:kq a):Cp 92 [a.pv] (.aE [(Sym.whole a.val.num).pv,(Sym.whole (a.val.den:Int)).pv]):=by
 have hv:=Valid a h
 cases hc:a.valid with
 |false=>rw[C7 hc];exact lu.e0 a _ _ hv hc one
 |true =>
  by_cases h0:a.num.length=0
  ·rw[sJ (List.eq_nil_of_length_eq_zero h0)];exact lu.e1 a _ _ hv hc h0 one
  ·obtain⟨e1,e2⟩:=ES hc h0
   rw[e1,e2]
   exact lu.e2 a _ hv hc h0 (by have:=h.1;simp;omega) (by have:=h.2;simp;omega)
theorem form(n d:au)(hn:n.ct.length≤1099511627776)(hd:d.ct.length≤1099511627776)(h0:d.val≠0):Cp 113 [n.pv,d.pv] (aN (Rat.divInt n.val d.val)).pv:=by
 have sn:=bN.Sign n hn
 have sd:=bN.Sign d hd
 have wn:=a8 n
 have Yb:=a8 d
 by_cases hz:n.val=0
 ·rw[hz,Rat.zero_divInt]
  exact iy.e0 n d _ sn (by rw[hz];rfl)
 ·have Eh:nZ n.val≠0:=by unfold nZ dC;split<;>(try split)<;>omega
  by_cases rP:d.val<0
  ·have e:Rat.divInt n.val d.val=Rat.divInt (-n.val) (-d.val):=by rw[Rat.divInt_neg',Int.neg_neg]
   have n1:=bN.Neg n hn
   have d1:=bN.Neg d hd
   have l1:(Sym.whole (-n.val)).ct.length≤1099511627776:=by show wl _≤_;rw[gF];omega
   have l2:(Sym.whole (-d.val)).ct.length≤1099511627776:=by show wl _≤_;rw[gF];omega
   have g:=bN.Gcd _ _ l1 l2
   rw[aA,aA] at g
   have yn:=wL (a := -n.val) (b := -d.val) (k:=1099511627776) (by rw[gF];omega) (by rw[gF];omega)
   have s2:=bN.Sign _ l1
   rw[aA] at s2
   rw[e,formed (by omega) (by omega) _ rfl]
   obtain⟨f1,f2⟩:=Ab (n := -n.val) (by omega) (Nat.gcd (-n.val).natAbs (-d.val).natAbs) (Nat.gcd_dvd_left _ _)
   have AW:((Nat.gcd (-n.val).natAbs (-d.val).natAbs:Nat):Int)≠0:=by
    have:=Nat.gcd_pos_of_pos_left (-d.val).natAbs (show 0<(-n.val).natAbs by omega)
    omega
   rw[f1,show(Sym.whole (-n.val/((Nat.gcd (-n.val).natAbs (-d.val).natAbs:Nat):Int))).ct=(Sym.whole (((-n.val).natAbs:Int)/((Nat.gcd (-n.val).natAbs (-d.val).natAbs:Nat):Int))).ct from by unfold Sym.whole;rw[f2]]
   generalize hG:((Nat.gcd (-n.val).natAbs (-d.val).natAbs:Nat):Int)=G at *
   have dd:=bN.Div (Sym.whole (-d.val)) (Sym.whole G) l2 yn (by rw[aA];exact AW)
   rw[aA,aA] at dd
   by_cases hs : -n.val<0
   ·have n2:=bN.Neg _ l1
    rw[aA] at n2
    have dn:=bN.Div (Sym.whole (- -n.val)) (Sym.whole G) (by show wl _≤_;rw[gF,gF];omega) yn (by rw[aA];exact AW)
    rw[aA,aA] at dn
    rw[show ((-n.val).natAbs:Int) = - -n.val from by omega]
    have:=iy.e1 n d _ _ _ _ _ _ _ _ _ none _ _ none sn Eh sd (by unfold nZ dC;rw[if_pos rP];omega) n1 d1 g s2 (by unfold nZ dC;rw[if_pos hs];omega) n2 dn dd
    rw[show decide (nZ (-n.val)<0)=decide (-n.val<0) from by unfold nZ dC;rw[if_pos hs,decide_eq_true hs];rfl] at this
    exact this
   ·have dn:=bN.Div (Sym.whole (-n.val)) (Sym.whole G) l1 yn (by rw[aA];exact AW)
    rw[aA,aA] at dn
    rw[show ((-n.val).natAbs:Int) = -n.val from by omega]
    have PG:nZ (-n.val)=1:=by unfold nZ dC;rw[if_neg hs,if_neg (by omega)]
    have:=iy.e2 n d _ _ _ _ _ _ _ _ none _ _ none sn Eh sd (by unfold nZ dC;rw[if_pos rP];omega) n1 d1 g s2 (by rw[PG];omega) dn dd
    rw[show decide (nZ (-n.val)<0)=decide (-n.val<0) from by rw[PG,decide_eq_false hs];rfl] at this
    exact this
  ·have g:=bN.Gcd _ _ hn hd
   have yn:=wL (a:=n.val) (b:=d.val) (k:=1099511627776) (by omega) (by omega)
   rw[formed hz (by omega) _ rfl]
   obtain⟨f1,f2⟩:=Ab hz (Nat.gcd n.val.natAbs d.val.natAbs) (Nat.gcd_dvd_left _ _)
   have AW:((Nat.gcd n.val.natAbs d.val.natAbs:Nat):Int)≠0:=by
    have:=Nat.gcd_pos_of_pos_left d.val.natAbs (show 0<n.val.natAbs by omega)
    omega
   rw[f1,show(Sym.whole (n.val/((Nat.gcd n.val.natAbs d.val.natAbs:Nat):Int))).ct=(Sym.whole ((n.val.natAbs:Int)/((Nat.gcd n.val.natAbs d.val.natAbs:Nat):Int))).ct from by unfold Sym.whole;rw[f2]]
   generalize hG:((Nat.gcd n.val.natAbs d.val.natAbs:Nat):Int)=G at *
   have dd:=bN.Div d (Sym.whole G) hd yn (by rw[aA];exact AW)
   rw[aA] at dd
   have S8:0≤nZ d.val:=by unfold nZ dC;rw[if_neg rP];split<;>omega
   by_cases hs:n.val<0
   ·have n2:=bN.Neg _ hn
    have dn:=bN.Div (Sym.whole (-n.val)) (Sym.whole G) (by show wl _≤_;rw[gF];omega) yn (by rw[aA];exact AW)
    rw[aA,aA] at dn
    rw[show (n.val.natAbs:Int) = -n.val from by omega]
    have:=iy.e3 n d _ _ _ _ _ _ _ none _ _ none sn Eh sd S8 g sn (by unfold nZ dC;rw[if_pos hs];omega) n2 dn dd
    rw[show decide (nZ n.val<0)=decide (n.val<0) from by unfold nZ dC;rw[if_pos hs,decide_eq_true hs];rfl] at this
    exact this
   ·have dn:=bN.Div n (Sym.whole G) hn yn (by rw[aA];exact AW)
    rw[aA] at dn
    rw[show (n.val.natAbs:Int)=n.val from by omega]
    have PG:nZ n.val=1:=by unfold nZ dC;rw[if_neg hs,if_neg (by omega)]
    have:=iy.e4 n d _ _ _ _ _ _ none _ _ none sn Eh sd S8 g sn (by rw[PG];omega) dn dd
    rw[show decide (nZ n.val<0)=decide (n.val<0) from by rw[PG,decide_eq_false hs];rfl] at this
    exact this
theorem tA(n d:Int)(hn:wl n≤1099511627776)(hd:wl d≤1099511627776)(h0:d≠0):Cp 113 [(Sym.whole n).pv,(Sym.whole d).pv] (aN (Rat.divInt n d)).pv:=by
 have:=form (Sym.whole n) (Sym.whole d) hn hd (by rw[aA];exact h0)
 rwa[aA,aA] at this
theorem KO(n d:au)(hn:n.ct.length≤1099511627776)(hd:d.ct.length≤1099511627776)(h0:d.val≠0):Cp 90 [n.pv,d.pv] (.aE [(aN (Rat.divInt n.val d.val)).pv,.az]) :=
 tz.e1 n d _ _ (bN.Sign d hd) (by unfold nZ dC;split<;>(try split)<;>omega) (form n d hn hd h0)
theorem Of(n:Int)(h:ax n):Cp 46 [vI n] (aN (n:Rat)).pv:=by
 have hw:wl n≤2:=pF (by unfold ax at h;omega)
 have:=tA n 1 (by omega) (by decide) (by omega)
 rw[show Rat.divInt n 1=(n:Rat) from by rw[Rat.divInt_eq_div];grind] at this
 exact xA.e0 n _ _ _ (bN.Of n h) one this
theorem Neg(a:af)(h:kq a):Cp 87 [a.pv] (aN (-a.val)).pv:=by
 have hp:=jC a h
 have hh:=dD h.1 h.2 (by omega)
 have h1:=dV a.val
 have h2:=eL a.val
 have hn:=bN.Neg (Sym.whole a.val.num) (show wl _≤_ by omega)
 rw[aA] at hn
 have hf:=tA (-a.val.num) a.val.den (by rw[gF];omega) (by omega) (by have:=a.val.den_nz;omega)
 rw[←Rat.neg_divInt,Rat.num_divInt_den] at hf
 exact vh.e0 a _ _ _ _ hp hn hf
theorem Sign(a:af)(h:kq a):Cp 33 [a.pv] (vI (fJ a.val 0)):=by
 have hp:=jC a h
 have hh:=dD h.1 h.2 (by omega)
 have h1:=dV a.val
 have hs:=bN.Sign (Sym.whole a.val.num) (show wl _≤_ by omega)
 rw[aA,wK] at hs
 exact tx.e0 a _ _ _ hp hs
theorem Add(a b:af)(ha:kq a)(hb:kq b):Cp 91 [a.pv,b.pv] (aN (a.val+b.val)).pv:=by
 have pa:=jC a ha
 have pb:=jC b hb
 have la:=dD ha.1 ha.2 (by omega)
 have lb:=dD hb.1 hb.2 (by omega)
 have h1:=dV a.val
 have h2:=eL a.val
 have h3:=dV b.val
 have h4:=eL b.val
 have m1:=bN.Mul (Sym.whole a.val.num) (Sym.whole (b.val.den:Int)) (show wl _≤_ by omega) (show wl _≤_ by omega)
 have m2:=bN.Mul (Sym.whole b.val.num) (Sym.whole (a.val.den:Int)) (show wl _≤_ by omega) (show wl _≤_ by omega)
 have m3:=bN.Mul (Sym.whole (a.val.den:Int)) (Sym.whole (b.val.den:Int)) (show wl _≤_ by omega) (show wl _≤_ by omega)
 rw[aA,aA] at m1 m2 m3
 have w1:=dH a.val.num b.val.den
 have w2:=dH b.val.num a.val.den
 have w3:=dH (a.val.den:Int) b.val.den
 have s:=bN.Add (Sym.whole (a.val.num*b.val.den)) (Sym.whole (b.val.num*a.val.den)) (show wl _≤_ by omega) (show wl _≤_ by omega)
 rw[aA,aA] at s
 have w4:=z7 (a.val.num*b.val.den) (b.val.num*a.val.den)
 have hf:=tA (a.val.num*b.val.den+b.val.num*a.val.den) ((a.val.den:Int)*(b.val.den:Int)) (by omega) (by omega) (by
  have:=a.val.den_nz
  have:=b.val.den_nz
  exact Int.mul_ne_zero (by omega) (by omega))
 rw[←Int.natCast_mul,Rat.divInt_ofNat,←Rat.add_def',Int.natCast_mul] at hf
 exact vi.e0 a b _ _ _ _ _ _ _ _ _ pa pb m1 m2 s m3 hf
theorem Sub(a b:af)(ha:kq a)(hb:kq b):Cp 32 [a.pv,b.pv] (aN (a.val-b.val)).pv:=by
 have hn:=Neg b hb
 have lb:=dD hb.1 hb.2 (by omega)
 have hs:=Add a (aN (-b.val)) ha (gY (by rw[uk];exact lb))
 rw[bB,←Rat.sub_eq_add_neg] at hs
 exact vf.e0 a b _ _ hn hs
theorem Mul(a b:af)(ha:kq a)(hb:kq b):Cp 198 [a.pv,b.pv] (aN (a.val*b.val)).pv:=by
 have pa:=jC a ha
 have pb:=jC b hb
 have la:=dD ha.1 ha.2 (by omega)
 have lb:=dD hb.1 hb.2 (by omega)
 have h1:=dV a.val
 have h2:=eL a.val
 have h3:=dV b.val
 have h4:=eL b.val
 have m1:=bN.Mul (Sym.whole a.val.num) (Sym.whole b.val.num) (show wl _≤_ by omega) (show wl _≤_ by omega)
 have m3:=bN.Mul (Sym.whole (a.val.den:Int)) (Sym.whole (b.val.den:Int)) (show wl _≤_ by omega) (show wl _≤_ by omega)
 rw[aA,aA] at m1 m3
 have w1:=dH a.val.num b.val.num
 have w3:=dH (a.val.den:Int) b.val.den
 have hf:=tA (a.val.num*b.val.num) ((a.val.den:Int)*(b.val.den:Int)) (by omega) (by omega) (by
  have:=a.val.den_nz
  have:=b.val.den_nz
  exact Int.mul_ne_zero (by omega) (by omega))
 rw[←Int.natCast_mul,Rat.divInt_ofNat,←Rat.mul_def',Int.natCast_mul] at hf
 exact vk.e0 a b _ _ _ _ _ _ _ pa pb m1 m3 hf
theorem Div(a b:af)(ha:kq a)(hb:kq b)(h0:b.val≠0):Cp 234 [a.pv,b.pv] (.aE [(aN (a.val/b.val)).pv,.az]):=by
 have pa:=jC a ha
 have pb:=jC b hb
 have la:=dD ha.1 ha.2 (by omega)
 have lb:=dD hb.1 hb.2 (by omega)
 have h1:=dV a.val
 have h2:=eL a.val
 have h3:=dV b.val
 have h4:=eL b.val
 have m1:=bN.Mul (Sym.whole a.val.num) (Sym.whole (b.val.den:Int)) (show wl _≤_ by omega) (show wl _≤_ by omega)
 have m3:=bN.Mul (Sym.whole (a.val.den:Int)) (Sym.whole b.val.num) (show wl _≤_ by omega) (show wl _≤_ by omega)
 rw[aA,aA] at m1 m3
 have w1:=dH a.val.num b.val.den
 have w3:=dH (a.val.den:Int) b.val.num
 have hf:=KO (Sym.whole (a.val.num*b.val.den)) (Sym.whole ((a.val.den:Int)*b.val.num)) (show wl _≤_ by omega) (show wl _≤_ by omega) (by
  rw[aA]
  have:=a.val.den_nz
  refine Int.mul_ne_zero (by omega) (fun e=>h0 (Rat.num_eq_zero.1 e)))
 rw[aA,aA,←Rat.divInt_mul_divInt,Rat.num_divInt_den,←Rat.inv_def,←Rat.div_def] at hf
 exact vl.e0 a b _ _ _ _ _ _ _ none pa pb m1 m3 hf
theorem R7(a:af)(h:kq a):Cp 218 [a.pv] (Sym.whole a.val.floor).pv:=by
 have hp:=jC a h
 have hh:=dD h.1 h.2 (by omega)
 have h1:=dV a.val
 have h2:=eL a.val
 have hd:=bN.Div (Sym.whole a.val.num) (Sym.whole (a.val.den:Int)) (show wl _≤_ by omega) (show wl _≤_ by omega) (by rw[aA];have:=a.val.den_nz;omega)
 rw[aA,aA,←Rat.floor_def] at hd
 exact rN.e0 a _ _ _ _ none hp hd
theorem rb(a b:af)(ha:kq a)(hb:kq b):Cp 34 [a.pv,b.pv] (vI (fJ a.val b.val)):=by
 have pa:=jC a ha
 have pb:=jC b hb
 have la:=dD ha.1 ha.2 (by omega)
 have lb:=dD hb.1 hb.2 (by omega)
 have h1:=dV a.val
 have h2:=eL a.val
 have h3:=dV b.val
 have h4:=eL b.val
 have m1:=bN.Mul (Sym.whole a.val.num) (Sym.whole (b.val.den:Int)) (show wl _≤_ by omega) (show wl _≤_ by omega)
 have m2:=bN.Mul (Sym.whole b.val.num) (Sym.whole (a.val.den:Int)) (show wl _≤_ by omega) (show wl _≤_ by omega)
 rw[aA,aA] at m1 m2
 have w1:=dH a.val.num b.val.den
 have w2:=dH b.val.num a.val.den
 have hc:=bN.rb (Sym.whole (a.val.num*b.val.den)) (Sym.whole (b.val.num*a.val.den)) (show wl _≤_ by omega) (show wl _≤_ by omega)
 rw[aA,aA,KN] at hc
 exact vg.e0 a b _ _ _ _ _ _ _ pa pb m1 m2 hc
end rO
end Go.Proofs.YtllmkadmohkbfaaGreatDoor.Sym
namespace Go.Proofs.YtllmkadmohkbfaaGreatDoor.Sym
open Go Path bN
set_option linter.unusedVariables false
namespace Ad
theorem one:Cp 172 [] (Sym.whole 1).pv:=oH.e0 _ (uD.Of 1 (by unfold ax;omega))
theorem plain(m:Words)(h:m.length≤274877906944):Cp 189 [aa m] (vB (!m.isEmpty&&cn m)):=by
 rw[db]
 by_cases h0:m.length=0
 ·rw[decide_eq_true h0,Bool.not_true,Bool.false_and]
  exact jJ.e1 m (by omega)
 ·rw[decide_eq_false h0,Bool.not_false,Bool.true_and]
  obtain⟨v,hv⟩:∃v,m[m.length-1]? = some v:=⟨_,List.getElem?_eq_getElem (by omega)⟩
  have:=jJ.e0 m (m.length-1) v (by omega) (by unfold ax;omega) (by omega) hv
  have e:cn m=((v.toNat:Int) != 0):=by
   have h1:=l6 hv
   by_cases h2:v.toNat=0
   ·have h3:((v.toNat:Int) != 0)=false:=by simp[h2]
    rw[h3]
    cases hc:cn m with
    |true=>exact absurd h2 (h1.1 hc)
    |false=>rfl
   ·have h3:((v.toNat:Int) != 0)=true:=by simp;omega
    rw[h3];exact h1.2 h2
  rw[e];exact this
theorem KP{m:Words}(h:m.length≤274877906944)(h0:m.length≠0):Cp 189 [aa m] (vB (cn m)):=by
 have:=plain m h
 rwa[db,decide_eq_false h0,Bool.not_false,Bool.true_and] at this
theorem KQ{m:Words}(h0:m.length=0):Cp 189 [aa m] (vB false):=by
 have:=plain m (by omega)
 rwa[db,decide_eq_true h0,Bool.not_true,Bool.false_and] at this
theorem Valid(a:af)(h:kq a):Cp 111 [a.pv] (vB a.valid):=by
 obtain⟨l1,l2⟩:=h
 by_cases h1:a.num.length=0
 ·by_cases h2:a.den.length=0
  ·rw[EN h1 h2];exact cN.e0 a h1 h2
  ·rw[EO h1 h2];exact cN.e3 a _ h1 h2 (KQ h1) rfl
 ·have p1:=KP l1 h1
  by_cases h2:a.den.length=0
  ·rw[EP h1 h2]
   cases Ac:cn a.num with
   |false=>exact cN.e6 a _ h1 p1 Ac
   |true=>exact cN.e5 a _ _ h1 p1 Ac (KQ h2) rfl
  ·have p2:=KP l2 h2
   rw[ER h1 h2]
   cases Ac:cn a.num with
   |false=>rw[Bool.false_and];exact cN.e6 a _ h1 p1 Ac
   |true =>
    rw[Bool.true_and]
    cases AV:cn a.den with
    |false=>rw[Bool.false_and];exact cN.e5 a _ _ h1 p1 Ac p2 AV
    |true =>
     have hg:=uD.Gcd ⟨false,a.num⟩ ⟨false,a.den⟩ (show a.num.length≤_ by omega) (show a.den.length≤_ by omega)
     rw[vm h1 Ac,vm h2 AV,Int.natAbs_natCast,Int.natAbs_natCast] at hg
     have gl:=wL (a:=(nat a.num:Int)) (b:=(nat a.den:Int)) (k:=274877906944) (by show(words _).length≤_;rw[Int.natAbs_natCast,et Ac];exact l1) (by show(words _).length≤_;rw[Int.natAbs_natCast,et AV];exact l2)
     rw[Int.natAbs_natCast,Int.natAbs_natCast] at gl
     have hc:=uD.rb (Sym.whole (Nat.gcd (nat a.num) (nat a.den):Nat)) (Sym.whole 1) (show wl _<_ by omega) (show wl 1<_ by decide)
     rw[aA,aA] at hc
     rw[Bool.true_and,←HD]
     exact cN.e4 a _ _ _ _ _ h1 p1 Ac p2 AV hg one hc
theorem jC(a:af)(h:kq a):Cp 144 [a.pv] (.aE [(Sym.whole a.val.num).pv,(Sym.whole (a.val.den:Int)).pv]):=by
 have hv:=Valid a h
 cases hc:a.valid with
 |false=>rw[C7 hc];exact gu.e0 a _ _ hv hc one
 |true =>
  by_cases h0:a.num.length=0
  ·rw[sJ (List.eq_nil_of_length_eq_zero h0)];exact gu.e1 a _ _ hv hc h0 one
  ·obtain⟨e1,e2⟩:=ES hc h0
   rw[e1,e2]
   exact gu.e2 a _ hv hc h0
theorem form(n d:au)(hn:n.ct.length≤1099511627776)(hd:d.ct.length≤1099511627776)(h0:d.val≠0):Cp 145 [n.pv,d.pv] (aN (Rat.divInt n.val d.val)).pv:=by
 have sn:=uD.Sign n hn
 have sd:=uD.Sign d hd
 have wn:=a8 n
 have Yb:=a8 d
 by_cases hz:n.val=0
 ·rw[hz,Rat.zero_divInt]
  exact gZ.e0 n d _ sn (by rw[hz];rfl)
 ·have Eh:nZ n.val≠0:=by unfold nZ dC;split<;>(try split)<;>omega
  by_cases rP:d.val<0
  ·have e:Rat.divInt n.val d.val=Rat.divInt (-n.val) (-d.val):=by rw[Rat.divInt_neg',Int.neg_neg]
   have n1:=uD.Neg n hn
   have d1:=uD.Neg d hd
   have l1:(Sym.whole (-n.val)).ct.length≤1099511627776:=by show wl _≤_;rw[gF];omega
   have l2:(Sym.whole (-d.val)).ct.length≤1099511627776:=by show wl _≤_;rw[gF];omega
   have g:=uD.Gcd _ _ l1 l2
   rw[aA,aA] at g
   have yn:=wL (a := -n.val) (b := -d.val) (k:=1099511627776) (by rw[gF];omega) (by rw[gF];omega)
   rw[e,formed (by omega) (by omega) _ rfl]
   have AW:((Nat.gcd (-n.val).natAbs (-d.val).natAbs:Nat):Int)≠0:=by
    have:=Nat.gcd_pos_of_pos_left (-d.val).natAbs (show 0<(-n.val).natAbs by omega)
    omega
   generalize hG:((Nat.gcd (-n.val).natAbs (-d.val).natAbs:Nat):Int)=G at *
   have dd:=uD.Div (Sym.whole (-d.val)) (Sym.whole G) l2 yn (by rw[aA];exact AW)
   have dn:=uD.Div (Sym.whole (-n.val)) (Sym.whole G) l1 yn (by rw[aA];exact AW)
   rw[aA,aA] at dd dn
   exact gZ.e1 n d _ _ _ _ _ _ _ _ _ _ _ sn Eh sd (by unfold nZ dC;rw[if_pos rP];omega) n1 d1 g dn dd
  ·have g:=uD.Gcd _ _ hn hd
   have yn:=wL (a:=n.val) (b:=d.val) (k:=1099511627776) (by omega) (by omega)
   rw[formed hz (by omega) _ rfl]
   have AW:((Nat.gcd n.val.natAbs d.val.natAbs:Nat):Int)≠0:=by
    have:=Nat.gcd_pos_of_pos_left d.val.natAbs (show 0<n.val.natAbs by omega)
    omega
   generalize hG:((Nat.gcd n.val.natAbs d.val.natAbs:Nat):Int)=G at *
   have dd:=uD.Div d (Sym.whole G) hd yn (by rw[aA];exact AW)
   have dn:=uD.Div n (Sym.whole G) hn yn (by rw[aA];exact AW)
   rw[aA] at dd dn
   have S8:0≤nZ d.val:=by unfold nZ dC;rw[if_neg rP];split<;>omega
   exact gZ.e2 n d _ _ _ _ _ _ _ _ _ sn Eh sd S8 g dn dd
theorem tA(n d:Int)(hn:wl n≤1099511627776)(hd:wl d≤1099511627776)(h0:d≠0):Cp 145 [(Sym.whole n).pv,(Sym.whole d).pv] (aN (Rat.divInt n d)).pv:=by
 have:=form (Sym.whole n) (Sym.whole d) hn hd (by rw[aA];exact h0)
 rwa[aA,aA] at this
theorem KO(n d:au)(hn:n.ct.length≤1099511627776)(hd:d.ct.length≤1099511627776)(h0:d.val≠0):Cp 224 [n.pv,d.pv] (.aE [(aN (Rat.divInt n.val d.val)).pv,(vI 0)]) :=
 nK.e1 n d _ _ (uD.Sign d hd) (by unfold nZ dC;split<;>(try split)<;>omega) (form n d hn hd h0)
theorem Of(n:Int)(h:ax n):Cp 89 [vI n] (aN (n:Rat)).pv:=by
 have hw:wl n≤2:=pF (by unfold ax at h;omega)
 have:=tA n 1 (by omega) (by decide) (by omega)
 rw[show Rat.divInt n 1=(n:Rat) from by rw[Rat.divInt_eq_div];grind] at this
 exact pH.e0 n _ _ _ (uD.Of n h) one this
theorem Neg(a:af)(h:kq a):Cp 88 [a.pv] (aN (-a.val)).pv:=by
 have hp:=jC a h
 have hh:=dD h.1 h.2 (by omega)
 have h1:=dV a.val
 have h2:=eL a.val
 have hn:=uD.Neg (Sym.whole a.val.num) (show wl _≤_ by omega)
 rw[aA] at hn
 have hf:=tA (-a.val.num) a.val.den (by rw[gF];omega) (by omega) (by have:=a.val.den_nz;omega)
 rw[←Rat.neg_divInt,Rat.num_divInt_den] at hf
 exact oE.e0 a _ _ _ _ hp hn hf
theorem Sign(a:af)(h:kq a):Cp 124 [a.pv] (vI (fJ a.val 0)):=by
 have hp:=jC a h
 have hh:=dD h.1 h.2 (by omega)
 have h1:=dV a.val
 have hs:=uD.Sign (Sym.whole a.val.num) (show wl _≤_ by omega)
 rw[aA,wK] at hs
 exact nJ.e0 a _ _ _ hp hs
theorem Add(a b:af)(ha:kq a)(hb:kq b):Cp 70 [a.pv,b.pv] (aN (a.val+b.val)).pv:=by
 have pa:=jC a ha
 have pb:=jC b hb
 have la:=dD ha.1 ha.2 (by omega)
 have lb:=dD hb.1 hb.2 (by omega)
 have h1:=dV a.val
 have h2:=eL a.val
 have h3:=dV b.val
 have h4:=eL b.val
 have m1:=uD.Mul (Sym.whole a.val.num) (Sym.whole (b.val.den:Int)) (show wl _≤_ by omega) (show wl _≤_ by omega)
 have m2:=uD.Mul (Sym.whole b.val.num) (Sym.whole (a.val.den:Int)) (show wl _≤_ by omega) (show wl _≤_ by omega)
 have m3:=uD.Mul (Sym.whole (a.val.den:Int)) (Sym.whole (b.val.den:Int)) (show wl _≤_ by omega) (show wl _≤_ by omega)
 rw[aA,aA] at m1 m2 m3
 have w1:=dH a.val.num b.val.den
 have w2:=dH b.val.num a.val.den
 have w3:=dH (a.val.den:Int) b.val.den
 have s:=uD.Add (Sym.whole (a.val.num*b.val.den)) (Sym.whole (b.val.num*a.val.den)) (show wl _≤_ by omega) (show wl _≤_ by omega)
 rw[aA,aA] at s
 have w4:=z7 (a.val.num*b.val.den) (b.val.num*a.val.den)
 have hf:=tA (a.val.num*b.val.den+b.val.num*a.val.den) ((a.val.den:Int)*(b.val.den:Int)) (by omega) (by omega) (by
  have:=a.val.den_nz
  have:=b.val.den_nz
  exact Int.mul_ne_zero (by omega) (by omega))
 rw[←Int.natCast_mul,Rat.divInt_ofNat,←Rat.add_def',Int.natCast_mul] at hf
 exact oD.e0 a b _ _ _ _ _ _ _ _ _ pa pb m1 m2 s m3 hf
theorem Sub(a b:af)(ha:kq a)(hb:kq b):Cp 143 [a.pv,b.pv] (aN (a.val-b.val)).pv:=by
 have hn:=Neg b hb
 have lb:=dD hb.1 hb.2 (by omega)
 have hs:=Add a (aN (-b.val)) ha (gY (by rw[uk];exact lb))
 rw[bB,←Rat.sub_eq_add_neg] at hs
 exact oF.e0 a b _ _ hn hs
theorem Mul(a b:af)(ha:kq a)(hb:kq b):Cp 245 [a.pv,b.pv] (aN (a.val*b.val)).pv:=by
 have pa:=jC a ha
 have pb:=jC b hb
 have la:=dD ha.1 ha.2 (by omega)
 have lb:=dD hb.1 hb.2 (by omega)
 have h1:=dV a.val
 have h2:=eL a.val
 have h3:=dV b.val
 have h4:=eL b.val
 have m1:=uD.Mul (Sym.whole a.val.num) (Sym.whole b.val.num) (show wl _≤_ by omega) (show wl _≤_ by omega)
 have m3:=uD.Mul (Sym.whole (a.val.den:Int)) (Sym.whole (b.val.den:Int)) (show wl _≤_ by omega) (show wl _≤_ by omega)
 rw[aA,aA] at m1 m3
 have w1:=dH a.val.num b.val.num
 have w3:=dH (a.val.den:Int) b.val.den
 have hf:=tA (a.val.num*b.val.num) ((a.val.den:Int)*(b.val.den:Int)) (by omega) (by omega) (by
  have:=a.val.den_nz
  have:=b.val.den_nz
  exact Int.mul_ne_zero (by omega) (by omega))
 rw[←Int.natCast_mul,Rat.divInt_ofNat,←Rat.mul_def',Int.natCast_mul] at hf
 exact oI.e0 a b _ _ _ _ _ _ _ pa pb m1 m3 hf
theorem Div(a b:af)(ha:kq a)(hb:kq b)(h0:b.val≠0):Cp 148 [a.pv,b.pv] (.aE [(aN (a.val/b.val)).pv,(vI 0)]):=by
 have pa:=jC a ha
 have pb:=jC b hb
 have la:=dD ha.1 ha.2 (by omega)
 have lb:=dD hb.1 hb.2 (by omega)
 have h1:=dV a.val
 have h2:=eL a.val
 have h3:=dV b.val
 have h4:=eL b.val
 have m1:=uD.Mul (Sym.whole a.val.num) (Sym.whole (b.val.den:Int)) (show wl _≤_ by omega) (show wl _≤_ by omega)
 have m3:=uD.Mul (Sym.whole (a.val.den:Int)) (Sym.whole b.val.num) (show wl _≤_ by omega) (show wl _≤_ by omega)
 rw[aA,aA] at m1 m3
 have w1:=dH a.val.num b.val.den
 have w3:=dH (a.val.den:Int) b.val.num
 have hf:=KO (Sym.whole (a.val.num*b.val.den)) (Sym.whole ((a.val.den:Int)*b.val.num)) (show wl _≤_ by omega) (show wl _≤_ by omega) (by
  rw[aA]
  have:=a.val.den_nz
  refine Int.mul_ne_zero (by omega) (fun e=>h0 (Rat.num_eq_zero.1 e)))
 rw[aA,aA,←Rat.divInt_mul_divInt,Rat.num_divInt_den,←Rat.inv_def,←Rat.div_def] at hf
 exact oG.e0 a b _ _ _ _ _ _ _ 0 pa pb m1 m3 hf
theorem rb(a b:af)(ha:a.num.length≤68719476736∧a.den.length≤68719476736)(hb:b.num.length≤68719476736∧b.den.length≤68719476736):Cp 69 [a.pv,b.pv] (vI (fJ a.val b.val)):=by
 have la:=dD ha.1 ha.2 (by omega)
 have lb:=dD hb.1 hb.2 (by omega)
 have hs:=Sub a b ⟨by omega,by omega⟩ ⟨by omega,by omega⟩
 have hl:=C8 a.val b.val
 have hg:=Sign (aN (a.val-b.val)) (gY (by omega))
 rw[bB,←wK,EM] at hg
 exact oC.e0 a b _ _ hs hg
end Ad
end Go.Proofs.YtllmkadmohkbfaaGreatDoor.Sym
namespace Go.Proofs.YtllmkadmohkbfaaGreatDoor.Sym
open Go Path bN
set_option linter.unusedVariables false
def bj(p:List af):List Rat:=p.map af.val
abbrev kr(k:Nat)(p:List af):Prop:=∀a∈p,a.num.length≤k∧a.den.length≤k
abbrev Fl(k:Nat)(q:List Rat):Prop:=∀x∈q,ht x≤k
def aJ:List Rat→List Rat
 |[]=>[]
 |a::r=>bif (aJ r).isEmpty&&decide (a=0) then [] else a::aJ r
theorem qA:∀q:List Rat,aJ (q++[0])=aJ q
 |[]=>rfl
 |a::r=>by
  show(bif (aJ (r++[0])).isEmpty&&decide (a=0) then [] else a::aJ (r++[0]))=_
  rw[qA r];rfl
theorem vn{v:Rat}(h:v≠0):∀{q:List Rat},aJ (q++[v])=q++[v]
 |[]=>by
  show(bif (aJ []).isEmpty&&decide (v=0) then [] else v::aJ [])=[v]
  rw[decide_eq_false h,Bool.and_false];rfl
 |a::r=>by
  show(bif (aJ (r++[v])).isEmpty&&decide (a=0) then [] else a::aJ (r++[v]))=_
  rw[vn h]
  cases r<;>rfl
theorem Db{α:Type}{q:List α}{n:Nat}{v:α}(h:q[n]? = some v)(hl:q.length=n+1):q=q.take n++[v]:=by
 have:=List.take_add_one (l:=q) (i:=n)
 rw[h,List.take_of_length_le (by omega)] at this
 exact this
theorem qB{k:Nat}{p:List af}(h:kr k p)(hk:1≤k):Fl k (bj p):=by
 intro x hx
 unfold bj at hx
 obtain⟨a,ha,rfl⟩:=List.mem_map.1 hx
 exact dD (h a ha).1 (h a ha).2 hk
theorem Dc{q:List Rat}(h:Fl 274877906944 q):kr 274877906944 (q.map aN):=by
 intro a ha
 obtain⟨x,hx,rfl⟩:=List.mem_map.1 ha
 exact gY (h x hx)
theorem bk{q:Rat}{k:Nat}(h:ht q≤k):(aN q).num.length≤k∧(aN q).den.length≤k:=by
 by_cases h0:q=0
 ·subst h0;constructor<;>simp[pG]
 ·rw[qy h0]
  exact⟨Nat.le_trans (dV q) h,Nat.le_trans (eL q) h⟩
theorem fW{q:List Rat}{k:Nat}(h:Fl k q):kr k (q.map aN):=by
 intro a ha
 obtain⟨x,hx,rfl⟩:=List.mem_map.1 ha
 exact bk (h x hx)
theorem dN(q:List Rat):bj (q.map aN)=q:=by
 unfold bj
 rw[List.map_map]
 conv=>rhs;rw[←List.map_id q]
 exact List.map_congr_left (fun x _=>bB x)
theorem HE{p:List af}(h:p.all af.valid=true):(bj p).map aN=p:=by
 unfold bj
 rw[List.map_map]
 conv=>rhs;rw[←List.map_id p]
 exact List.map_congr_left (fun x hx=>wI (List.all_eq_true.1 h x hx))
theorem BS{p:List af}{n:Nat}{v:af}(h:p[n]? = some v):(bj p).drop n=v.val::(bj p).drop (n+1):=by
 obtain⟨h1,h2⟩:=List.getElem?_eq_some_iff.1 h
 unfold bj
 rw[List.drop_eq_getElem_cons (by simpa using h1),List.getElem_map,h2]
def aK(q:List Rat):Bool:=match q.getLast? with
 |none=>false
 |some v=>decide (v=0)
theorem Ae{p:List af}(h:aK (bj p)=true):∃v,0<p.length∧p[p.length-1]? = some v∧v.val=0:=by
 unfold aK bj at h
 rw[List.getLast?_map,List.getLast?_eq_getElem?] at h
 cases hv:p[p.length-1]? with
 |none=>rw[hv] at h;cases h
 |some v =>
  rw[hv] at h
  have h:decide (v.val=0)=true:=h
  exact⟨v,by have:=(List.getElem?_eq_some_iff.1 hv).1;omega,rfl,of_decide_eq_true h⟩
theorem xC{p:List af}(h:aK (bj p)=false)(h0:p.length≠0):∃v,p[p.length-1]? = some v∧v.val≠0:=by
 unfold aK bj at h
 rw[List.getLast?_map,List.getLast?_eq_getElem?] at h
 obtain⟨v,hv⟩:∃v,p[p.length-1]? = some v:=⟨_,List.getElem?_eq_getElem (by omega)⟩
 rw[hv] at h
 have h:decide (v.val=0)=false:=h
 exact⟨v,hv,of_decide_eq_false h⟩
def oJ(p:List af):Int:=if 65<p.length then 4 else bif p.all af.valid then (bif aK (bj p) then 8 else 0) else 2
def ET(n:Int):Option Int:=if n=0 then none else some n
theorem rQ{n:Int}(h:n≠0):ET n=some n:=if_neg h
theorem Dd{p:List af}(h:oJ p=0):p.length≤65:=by
 unfold oJ at h
 split at h
 ·cases h
 ·omega
theorem BT{p:List af}(h:oJ p=0):p.all af.valid=true:=by
 unfold oJ at h
 split at h
 ·cases h
 ·cases hv:p.all af.valid with
  |true=>rfl
  |false=>rw[hv] at h;cases h
theorem KR{p:List af}(h:oJ p=0):aK (bj p)=false:=by
 unfold oJ at h
 split at h
 ·cases h
 ·cases hv:p.all af.valid with
  |false=>rw[hv] at h;cases h
  |true =>
   rw[hv] at h
   cases hz:aK (bj p) with
   |false=>rfl
   |true=>rw[hz] at h;cases h
def evalL:List Rat→Rat→Rat
 |[],_=>0
 |a::r,x=>evalL r x*x+a
theorem mY(q:List Rat)(x:Rat)(k:Nat)(h:Fl k q)(hx:ht x≤k):ht (evalL q x)≤q.length*(2*k+1)+1:=by
 induction q with
 |nil =>
  have:ht (evalL [] x)=1:=jo
  omega
 |cons a r ih =>
  have h1:=ih (fun y hy=>h y (List.mem_cons_of_mem _ hy))
  have h2:=h a (List.mem_cons_self ..)
  have h3:=ll (evalL r x) x
  have h4:=rM (evalL r x*x) a
  show ht (evalL r x*x+a)≤_
  rw[List.length_cons,Nat.add_mul]
  omega
def fE:Nat→List Rat→List Rat
 |_,[]=>[]
 |i,a::r=>((i:Int):Rat)*a::fE (i+1) r
def ak(q:List Rat):List Rat:=aJ (fE 1 (q.drop 1))
theorem mu:∀(q:List Rat) (i:Nat),(fE i q).length=q.length
 |[],_=>rfl
 |a::r,i=>by rw[fE,List.length_cons,List.length_cons,mu r]
theorem BU:∀(q:List Rat) (i:Nat) (a:Rat),fE i (q++[a])=fE i q++[(((i+q.length:Nat):Int):Rat)*a]
 |[],i,a=>rfl
 |b::r,i,a=>by
  rw[List.cons_append,fE,fE,BU r (i+1) a,List.length_cons,List.cons_append,show i+1+r.length=i+(r.length+1) from by omega]
theorem BV{p:List af}{i:Nat}{v:af}(hv:p[i]? = some v)(h:1≤i):fE 1 (((bj p).take (i+1)).drop 1)=fE 1 (((bj p).take i).drop 1)++[((i:Int):Rat)*v.val]:=by
 have h1:=(List.getElem?_eq_some_iff.1 hv).1
 have hm:(bj p)[i]? = some v.val:=by unfold bj;rw[List.getElem?_map,hv];rfl
 have hl:((bj p).take i).length=i:=by unfold bj;simp;omega
 rw[List.take_add_one,hm,List.drop_append_of_le_length (by omega)]
 show fE 1 (((bj p).take i).drop 1++[v.val])=_
 rw[BU,List.length_drop,hl,show 1+(i-1)=i from by omega]
theorem De{k:Nat}(hk:k+2≤274877906944):∀(q:List Rat) (i:Nat),i+q.length≤18446744073709551615→Fl k q→Fl 274877906944 (fE i q)
 |[],_,_,_=>fun x hx=>by cases hx
 |a::r,i,hi,h=>by
  intro x hx
  rw[List.length_cons] at hi
  rcases List.mem_cons.1 hx with e|hx
  ·rw[e]
   have h1:=ll ((i:Int):Rat) a
   have h2:=h a (List.mem_cons_self ..)
   have h3:ht ((i:Int):Rat)≤2:=by
    rw[wJ]
    have:wl (i:Int)≤2:=pF (by omega)
    omega
   omega
  ·exact De hk r (i+1) (by omega) (fun y hy=>h y (List.mem_cons_of_mem _ hy)) x hx
end Go.Proofs.YtllmkadmohkbfaaGreatDoor.Sym
namespace Go.Proofs.YtllmkadmohkbfaaGreatDoor.Sym.Path
open Go
set_option maxRecDepth 20000
set_option linter.unusedVariables false
namespace BW
theorem e1(p b c d g i:Rs)(h1:Cp 79 [ae p] .az)(h2:p.length≠0)(h3:Cp 155 [ae p] (ae b))(h4:Cp 154 [ae p,ae b] (ae c))(h5:Cp 153 [ae p,ae c] (.aE [ae d,ae g]))(h6:Cp 156 [ae d] (ae i)):Cp 76 [ae p] (.aE [ae i,.az]) :=
 eD Tryz.func76 114 [1,1,1,1,1,1,1] [.q,.h 1 (.pv .az),.q,.a,.h 1 (iI (p.length:Int)),.f,.aV [.o,.o,.o,(.pv (ae b)),(.pv (ae c)),(.pv (.aE [ae d,ae g]))],.h 1 (.pv (ae i))] (y7 h1 (an af.cells p) (aB h2) h3 h4 h5 h6)
end BW
namespace dJ
@[reducible] noncomputable def fn:Func:=Tryz.f79
noncomputable def bf:List eg:=focus [0,2,0,0,2,1,2,0,0,2,0,0] [.code (ay fn)]
def inv1(p:List af)(Gx:Nat):St:=⟨[(0,(.pv (ae p))),(9,(.pv (ae p))),(10,(eI (p.length:Int))),(11,(eI (Gx:Int)))],[]⟩
@[reducible] noncomputable def ah(p:List af)(Gx:Nat)(r:PV):Prop:=L bp fn bf (inv1 p Gx) r
theorem e0(p:Rs)(h1:65<p.length):Cp 79 [ae p] (.iface 67 (vI 4)) :=
 eD Tryz.func79 84 [1,1] [.q,.h 1 (iI (p.length:Int)),.t,.q] (y2 (an af.cells p) (ai h1))
theorem e1(p:Rs){r:PV}(h1:p.length≤65)(hL:ah p 0 r):Cp 79 [ae p] r :=
 eG Tryz.func79 96 [1,1,1] [.q,.h 1 (iI (p.length:Int)),.f,.h 1 (iI (p.length:Int)),.aH [0,9,10,11]] (y3 (an af.cells p) (ar h1) (an af.cells p)) hL
theorem l10(p:Rs)(b:Nat)(v:af)(c:Bool)(h1:b<p.length)(h2:p[b]? = some v)(h3:Cp 164 [v.pv] (vB c))(h4:c=false):ah p b (.iface 67 (vI 2)) :=
 lD 141 [1,3,1,1] [.a,.q,.t,.h 0 (.row b (af.cells v)),.h 1 (.pv (vB c)),.t,.q] (y4 (ai h1) (bO af.cells (Eq.refl (((b:Nat):Int):Int)) h2) h3 (cf h4))
theorem cV(p:Rs)(b:Nat)(v:af)(c:Bool){r:PV}(h1:b<p.length)(h2:p[b]? = some v)(h3:Cp 164 [v.pv] (vB c))(h4:c=true)(h5:(b+1)<9223372036854775808)(hL:ah p (b+1) r):ah p b r :=
 lG 144 [1,3,1,1,1] [.a,.q,.t,.h 0 (.row b (af.cells v)),.h 1 (.pv (vB c)),.f,.h 0 (iI (((b+1):Nat):Int)),.aH [0,9,10,11],.drop [4]] (y5 (ai h1) (bO af.cells (Eq.refl (((b:Nat):Int):Int)) h2) h3 (aU h4) (aL h5)) hL
theorem kI(p:Rs)(b k:Nat)(v:af)(c:Int)(h1:p.length≤b)(h2:0<p.length)(h3:ax ((p.length:Int)-1))(h4:((p.length:Int)-1)=(k:Int))(h5:p[k]? = some v)(h6:Cp 33 [v.pv] (vI c))(h7:c=0):ah p b (.iface 67 (vI 8)) :=
 lD 141 [1,1,1,1,1,1,1,1,1,3,1,1,1,1,1,1] [.a,.q,.f,.aV [.o,(iI (p.length:Int)),.o,.o,.o,.o,(iI (p.length:Int)),(iI ((p.length:Int)-1)),(.row k (af.cells v)),.o,(.pv (vI c)),.o,(.dec true)],.t,.q] (FB (ar h1) (an af.cells p) (ai h2) (ai h2) (ai h2) (an af.cells p) (ai h2) (aW h3) (ai h2) (bO af.cells h4 h5) (ai h2) (ai h2) h6 (ai h2) (ai h2) (aP h7))
theorem ta(p:Rs)(b k:Nat)(v:af)(c:Int)(h1:p.length≤b)(h2:0<p.length)(h3:ax ((p.length:Int)-1))(h4:((p.length:Int)-1)=(k:Int))(h5:p[k]? = some v)(h6:Cp 33 [v.pv] (vI c))(h7:c≠0):ah p b .az :=
 lD 144 [1,1,1,1,1,1,1,1,1,3,1,1,1,1,1,1] [.a,.q,.f,.aV [.o,(iI (p.length:Int)),.o,.o,.o,.o,(iI (p.length:Int)),(iI ((p.length:Int)-1)),(.row k (af.cells v)),.o,(.pv (vI c)),.o,(.dec true)],.f,.q] (FB (ar h1) (an af.cells p) (ai h2) (ai h2) (ai h2) (an af.cells p) (ai h2) (aW h3) (ai h2) (bO af.cells h4 h5) (ai h2) (ai h2) h6 (ai h2) (ai h2) (bW h7))
theorem GB(p:Rs)(b:Nat)(h1:p.length≤b)(h2:p.length≤0):ah p b .az :=
 lD 144 [1,1,1,1,1,1,1,1,1,1,1] [.a,.q,.f,.aV [.o,(iI (p.length:Int)),.o,.o,.skip,.skip,.skip,.skip,.skip,.skip,.skip,.skip,(.dec false)],.a,.q] (BL (ar h1) (an af.cells p) (ar h2) (ar h2) (ar h2) (ar h2) (ar h2) (ar h2) (ar h2) (ar h2) (ar h2))
end dJ
namespace xD
theorem e0(p b:Rs)(h1:Cp 79 [ae p] .az)(h2:Cp 155 [ae p] (ae b)):Cp 80 [ae p] (.aE [ae b,.az]) :=
 eD Tryz.func80 93 [1,1] [.q,.h 1 (.pv .az),.q,.a,.h 1 (.pv (ae b))] (y2 h1 h2)
end xD
namespace EU
theorem e0(p q b:Rs)(h1:Cp 125 [(cT (aC af.cells) [p,q])] .az)(h2:Cp 154 [ae p,ae q] (ae b)):Cp 81 [ae p,ae q] (.aE [ae b,.az]) :=
 eD Tryz.func81 93 [3,1,1] [.q,.aV [.o,.o,(.iL 0 0 (([p,q]:List (Rs)).map (aC af.cells))),(.pv .az)],.q,.a,.h 2 (.pv (ae b))] (y3 (ki (qh af.cells) ([p,q]:List (Rs))) h1 h2)
end EU
namespace iV
@[reducible] noncomputable def fn:Func:=Tryz.f125
noncomputable def bf:List eg:=focus [0,2,0,0,2,0,0] [.code (ay fn)]
def inv1(list:List (List af))(sD:Nat):St:=⟨[(6,(.pv (cT (aC af.cells) list))),(7,(eI (list.length:Int))),(8,(eI (sD:Int)))],[]⟩
@[reducible] noncomputable def ah(list:List (List af))(sD:Nat)(r:PV):Prop:=L bp fn bf (inv1 list sD) r
theorem e0 (a : List (Rs)) {r : PV}  (hL : ah a 0 r) : Cp 125 [(cT (aC af.cells) a)] r :=
 eG Tryz.func125 81 [1] [.q,.h 1 (iI (a.length:Int)),.aH [6,7,8]] (y1 (an (aC af.cells) a)) hL
theorem l10(b:List (Rs))(c:Nat)(v:Rs){r:PV}(h1:c<b.length)(h2:b[c]? = some v)(h3:Cp 79 [ae v] .az)(h4:(c+1)<9223372036854775808)(hL:ah b (c+1) r):ah b c r :=
 lG 135 [1,3,1,1] [.a,.q,.t,.h 0 (.row c ((aC af.cells) v)),.h 1 (.pv .az),.q,.a,.h 0 (iI (((c+1):Nat):Int)),.aH [6,7,8]] (y4 (ai h1) (bO (aC af.cells) (Eq.refl (((c:Nat):Int):Int)) h2) h3 (aL h4)) hL
theorem cV(b:List (Rs))(c:Nat)(v:Rs)(d:Int)(h1:c<b.length)(h2:b[c]? = some v)(h3:Cp 79 [ae v] (.iface 67 (vI d))):ah b c (.iface 67 (vI d)) :=
 lD 132 [1,3,1] [.a,.q,.t,.h 0 (.row c ((aC af.cells) v)),.h 1 (.pv (.iface 67 (vI d))),.q,.a,.q] (y3 (ai h1) (bO (aC af.cells) (Eq.refl (((c:Nat):Int):Int)) h2) h3)
theorem kI(b:List (Rs))(c:Nat)(h1:b.length≤c):ah b c .az :=
 lD 114 [1] [.a,.q,.f,.q] (y1 (ar h1))
end iV
namespace pI
@[reducible] noncomputable def fn:Func:=Tryz.f127
noncomputable def bf:List eg:=focus [0,2,0,2,0,0,2,0,0] [.code (ay fn)]
def inv1(p q:List af)(Gs:Nat)(c:af)(kX:List af):St:=⟨[(0,(.pv (ae p))),(1,(.pv (ae q))),(5,(.ptr 5 0)),(7,(.row 14 0 (max p.length q.length) 3)),(16,(eI (((max p.length q.length):Nat):Int))),(17,(eI (Gs:Int)))],[(5,(.lit [(eB c.neg),(.pv (aa c.num)),(.pv (aa c.den))])),(14,(.pure ((kX:List af).map af.cells).flatten))]⟩
@[reducible] noncomputable def ah(p q:List af)(Gs:Nat)(c:af)(kX:List af)(r:PV):Prop:=L bp fn bf (inv1 p q Gs c kX) r
theorem e0(p q:Rs)(c:af){r:PV}(h1:56*(max p.length q.length)≤140737488355328)(hL:ah p q 0 c (List.replicate (max p.length q.length) (⟨false,[],[]⟩:af)) r):Cp 127 [ae p,ae q,c.pv] r :=
 eG Tryz.func127 87 [1,1,1,5] [.q,.aV [.o,(iI (p.length:Int)),.o,(iI (q.length:Int)),(iI (((max p.length q.length):Nat):Int)),(.app (max p.length q.length) ((List.replicate (max p.length q.length) (⟨false,[],[]⟩:af):Rs).map af.cells).flatten)],.q,.aH [0,1,5,7,16,17],.ord [5,14]] (y4 (an af.cells p) (an af.cells q) (tW p.length q.length) (q9 af.cells (⟨false,[],[]⟩:af) 56 (max p.length q.length) (Eq.refl ((((max p.length q.length):Nat):Int):Int)) h1 rfl)) hL
theorem l10(p q:Rs)(b:Nat)(c:af)(d:Rs)(g i j k:af){r:PV}(h1:b<(max p.length q.length))(h2:Cp 212 [ae p,(vI (b:Int))] g.pv)(h3:Cp 212 [ae q,(vI (b:Int))] i.pv)(h4:Cp 198 [c.pv,i.pv] j.pv)(h5:Cp 91 [g.pv,j.pv] k.pv)(h6:b<d.length)(h7:(b+1)<9223372036854775808)(hL:ah p q (b+1) c (d.set b k) r):ah p q b c d r :=
 lG 126 [1,1,1,1,1,2,2,1] [.a,.q,.t,.q,dr 12 1 [.none,.none,.none,.none,(.pv g.pv),.none,.none,.none,(.pv i.pv),(.pv j.pv),(.pv k.pv),(.nat b),(.cells (.pure (((d.set b k):Rs).map af.cells).flatten))],.h 0 (iI (((b+1):Nat):Int)),.aH [0,1,5,7,16,17]] (y8 (ai h1) h2 h3 h4 h5 (cj (Eq.refl (((b:Nat):Int):Int)) h1) (gm aZ (d:Rs) k h6) (aL h7)) hL
theorem cV(p q:Rs)(b:Nat)(c:af)(d g:Rs)(h1:(max p.length q.length)≤b)(h2:(max p.length q.length)=d.length)(h3:Cp 182 [ae d] (ae g)):ah p q b c d (ae g) :=
 lD 120 [1,3,1] [.a,.q,.f,.fo 7 ((d:Rs).map af.cells),.h 1 (.pv (ae g))] (y3 (ar h1) (cU aZ (d:Rs) h2) h3)
end pI
namespace pJ
@[reducible] noncomputable def fn:Func:=Tryz.f133
noncomputable def bf:List eg:=focus [0,2,0,0,2,0,2,1,2,0,2,0,0,2,0,0] [.code (ay fn)]
def inv1(p:List af)(Gt:Int)(x dS:af):St:=⟨[(0,(.pv (ae p))),(3,(.ptr 3 0)),(4,(.ptr 4 0)),(7,(.ptr 7 0)),(8,(eI Gt))],[(3,(.lit [(eB x.neg),(.pv (aa x.num)),(.pv (aa x.den))])),(4,(.lit [(eB false),(.pv (.list [])),(.pv (.list []))])),(7,(.lit [(eB dS.neg),(.pv (aa dS.num)),(.pv (aa dS.den))]))]⟩
@[reducible] noncomputable def ah(p:List af)(Gt:Int)(x dS:af)(r:PV):Prop:=L bp fn bf (inv1 p Gt x dS) r
theorem e0(p:Rs)(x:af){r:PV}(h1:Cp 79 [ae p] .az)(h2:ax ((p.length:Int)-1))(hL:ah p ((p.length:Int)-1) x (⟨false,[],[]⟩:af) r):Cp 133 [ae p,x.pv] r :=
 eG Tryz.func133 108 [1,1,1] [.q,.h 1 (.pv .az),.q,.a,.q,.aV [.o,(iI (p.length:Int)),(iI ((p.length:Int)-1))],.aH [0,3,4,7,8],.ord [3,4,7]] (y3 h1 (an af.cells p) (aW h2)) hL
theorem l10(p:Rs)(b:Int)(x c d:af)(k:Nat)(v g:af){r:PV}(h1:0≤b)(h2:Cp 198 [c.pv,x.pv] d.pv)(h3:b=(k:Int))(h4:p[k]? = some v)(h5:Cp 91 [d.pv,v.pv] g.pv)(h6:ax (b-1))(hL:ah p (b-1) x g r):ah p b x c r :=
 lG 141 [1,1,3,1,1] [.a,.q,.t,dr 8 1 [.none,.none,(.pv d.pv),.none,.none,(.row k (af.cells v)),.none,(.pv g.pv)],.h 1 (iI (b-1)),.aH [0,3,4,7,8]] (y5 (eH h1) h2 (bO af.cells h3 h4) h5 (aW h6)) hL
theorem cV(p:Rs)(b:Int)(x c:af)(h1:b<0):ah p b x c (.aE [c.pv,.az]) :=
 lD 141 [1] [.a,.q,.f,.q] (y1 (jO h1))
end pJ
namespace gK
@[reducible] noncomputable def fn:Func:=Tryz.f153
noncomputable def bf:List eg:=focus [0,2,0,2,0,2,0,2,0,0,0] [.code (ay fn)]
def inv1(q:List af)(uo m:Nat)(v:af)(gW qC:List af):St:=⟨[(1,(.pv (ae q))),(6,(.row 15 0 uo 3)),(7,(.row 23 0 m 3)),(8,(.ptr 8 0))],[(8,(.lit [(eB v.neg),(.pv (aa v.num)),(.pv (aa v.den))])),(15,(.pure ((gW:List af).map af.cells).flatten)),(23,(.pure ((qC:List af).map af.cells).flatten))]⟩
@[reducible] noncomputable def ah(q:List af)(uo m:Nat)(v:af)(gW qC:List af)(r:PV):Prop:=L bp fn bf (inv1 q uo m v gW qC) r
noncomputable def nD:List eg:=focus [0,2,0,2,0,2,0,2,0,0,0,0,0,0,2,0,2,0,0,2,0,2,0,2,0,0,2,0,0] [.code (ay fn)]
def inv2(q:List af)(uo m:Nat)(Df:Int)(PH:Nat)(v div:af)(gW qC:List af):St:=⟨[(1,(.pv (ae q))),(6,(.row 15 0 uo 3)),(7,(.row 23 0 m 3)),(8,(.ptr 8 0)),(9,(eI Df)),(10,(.ptr 10 0)),(55,(.pv (ae q))),(56,(eI (q.length:Int))),(57,(eI (PH:Int)))],[(8,(.lit [(eB v.neg),(.pv (aa v.num)),(.pv (aa v.den))])),(10,(.lit [(eB div.neg),(.pv (aa div.num)),(.pv (aa div.den))])),(15,(.pure ((gW:List af).map af.cells).flatten)),(23,(.pure ((qC:List af).map af.cells).flatten))]⟩
@[reducible] noncomputable def bA(q:List af)(uo m:Nat)(Df:Int)(PH:Nat)(v div:af)(gW qC:List af)(r:PV):Prop:=L bp fn nD (inv2 q uo m Df PH v div gW qC) r
theorem e0(p q z:Rs)(n m k:Nat)(v:af){r:PV}(h1:av bp 182 [.pv (ae p)] [] (.row 0 0 n 3) [(0,(.pure ((z:Rs).map af.cells).flatten))])(h2:ax ((p.length:Int)-(q.length:Int)))(h3:ax (((p.length:Int)-(q.length:Int))+1))(h4:(max 0 (((p.length:Int)-(q.length:Int))+1))=(m:Int))(h5:56*m≤140737488355328)(h6:ax ((q.length:Int)-1))(h7:((q.length:Int)-1)=(k:Int))(h8:q[k]? = some v)(hL:ah q n m v z (List.replicate m (⟨false,[],[]⟩:af)) r):Cp 153 [ae p,ae q] r :=
 eG Tryz.func153 93 [1,1,1,1,1,1,5,1,1,3] [.q,.h 1 (.bG [] (some (0,15)) (.row 0 0 n 3) [(0,(.pure ((z:Rs).map af.cells).flatten))]),.aV [.o,(iI (p.length:Int)),.o,(iI (q.length:Int)),(iI ((p.length:Int)-(q.length:Int))),(iI (((p.length:Int)-(q.length:Int))+1)),(iI (max 0 (((p.length:Int)-(q.length:Int))+1))),(.app m ((List.replicate m (⟨false,[],[]⟩:af):Rs).map af.cells).flatten)],.aV [.o,.o,(iI (q.length:Int)),(iI ((q.length:Int)-1)),(.row k (af.cells v))],.aH [1,6,7,8],.ord [8,15,23]] (FA h1 (an af.cells p) (an af.cells q) (aW h2) (o0 h3) (Gk 0 (((p.length:Int)-(q.length:Int))+1)) (q9 af.cells (⟨false,[],[]⟩:af) 56 m h4 h5 rfl) (an af.cells q) (aW h6) (bO af.cells h7 h8)) hL
theorem l10(q:Rs)(b m:Nat)(v:af)(c d:Rs)(k:Nat)(v1 g:af)(i:Option Int)(k1:Nat){r:PV}(h1:q.length≤b)(h2:ax ((b:Int)-(q.length:Int)))(h3:ax ((b:Int)-1))(h4:((b:Int)-1)=(k:Int))(h5:k<b)(h6:c[k]? = some v1)(h7:Cp 234 [v1.pv,v.pv] (.aE [g.pv,bc i]))(h8:((b:Int)-(q.length:Int))=(k1:Int))(h9:k1<m)(ec:k1<d.length)(hL:bA q b m ((b:Int)-(q.length:Int)) 0 v g c (d.set k1 g) r):ah q b m v c d r :=
 lG 147 [1,1,1,1,1,2,2,1,2,2,1] [.a,.h 3 (iI (q.length:Int)),.t,.aV [.o,.o,.o,(iI (q.length:Int)),(iI ((b:Int)-(q.length:Int)))],dr 13 1 [.none,.none,.none,(iI ((b:Int)-1)),(.nat k),(.GW [vB v1.neg,aa v1.num,aa v1.den]),.none,(.pv (.aE [g.pv,bc i]))],.aV [.o,.o,.o,(.nat k1),(.cells (.pure (((d.set k1 g):Rs).map af.cells).flatten))],.h 1 (iI (q.length:Int)),.aH [1,6,7,8,9,10,55,56,57],.ord [8,10,15,23]] (BL (an af.cells q) (da h1) (an af.cells q) (aW h2) (aW h3) (cj h4 h5) (rB aZ h6) h7 (cj h8 h9) (gm aZ (d:Rs) g ec) (an af.cells q)) hL
theorem cV(q:Rs)(b m:Nat)(v:af)(c d g:Rs)(h1:b<q.length)(h2:m=d.length)(h3:Cp 182 [ae d] (ae g))(h4:b=c.length):ah q b m v c d (.aE [ae g,ae c]) :=
 lD 126 [1,1,3,1,3] [.a,.h 3 (iI (q.length:Int)),.f,.fo 7 ((d:Rs).map af.cells),.h 1 (.pv (ae g)),.fo 5 ((c:Rs).map af.cells)] (y5 (an af.cells q) (bH h1) (cU aZ (d:Rs) h2) h3 (cU aZ (c:Rs) h4))
theorem yj(q:Rs)(b m:Nat)(c:Int)(d:Nat)(v g:af)(i j:Rs)(v1:af)(k:Nat)(v2 l n:af)(k1:Nat){r:PV}(h1:d<q.length)(h2:q[d]? = some v1)(h3:ax (c+(d:Int)))(h4:(c+(d:Int))=(k:Int))(h5:k<b)(h6:i[k]? = some v2)(h7:Cp 198 [g.pv,v1.pv] l.pv)(h8:Cp 32 [v2.pv,l.pv] n.pv)(h9:(c+(d:Int))=(k1:Int))(ec:k1<b)(il:k1<i.length)(mF:(d+1)<9223372036854775808)(hL:bA q b m c (d+1) v g (i.set k1 n) j r):bA q b m c d v g i j r :=
 lG 186 [1,3,1,1,2,2,1,1,2,2,1] [.a,.q,.t,.h 1 (.row d (af.cells v1)),dr 15 1 [.none,.none,.none,(iI (c+(d:Int))),.none,.none,.none,(iI (c+(d:Int))),(.nat k),(.GW [vB v2.neg,aa v2.num,aa v2.den]),.none,.none,(.pv l.pv),(.pv n.pv),(.nat k1),(.cells (.pure (((i.set k1 n):Rs).map af.cells).flatten))],.h 0 (iI (((d+1):Nat):Int)),.aH [1,6,7,8,9,10,55,56,57],.drop [13]] (BL (ai h1) (bO af.cells (Eq.refl (((d:Nat):Int):Int)) h2) (o0 h3) (o0 h3) (cj h4 h5) (rB aZ h6) h7 h8 (cj h9 ec) (gm aZ (i:Rs) n il) (aL mF)) hL
theorem Be(q:Rs)(b m:Nat)(c:Int)(d:Nat)(v g:af)(i j z:Rs)(n:Nat){r:PV}(h1:q.length≤d)(h2:b=i.length)(h3:av bp 182 [.pv (ae i)] [] (.row 0 0 n 3) [(0,(.pure ((z:Rs).map af.cells).flatten))])(hL:ah q n m v z j r):bA q b m c d v g i j r :=
 lG 180 [1,3,1] [.a,.q,.f,.fo 6 ((i:Rs).map af.cells),.h 1 (.bG [] (some (0,79)) (.row 0 0 n 3) [(0,(.pure ((z:Rs).map af.cells).flatten))]),.aH [1,6,7,8],.drop [10],.ra 79 15,.ord [8,15,23]] (y3 (ar h1) (cU aZ (i:Rs) h2) h3) hL
end gK
namespace iq
@[reducible] noncomputable def fn:Func:=Tryz.f154
noncomputable def bf:List eg:=focus [0,2,0,0,0] [.code (ay fn)]
def inv1(PI PJ:List af):St:=⟨[(0,(.pv (ae PI))),(1,(.pv (ae PJ)))],[]⟩
@[reducible] noncomputable def ah(PI PJ:List af)(r:PV):Prop:=L bp fn bf (inv1 PI PJ) r
theorem e0 (p q : Rs) {r : PV}  (hL : ah p q r) : Cp 154 [ae p, ae q] r :=
 eG Tryz.func154 75 [] [.q,.aH [0,1]] True.intro hL
theorem l10(b c d g i:Rs){r:PV}(h1:0<c.length)(h2:Cp 153 [ae b,ae c] (.aE [ae d,ae g]))(h3:Cp 156 [ae g] (ae i))(hL:ah c i r):ah b c r :=
 lG 108 [1,1,1,1] [.a,.h 1 (iI (c.length:Int)),.t,.h 2 (.pv (.aE [ae d,ae g])),.h 2 (.pv (ae i)),.aH [0,1]] (y4 (an af.cells c) (ai h1) h2 h3) hL
theorem cV(b c d:Rs)(h1:c.length≤0)(h2:Cp 156 [ae b] (ae d)):ah b c (ae d) :=
 lD 108 [1,1,1] [.a,.h 1 (iI (c.length:Int)),.f,.h 1 (.pv (ae d))] (y3 (an af.cells c) (ar h1) h2)
end iq
namespace mv
@[reducible] noncomputable def fn:Func:=Tryz.f155
noncomputable def bf:List eg:=focus [0,2,0,2,0,0,2,0,0] [.code (ay fn)]
def inv1(p yp:List af)(UW:Nat):St:=⟨[(0,(.pv (ae p))),(3,(.row 20 0 yp.length 3)),(4,(eI (UW:Int)))],[(20,(.pure ((yp:List af).map af.cells).flatten))]⟩
@[reducible] noncomputable def ah(p yp:List af)(UW:Nat)(r:PV):Prop:=L bp fn bf (inv1 p yp UW) r
theorem e0 (p : Rs) {r : PV}  (hL : ah p [] 1 r) : Cp 155 [ae p] r :=
 eG Tryz.func155 87 [] [.q,.h 0 .nil,.jM 3 20 3,.q,.aH [0,3,4]] True.intro hL
theorem l10(p b:Rs)(c:Nat)(of v d:af){r:PV}(h1:c<p.length)(h2:Cp 46 [(vI (c:Int))] of.pv)(h3:p[c]? = some v)(h4:Cp 198 [of.pv,v.pv] d.pv)(h5:((b++[d]):Rs).length*56≤140737488355328)(h6:(c+1)<9223372036854775808)(hL:ah p (b++[d]) (c+1) r):ah p b c r :=
 lG 120 [1,1,1,3,1,6,1] [.a,.h 2 (iI (p.length:Int)),.t,dr 9 2 [.none,.none,(.pv of.pv),.none,.none,(.row c (af.cells v)),.none,(.pv d.pv),.none,(.app ((b++[d]):Rs).length (((b++[d]):Rs).map af.cells).flatten)],.h 1 (iI (((c+1):Nat):Int)),.aH [0,3,4],.drop [19]] (y7 (an af.cells p) (ai h1) h2 (bO af.cells (Eq.refl (((c:Nat):Int):Int)) h3) h4 (gR aZ (b:Rs) ([d]:Rs) 56 (Eq.refl (b:Rs).length) (Eq.refl ([d]:Rs).length) h5 rfl) (aL h6)) hL
theorem cV(p b:Rs)(c:Nat)(d:Rs)(h1:p.length≤c)(h2:Cp 182 [ae b] (ae d)):ah p b c (ae d) :=
 lD 120 [1,1,3,1] [.a,.h 2 (iI (p.length:Int)),.f,.fo 3 ((b:Rs).map af.cells),.h 1 (.pv (ae d))] (y4 (an af.cells p) (ar h1) (cU aZ (b:Rs) (Eq.refl (b:Rs).length)) h2)
end mv
namespace uq
theorem e0(p:Rs)(h1:p.length=0):Cp 156 [ae p] (ae []) :=
 eD Tryz.func156 84 [1,1] [.q,.h 1 (iI (p.length:Int)),.t,.q] (y2 (an af.cells p) (aM h1))
theorem e1(p:Rs)(of:af)(k:Nat)(v a:af)(b:Option Int)(c:Rs)(h1:p.length≠0)(h2:Cp 46 [vI 1] of.pv)(h3:ax ((p.length:Int)-1))(h4:((p.length:Int)-1)=(k:Int))(h5:p[k]? = some v)(h6:Cp 234 [of.pv,v.pv] (.aE [a.pv,bc b]))(h7:Cp 127 [(ae []),ae p,a.pv] (ae c)):Cp 156 [ae p] (ae c) :=
 eD Tryz.func156 93 [1,1,1,1,1,3,1,1] [.q,.h 1 (iI (p.length:Int)),.f,dr 13 1 [(.pv of.pv),.none,.none,(iI (p.length:Int)),(iI ((p.length:Int)-1)),(.row k (af.cells v)),.none,(.pv (.aE [a.pv,bc b]))],.h 2 (.pv (ae c))] (y8 (an af.cells p) (aB h1) h2 (an af.cells p) (aW h3) (bO af.cells h4 h5) h6 h7)
end uq
namespace jq
@[reducible] noncomputable def fn:Func:=Tryz.f182
noncomputable def bf:List eg:=focus [0,2,0,2,0,0,2,0,0] [.code (ay fn)]
def inv1(b9 l:List af)(sD:Nat):St:=⟨[(3,(.row 17 0 b9.length 3)),(6,(.pv (ae l))),(7,(eI (l.length:Int))),(8,(eI (sD:Int)))],[(17,(.pure ((b9:List af).map af.cells).flatten))]⟩
@[reducible] noncomputable def ah(b9 l:List af)(sD:Nat)(r:PV):Prop:=L bp fn bf (inv1 b9 l sD) r
noncomputable def nD:List eg:=focus [0,2,0,2,0,0,2,0,0,0,0,2,0,1,2,2,2,2,0,0,0] [.code (ay fn)]
def inv2(b9:List af):St:=⟨[(3,(.row 17 0 b9.length 3))],[(17,(.pure ((b9:List af).map af.cells).flatten))]⟩
@[reducible] noncomputable def bA(b9:List af)(r:PV):Prop:=L bp fn nD (inv2 b9) r
theorem e0 (l : Rs) {r : PV}  (hL : ah [] l 0 r) : Cp 182 [ae l] r :=
 eG Tryz.func182 87 [1] [.q,.h 0 .nil,.jM 3 17 3,.h 1 (iI (l.length:Int)),.aH [3,6,7,8]] (y1 (an af.cells l)) hL
theorem l10(b l:Rs)(c:Nat)(v d:af){r:PV}(h1:c<l.length)(h2:l[c]? = some v)(h3:Cp 91 [v.pv,(⟨false,[],[]⟩:af).pv] d.pv)(h4:((b++[d]):Rs).length*56≤140737488355328)(h5:(c+1)<9223372036854775808)(hL:ah (b++[d]) l (c+1) r):ah b l c r :=
 lG 126 [1,3,1,6,1] [.a,.q,.t,.h 0 (.row c (af.cells v)),.aV [.o,.o,.o,(.pv d.pv),.o,(.app ((b++[d]):Rs).length (((b++[d]):Rs).map af.cells).flatten)],.h 0 (iI (((c+1):Nat):Int)),.aH [3,6,7,8],.drop [16,5]] (y5 (ai h1) (bO af.cells (Eq.refl (((c:Nat):Int):Int)) h2) h3 (gR aZ (b:Rs) ([d]:Rs) 56 (Eq.refl (b:Rs).length) (Eq.refl ([d]:Rs).length) h4 rfl) (aL h5)) hL
theorem cV(b l:Rs)(c:Nat){r:PV}(h1:l.length≤c)(hL:bA b r):ah b l c r :=
 lG 123 [1] [.a,.q,.f,.aH [3]] (y1 (ar h1)) hL
theorem yj(b:Rs)(k:Nat)(v:af)(c:Int)(u:Nat){r:PV}(h1:0<b.length)(h2:ax ((b.length:Int)-1))(h3:((b.length:Int)-1)=(k:Int))(h4:k<b.length)(h5:b[k]? = some v)(h6:Cp 33 [v.pv] (vI c))(h7:c=0)(h8:((b.length:Int)-1)=(u:Int))(h9:u≤(b:Rs).length)(hL:bA (b.take u) r):bA b r :=
 lG 150 [1,1,1,1,1,1,2,1,2,1,1,1,1,1,1,5,1] [.a,.aV [.o,.o,.o,.o,.o,.o,.o,(iI ((b.length:Int)-1)),(.nat k),(.GW [vB v.neg,aa v.num,aa v.den]),(.pv (vI c)),.o,(.dec true)],.t,.aV [.o,.o,.o,(iI ((b.length:Int)-1)),(.iL 0 ((b.take u).length) [])],.cut 17 (u*3) (((b.take u):Rs).map af.cells).flatten,.aH [3]] (Pf (ai h1) (ai h1) (ai h1) (ai h1) (aW h2) (ai h1) (cj h3 h4) (ai h1) (rB aZ h5) (ai h1) h6 (ai h1) (ai h1) (aP h7) (aW h2) (Ew (b:Rs) h8 h9) (tq aZ (b:Rs) u)) hL
theorem Be(b:Rs)(k:Nat)(v:af)(c:Int)(h1:0<b.length)(h2:ax ((b.length:Int)-1))(h3:((b.length:Int)-1)=(k:Int))(h4:k<b.length)(h5:b[k]? = some v)(h6:Cp 33 [v.pv] (vI c))(h7:c≠0):bA b (ae b) :=
 lD 156 [1,1,1,1,1,1,2,1,2,1,1,1,1,1,3] [.a,.aV [.o,.o,.o,.o,.o,.o,.o,(iI ((b.length:Int)-1)),(.nat k),(.GW [vB v.neg,aa v.num,aa v.den]),(.pv (vI c)),.o,(.dec true)],.f,.q,.fo 2 ((b:Rs).map af.cells)] (Jk (ai h1) (ai h1) (ai h1) (ai h1) (aW h2) (ai h1) (cj h3 h4) (ai h1) (rB aZ h5) (ai h1) h6 (ai h1) (ai h1) (bW h7) (cU aZ (b:Rs) (Eq.refl (b:Rs).length)))
theorem Kt(b:Rs)(h1:b.length≤0):bA b (ae b) :=
 lD 156 [1,1,1,1,1,1,1,1,1,3] [.a,.aV [.o,.o,.o,.o,.skip,.skip,.skip,.skip,.skip,.skip,.skip,.skip,(.dec false)],.a,.q,.fo 2 ((b:Rs).map af.cells)] (FA (ar h1) (ar h1) (ar h1) (ar h1) (ar h1) (ar h1) (ar h1) (ar h1) (ar h1) (cU aZ (b:Rs) (Eq.refl (b:Rs).length)))
end jq
namespace hJ
@[reducible] noncomputable def fn:Func:=Tryz.f182
noncomputable def bf:List eg:=focus [0,2,0,2,0,0,2,0,0] [.code (ay fn)]
def inv1(b9 l:List af)(sD:Nat):St:=⟨[(3,(.row 17 0 b9.length 3)),(6,(.pv (ae l))),(7,(eI (l.length:Int))),(8,(eI (sD:Int)))],[(17,(.pure ((b9:List af).map af.cells).flatten))]⟩
@[reducible] noncomputable def ah(b9 l:List af)(sD:Nat)(sin:aS)(r:EV)(sout:aS):Prop:=LX bp fn bf (inv1 b9 l sD) sin r sout
noncomputable def nD:List eg:=focus [0,2,0,2,0,0,2,0,0,0,0,2,0,1,2,2,2,2,0,0,0] [.code (ay fn)]
def inv2(b9:List af):St:=⟨[(3,(.row 17 0 b9.length 3))],[(17,(.pure ((b9:List af).map af.cells).flatten))]⟩
@[reducible] noncomputable def bA(b9:List af)(sin:aS)(r:EV)(sout:aS):Prop:=LX bp fn nD (inv2 b9) sin r sout
theorem e0 (l : Rs) {r : EV} {sout : aS}  (hL : ah [] l 0 [] r sout) : av bp 182 [(.pv (ae l))] [] r sout :=
 Kl Tryz.func182 87 [1] [.q,.h 0 .nil,.jM 3 17 3,.h 1 (iI (l.length:Int)),.aH [3,6,7,8]] (y1 (an af.cells l)) hL
theorem l10(b l:Rs)(c:Nat)(v d:af){r:EV}{sout:aS}{sin:aS}(hs:sin.all (fun p=>Nat.ble fn.ntmps p.1)=true)(h1:c<l.length)(h2:l[c]? = some v)(h3:Cp 91 [v.pv,(⟨false,[],[]⟩:af).pv] d.pv)(h4:((b++[d]):Rs).length*56≤140737488355328)(h5:(c+1)<9223372036854775808)(hL:ah (b++[d]) l (c+1) sin r sout):ah b l c sin r sout :=
 IK 126 [1,3,1,6,1] [.a,.q,.t,.h 0 (.row c (af.cells v)),.aV [.o,.o,.o,(.pv d.pv),.o,(.app ((b++[d]):Rs).length (((b++[d]):Rs).map af.cells).flatten)],.h 0 (iI (((c+1):Nat):Int)),.aH [3,6,7,8],.drop [16,5]] hs (y5 (ai h1) (bO af.cells (Eq.refl (((c:Nat):Int):Int)) h2) h3 (gR aZ (b:Rs) ([d]:Rs) 56 (Eq.refl (b:Rs).length) (Eq.refl ([d]:Rs).length) h4 rfl) (aL h5)) hL
theorem cV(b l:Rs)(c:Nat){r:EV}{sout:aS}{sin:aS}(hs:sin.all (fun p=>Nat.ble fn.ntmps p.1)=true)(h1:l.length≤c)(hL:bA b sin r sout):ah b l c sin r sout :=
 IK 123 [1] [.a,.q,.f,.aH [3]] hs (y1 (ar h1)) hL
theorem yj(b:Rs)(k:Nat)(v:af)(c:Int)(u:Nat){r:EV}{sout:aS}{sin:aS}(hs:sin.all (fun p=>Nat.ble fn.ntmps p.1)=true)(h1:0<b.length)(h2:ax ((b.length:Int)-1))(h3:((b.length:Int)-1)=(k:Int))(h4:k<b.length)(h5:b[k]? = some v)(h6:Cp 33 [v.pv] (vI c))(h7:c=0)(h8:((b.length:Int)-1)=(u:Int))(h9:u≤(b:Rs).length)(hL:bA (b.take u) sin r sout):bA b sin r sout :=
 IK 150 [1,1,1,1,1,1,2,1,2,1,1,1,1,1,1,5,1] [.a,.aV [.o,.o,.o,.o,.o,.o,.o,(iI ((b.length:Int)-1)),(.nat k),(.GW [vB v.neg,aa v.num,aa v.den]),(.pv (vI c)),.o,(.dec true)],.t,.aV [.o,.o,.o,(iI ((b.length:Int)-1)),(.iL 0 ((b.take u).length) [])],.cut 17 (u*3) (((b.take u):Rs).map af.cells).flatten,.aH [3]] hs (Pf (ai h1) (ai h1) (ai h1) (ai h1) (aW h2) (ai h1) (cj h3 h4) (ai h1) (rB aZ h5) (ai h1) h6 (ai h1) (ai h1) (aP h7) (aW h2) (Ew (b:Rs) h8 h9) (tq aZ (b:Rs) u)) hL
theorem Be(b:Rs)(k:Nat)(v:af)(c:Int){sin:aS}(hs:sin.all (fun p=>Nat.ble fn.ntmps p.1)=true)(hi:sin.all (fun p=>uC p.1||(aS.get [(0,(.pure ((b:Rs).map af.cells).flatten))] p.1).isSome)=true)(h1:0<b.length)(h2:ax ((b.length:Int)-1))(h3:((b.length:Int)-1)=(k:Int))(h4:k<b.length)(h5:b[k]? = some v)(h6:Cp 33 [v.pv] (vI c))(h7:c≠0):bA b sin (.row 0 0 b.length 3) [(0,(.pure ((b:Rs).map af.cells).flatten))] :=
 DP 156 [1,1,1,1,1,1,2,1,2,1,1,1,1,1] [.a,.aV [.o,.o,.o,.o,.o,.o,.o,(iI ((b.length:Int)-1)),(.nat k),(.GW [vB v.neg,aa v.num,aa v.den]),(.pv (vI c)),.o,(.dec true)],.f,.q,.ra 17 0,.ord [0]] hs hi (Km (ai h1) (ai h1) (ai h1) (ai h1) (aW h2) (ai h1) (cj h3 h4) (ai h1) (rB aZ h5) (ai h1) h6 (ai h1) (ai h1) (bW h7))
theorem Kt(b:Rs){sin:aS}(hs:sin.all (fun p=>Nat.ble fn.ntmps p.1)=true)(hi:sin.all (fun p=>uC p.1||(aS.get [(0,(.pure ((b:Rs).map af.cells).flatten))] p.1).isSome)=true)(h1:b.length≤0):bA b sin (.row 0 0 b.length 3) [(0,(.pure ((b:Rs).map af.cells).flatten))] :=
 DP 156 [1,1,1,1,1,1,1,1,1] [.a,.aV [.o,.o,.o,.o,.skip,.skip,.skip,.skip,.skip,.skip,.skip,.skip,(.dec false)],.a,.q,.ra 17 0,.ord [0]] hs hi (y9 (ar h1) (ar h1) (ar h1) (ar h1) (ar h1) (ar h1) (ar h1) (ar h1) (ar h1))
end hJ
namespace lY
theorem e0(p:Rs)(i:Int)(k:Nat)(v:af)(h1:i<(p.length:Int))(h2:i=(k:Int))(h3:p[k]? = some v):Cp 212 [ae p,vI i] v.pv :=
 eD Tryz.func212 84 [1,1,3] [.q,.h 2 (iI (p.length:Int)),.t,.h 2 (.row k (af.cells v))] (y3 (an af.cells p) (bY h1) (bO af.cells h2 h3))
theorem e1(p:Rs)(i:Int)(h1:(p.length:Int)≤i):Cp 212 [ae p,vI i] ((⟨false,[],[]⟩:af).pv) :=
 eD Tryz.func212 87 [1,1] [.q,.h 2 (iI (p.length:Int)),.f,.q] (y2 (an af.cells p) (bD h1))
end lY
namespace EW
theorem e1(p q b c:Rs)(h1:Cp 125 [(cT (aC af.cells) [p,q])] .az)(h2:q.length≠0)(h3:Cp 153 [ae p,ae q] (.aE [ae b,ae c])):Cp 236 [ae p,ae q] (.aE [ae b,ae c,.az]) :=
 eD Tryz.func236 114 [3,1,1,1,1] [.q,.aV [.o,.o,(.iL 0 0 (([p,q]:List (Rs)).map (aC af.cells))),(.pv .az)],.q,.a,.h 1 (iI (q.length:Int)),.f,.h 2 (.pv (.aE [ae b,ae c])),.q] (y5 (ki (qh af.cells) ([p,q]:List (Rs))) h1 (an af.cells q) (aB h2) h3)
end EW
namespace Af
theorem e0(p:Rs)(c:af)(b:Rs)(h1:Cp 79 [ae p] .az)(h2:Cp 127 [(ae []),ae p,c.pv] (ae b)):Cp 237 [ae p,c.pv] (.aE [ae b,.az]) :=
 eD Tryz.func237 93 [1,1] [.q,.h 1 (.pv .az),.q,.a,.h 2 (.pv (ae b))] (y2 h1 h2)
end Af
end Go.Proofs.YtllmkadmohkbfaaGreatDoor.Sym.Path
namespace Go.Proofs.YtllmkadmohkbfaaGreatDoor.Sym
open Go Path bN
set_option linter.unusedVariables false
namespace FF
theorem x7(a:af)(h:kq a):Cp 91 [a.pv,(⟨false,[],[]⟩:af).pv] (aN a.val).pv:=by
 have hf:=rO.Add a ⟨false,[],[]⟩ h ⟨by simp,by simp⟩
 rwa[sJ (a:=⟨false,[],[]⟩) rfl,Rat.add_zero] at hf
theorem KS:∀(n:Nat) (q:List Rat),q.length=n→n<4611686018427387904→Fl 274877906944 q→jq.bA (q.map aN) (ae ((aJ q).map aN)):=by
 intro n
 induction n with
 |zero =>
  intro q hq _ _
  have:q=[]:=List.eq_nil_of_length_eq_zero hq
  subst this
  exact jq.Kt [] (by simp)
 |succ n ih =>
  intro q hq hb hf
  obtain⟨v,hv⟩:∃v,q[n]? = some v:=⟨_,List.getElem?_eq_getElem (by omega)⟩
  have hs:=Db hv hq
  have hm:(q.map aN)[n]? = some (aN v):=by rw[List.getElem?_map,hv];rfl
  have zZ:=hf v (List.mem_of_getElem? hv)
  have sg:=rO.Sign (aN v) (gY zZ)
  rw[bB] at sg
  have hl:(q.map aN).length=n+1:=by rw[List.length_map];exact hq
  by_cases h0:v=0
  ·refine jq.yj (q.map aN) n (aN v) _ n (by omega) (by unfold ax;omega) (by omega) (by omega) hm sg (eS.2 h0) (by omega) (by omega) ?_
   have:=ih (q.take n) (by rw[List.length_take];omega) (by omega) (fun x hx=>hf x (List.mem_of_mem_take hx))
   rw[List.map_take] at this
   rw[hs,h0,qA]
   rw[←hs.symm,←h0,←hs] at *
   exact this
  ·rw[hs,vn h0,←hs]
   exact jq.Be (q.map aN) n (aN v) _ (by omega) (by unfold ax;omega) (by omega) (by omega) hm sg (fun e=>h0 (eS.1 e))
theorem Trim(l:List af)(hl:l.length≤1099511627776)(hf:kr 274877906944 l):Cp 182 [ae l] (ae ((aJ (bj l)).map aN)):=by
 have loop:∀(j t:Nat) (site:List af),l.length-t=j→t≤l.length→site=(l.take t).map (fun a=>aN a.val)→jq.ah site l t (ae ((aJ (bj l)).map aN)):=by
  intro j
  induction j with
  |zero =>
   intro t site hj ht hs
   have uY:t=l.length:=by omega
   subst uY
   refine jq.cV site l _ (Nat.le_refl _) ?_
   rw[List.take_of_length_le (Nat.le_refl _)] at hs
   have:=KS (bj l).length (bj l) rfl (by unfold bj;rw[List.length_map];omega) (qB hf (by omega))
   have e:site=(bj l).map aN:=by rw[hs];unfold bj;rw[List.map_map];rfl
   rw[e];exact this
  |succ j ih =>
   intro t site hj ht hs
   obtain⟨v,hv⟩:∃v,l[t]? = some v:=⟨_,List.getElem?_eq_getElem (by omega)⟩
   have ha:=x7 v (hf v (List.mem_of_getElem? hv))
   have QT:site.length=t:=by rw[hs,List.length_map,List.length_take];omega
   refine jq.l10 site l t v _ (by omega) hv ha (by simp;omega) (by omega) (ih (t+1) _ (by omega) (by omega) ?_)
   rw[hs,List.take_add_one,hv];simp
 exact jq.e0 l (loop _ 0 [] rfl (by omega) rfl)
theorem GC:∀(j:Nat) (p:List af) (t:Nat),p.length-t=j→t≤p.length→p.length≤65→kr 274877906944 p→(p.take t).all af.valid=true →
  (p.all af.valid=false→dJ.ah p t (.iface 67 (vI 2)))∧(p.all af.valid=true→aK (bj p)=true→dJ.ah p t (.iface 67 (vI 8)))∧(p.all af.valid=true→aK (bj p)=false→dJ.ah p t .az):=by
 intro j
 induction j with
 |zero =>
  intro p t hj ht hl hf hv
  have uY:t=p.length:=by omega
  subst uY
  rw[List.take_of_length_le (Nat.le_refl _)] at hv
  refine⟨fun h => ?_,fun _ hz => ?_,fun _ hz => ?_⟩
  ·rw[hv] at h;cases h
  ·obtain⟨v,h0,h1,h2⟩:=Ae hz
   have sg:=rO.Sign v (hf v (List.mem_of_getElem? h1))
   exact dJ.kI p _ (p.length-1) v _ (Nat.le_refl _) h0 (by unfold ax;omega) (by omega) h1 sg (eS.2 h2)
  ·by_cases h0:p.length=0
   ·exact dJ.GB p _ (Nat.le_refl _) (by omega)
   ·obtain⟨v,h1,h2⟩:=xC hz h0
    have sg:=rO.Sign v (hf v (List.mem_of_getElem? h1))
    exact dJ.ta p _ (p.length-1) v _ (Nat.le_refl _) (by omega) (by unfold ax;omega) (by omega) h1 sg (fun e=>h2 (eS.1 e))
 |succ j ih =>
  intro p t hj ht hl hf hv
  obtain⟨v,h1⟩:∃v,p[t]? = some v:=⟨_,List.getElem?_eq_getElem (by omega)⟩
  have Ni:=rO.Valid v (hf v (List.mem_of_getElem? h1))
  cases hc:v.valid with
  |false =>
   have yI:p.all af.valid=false:=by
    rw[List.all_eq_false]
    exact⟨v,List.mem_of_getElem? h1,by rw[hc];simp⟩
   refine⟨fun _=>dJ.l10 p t v _ (by omega) h1 Ni hc,fun h => ?_,fun h => ?_⟩
   ·rw[yI] at h;cases h
   ·rw[yI] at h;cases h
  |true =>
   obtain⟨g1,g2,g3⟩:=ih p (t+1) (by omega) (by omega) hl hf (by rw[List.take_add_one,h1];simp[hv,hc])
   exact⟨fun h=>dJ.cV p t v _ (by omega) h1 Ni hc (by omega) (g1 h),fun h h'=>dJ.cV p t v _ (by omega) h1 Ni hc (by omega) (g2 h h'),fun h h'=>dJ.cV p t v _ (by omega) h1 Ni hc (by omega) (g3 h h')⟩
theorem Check(p:List af)(hf:kr 274877906944 p):Cp 79 [ae p] (bc (ET (oJ p))):=by
 unfold oJ
 by_cases hl:p.length≤65
 ·rw[if_neg (by omega)]
  obtain⟨g1,g2,g3⟩:=GC _ p 0 rfl (by omega) hl hf (by simp)
  cases hv:p.all af.valid with
  |false=>exact dJ.e1 p hl (g1 hv)
  |true =>
   cases hz:aK (bj p) with
   |true=>exact dJ.e1 p hl (g2 hv hz)
   |false=>exact dJ.e1 p hl (g3 hv hz)
 ·rw[if_pos (by omega)]
  exact dJ.e0 p (by omega)
theorem KT(p:List af)(x:af)(hl:p.length≤65)(hp:kr 1073741824 p)(hx:x.num.length≤1073741824∧x.den.length≤1073741824):∀(n:Nat) (q:Rat),n≤p.length→q=evalL ((bj p).drop n) x.val →
  pJ.ah p ((n:Int)-1) x (aN q) (.aE [(aN (evalL (bj p) x.val)).pv,.az]):=by
 intro n
 induction n with
 |zero =>
  intro q _ hq
  rw[List.drop_zero] at hq
  rw[←hq]
  exact pJ.cV p _ x _ (by omega)
 |succ n ih =>
  intro q hn hq
  obtain⟨v,hv⟩:∃v,p[n]? = some v:=⟨_,List.getElem?_eq_getElem (by omega)⟩
  have Mb:=hp v (List.mem_of_getElem? hv)
  have b1:=dD Mb.1 Mb.2 (by omega)
  have b2:=dD hx.1 hx.2 (by omega)
  have b3:ht q≤65*2147483649+1:=by
   rw[hq]
   refine Nat.le_trans (mY _ x.val 1073741824 (fun y hy=>qB hp (by omega) y (List.mem_of_mem_drop hy)) b2) ?_
   have:((bj p).drop (n+1)).length≤65:=by unfold bj;simp;omega
   omega
  have m:=rO.Mul (aN q) x (gY (by omega)) ⟨by omega,by omega⟩
  rw[bB] at m
  have b4:=ll q x.val
  have s:=rO.Add (aN (q*x.val)) v (gY (by omega)) ⟨by omega,by omega⟩
  rw[bB] at s
  have:=ih (q*x.val+v.val) (by omega) (by rw[hq,BS hv];rfl)
  rw[show ((n+1:Nat):Int)-1=(n:Int) from by omega]
  exact pJ.l10 p (n:Int) x _ _ n v _ (by omega) m rfl hv s (by unfold ax;omega) this
theorem Eval(p:List af)(x:af)(hc:oJ p=0)(hp:kr 1073741824 p)(hx:x.num.length≤1073741824∧x.den.length≤1073741824):Cp 133 [ae p,x.pv] (.aE [(aN (evalL (bj p) x.val)).pv,.az]):=by
 have hk:=Check p (fun a ha=>⟨by have:=(hp a ha).1;omega,by have:=(hp a ha).2;omega⟩)
 rw[hc] at hk
 have hl:=Dd hc
 exact pJ.e0 p x hk (by unfold ax;omega) (KT p x hl hp hx p.length 0 (Nat.le_refl _) (by rw[List.drop_of_length_le (by unfold bj;simp)];rfl))
theorem derive(p:List af)(hl:p.length≤65)(hp:kr 137438953472 p):Cp 155 [ae p] (ae ((ak (bj p)).map aN)):=by
 have loop:∀(j i:Nat) (site:List af),p.length-i=j→1≤i→site=(fE 1 (((bj p).take i).drop 1)).map aN→mv.ah p site i (ae ((ak (bj p)).map aN)):=by
  intro j
  induction j with
  |zero =>
   intro i site hj h1 hs
   rw[List.take_of_length_le (by unfold bj;rw[List.length_map];omega)] at hs
   have oX:Fl 274877906944 (fE 1 ((bj p).drop 1)):=De (k:=137438953472) (by omega) _ 1 (by unfold bj;simp;omega) (fun y hy=>qB hp (by omega) y (List.mem_of_mem_drop hy))
   have ht:=Trim site (by rw[hs,List.length_map,mu];unfold bj;simp;omega) (by rw[hs];exact Dc oX)
   rw[hs,dN] at ht
   rw[hs]
   exact mv.cV p _ i _ (by omega) ht
  |succ j ih =>
   intro i site hj h1 hs
   obtain⟨v,hv⟩:∃v,p[i]? = some v:=⟨_,List.getElem?_eq_getElem (by omega)⟩
   have Mb:=hp v (List.mem_of_getElem? hv)
   have ho:=rO.Of (i:Int) (by unfold ax;omega)
   have b1:ht ((i:Int):Rat)≤2:=by
    rw[wJ]
    have:wl (i:Int)≤2:=pF (by omega)
    omega
   have m:=rO.Mul (aN ((i:Int):Rat)) v (gY (by omega)) ⟨by omega,by omega⟩
   rw[bB] at m
   have QT:site.length=i-1:=by rw[hs,List.length_map,mu];unfold bj;simp;omega
   refine mv.l10 p site i _ v _ (by omega) ho hv m (by simp;omega) (by omega) (ih (i+1) _ (by omega) (by omega) ?_)
   rw[hs,BV hv h1]
   simp
 exact mv.e0 p (loop _ 1 [] rfl (by omega) (by rw[show (((bj p).take 1).drop 1)=[] from by simp];rfl))
theorem qD(p:List af)(hc:oJ p=0)(hp:kr 137438953472 p):Cp 80 [ae p] (.aE [ae ((ak (bj p)).map aN),.az]):=by
 have hk:=Check p (fun a ha=>⟨by have:=(hp a ha).1;omega,by have:=(hp a ha).2;omega⟩)
 rw[hc] at hk
 exact xD.e0 p _ hk (derive p (Dd hc) hp)
end FF
end Go.Proofs.YtllmkadmohkbfaaGreatDoor.Sym
namespace Go.Proofs.YtllmkadmohkbfaaGreatDoor.Sym.Path
open Go
set_option maxRecDepth 20000
set_option linter.unusedVariables false
namespace nL
theorem e0(p q:Rs)(a:Bool)(h1:Cp 108 [ae p,ae q] (vB a)):Cp 42 [ae p,ae q] (vB a) :=
 eD Tryz.func42 72 [1] [.q,.h 2 (.pv (vB a))] (y1 h1)
end nL
namespace bl
@[reducible] noncomputable def fn:Func:=Tryz.f56
noncomputable def bf:List eg:=focus [0,2,0,0,2,1,2,0,0,2,0,0] [.code (ay fn)]
def inv1(p:List af)(Ag:Nat):St:=⟨[(0,(.pv (ae p))),(8,(.pv (ae p))),(9,(eI (p.length:Int))),(10,(eI (Ag:Int)))],[]⟩
@[reducible] noncomputable def ah(p:List af)(Ag:Nat)(r:PV):Prop:=L bp fn bf (inv1 p Ag) r
theorem e0(p:Rs)(h1:65<p.length):Cp 56 [ae p] (vI 4) :=
 eD Tryz.func56 84 [1,1] [.q,.h 1 (iI (p.length:Int)),.t,.q] (y2 (an af.cells p) (ai h1))
theorem e1(p:Rs){r:PV}(h1:p.length≤65)(hL:ah p 0 r):Cp 56 [ae p] r :=
 eG Tryz.func56 96 [1,1,1] [.q,.h 1 (iI (p.length:Int)),.f,.h 1 (iI (p.length:Int)),.aH [0,8,9,10]] (y3 (an af.cells p) (ar h1) (an af.cells p)) hL
theorem l10(p:Rs)(b:Nat)(v:af)(c:Bool)(h1:b<p.length)(h2:p[b]? = some v)(h3:Cp 111 [v.pv] (vB c))(h4:c=false):ah p b (vI 2) :=
 lD 141 [1,3,1,1] [.a,.q,.t,.h 0 (.row b (af.cells v)),.h 1 (.pv (vB c)),.t,.q] (y4 (ai h1) (bO af.cells (Eq.refl (((b:Nat):Int):Int)) h2) h3 (cf h4))
theorem cV(p:Rs)(b:Nat)(v:af)(c:Bool){r:PV}(h1:b<p.length)(h2:p[b]? = some v)(h3:Cp 111 [v.pv] (vB c))(h4:c=true)(h5:(b+1)<9223372036854775808)(hL:ah p (b+1) r):ah p b r :=
 lG 144 [1,3,1,1,1] [.a,.q,.t,.h 0 (.row b (af.cells v)),.h 1 (.pv (vB c)),.f,.h 0 (iI (((b+1):Nat):Int)),.aH [0,8,9,10],.drop [4]] (y5 (ai h1) (bO af.cells (Eq.refl (((b:Nat):Int):Int)) h2) h3 (aU h4) (aL h5)) hL
theorem kI(p:Rs)(b k:Nat)(v:af)(c:Int)(h1:p.length≤b)(h2:0<p.length)(h3:ax ((p.length:Int)-1))(h4:((p.length:Int)-1)=(k:Int))(h5:p[k]? = some v)(h6:Cp 124 [v.pv] (vI c))(h7:c=0):ah p b (vI 8) :=
 lD 141 [1,1,1,1,1,1,1,1,1,3,1,1,1,1,1,1] [.a,.q,.f,.aV [.o,(iI (p.length:Int)),.o,.o,.o,.o,(iI (p.length:Int)),(iI ((p.length:Int)-1)),(.row k (af.cells v)),.o,(.pv (vI c)),.o,(.dec true)],.t,.q] (FB (ar h1) (an af.cells p) (ai h2) (ai h2) (ai h2) (an af.cells p) (ai h2) (aW h3) (ai h2) (bO af.cells h4 h5) (ai h2) (ai h2) h6 (ai h2) (ai h2) (aP h7))
theorem ta(p:Rs)(b k:Nat)(v:af)(c:Int)(h1:p.length≤b)(h2:0<p.length)(h3:ax ((p.length:Int)-1))(h4:((p.length:Int)-1)=(k:Int))(h5:p[k]? = some v)(h6:Cp 124 [v.pv] (vI c))(h7:c≠0):ah p b (vI 0) :=
 lD 144 [1,1,1,1,1,1,1,1,1,3,1,1,1,1,1,1] [.a,.q,.f,.aV [.o,(iI (p.length:Int)),.o,.o,.o,.o,(iI (p.length:Int)),(iI ((p.length:Int)-1)),(.row k (af.cells v)),.o,(.pv (vI c)),.o,(.dec true)],.f,.q] (FB (ar h1) (an af.cells p) (ai h2) (ai h2) (ai h2) (an af.cells p) (ai h2) (aW h3) (ai h2) (bO af.cells h4 h5) (ai h2) (ai h2) h6 (ai h2) (ai h2) (bW h7))
theorem GB(p:Rs)(b:Nat)(h1:p.length≤b)(h2:p.length≤0):ah p b (vI 0) :=
 lD 144 [1,1,1,1,1,1,1,1,1,1,1] [.a,.q,.f,.aV [.o,(iI (p.length:Int)),.o,.o,.skip,.skip,.skip,.skip,.skip,.skip,.skip,.skip,(.dec false)],.a,.q] (BL (ar h1) (an af.cells p) (ar h2) (ar h2) (ar h2) (ar h2) (ar h2) (ar h2) (ar h2) (ar h2) (ar h2))
end bl
namespace nM
theorem e2(p:Rs)(a:Int)(b c d g i:Rs)(h1:Cp 56 [ae p] (vI a))(h2:a=0)(h3:p.length≠0)(h4:Cp 162 [ae p] (ae b))(h5:Cp 161 [ae p,ae b] (ae c))(h6:Cp 160 [ae p,ae c] (.aE [ae d,ae g]))(h7:Cp 163 [ae d] (ae i)):Cp 78 [ae p] (.aE [ae i,vI 0]) :=
 eD Tryz.func78 114 [1,1,1,1,1,1,1,1] [.q,.h 1 (.pv (vI a)),.q,.f,.h 1 (iI (p.length:Int)),.f,.aV [.o,.o,.o,(.pv (ae b)),(.pv (ae c)),(.pv (.aE [ae d,ae g]))],.h 1 (.pv (ae i))] (y8 h1 (gk h2) (an af.cells p) (aB h3) h4 h5 h6 h7)
end nM
namespace mw
theorem e1(p:Rs)(a:Int)(b:Rs)(h1:Cp 56 [ae p] (vI a))(h2:a=0)(h3:Cp 162 [ae p] (ae b)):Cp 84 [ae p] (.aE [ae b,vI 0]) :=
 eD Tryz.func84 93 [1,1,1] [.q,.h 1 (.pv (vI a)),.q,.f,.h 1 (.pv (ae b))] (y3 h1 (gk h2) h3)
end mw
namespace oK
theorem e1(p q:Rs)(a:Int)(b:Rs)(h1:Cp 167 [ae p,ae q] (vI a))(h2:a=0)(h3:Cp 161 [ae p,ae q] (ae b)):Cp 85 [ae p,ae q] (.aE [ae b,vI 0]) :=
 eD Tryz.func85 93 [1,1,1] [.q,.h 2 (.pv (vI a)),.q,.f,.h 2 (.pv (ae b))] (y3 h1 (gk h2) h3)
end oK
namespace cH
@[reducible] noncomputable def fn:Func:=Tryz.f106
noncomputable def bf:List eg:=focus [0,2,0,2,0,0,2,0,0] [.code (ay fn)]
def inv1(b9 l:List af)(sD:Nat):St:=⟨[(3,(.row 17 0 b9.length 3)),(6,(.pv (ae l))),(7,(eI (l.length:Int))),(8,(eI (sD:Int)))],[(17,(.pure ((b9:List af).map af.cells).flatten))]⟩
@[reducible] noncomputable def ah(b9 l:List af)(sD:Nat)(r:PV):Prop:=L bp fn bf (inv1 b9 l sD) r
noncomputable def nD:List eg:=focus [0,2,0,2,0,0,2,0,0,0,0,2,0,1,2,2,2,2,0,0,0] [.code (ay fn)]
def inv2(b9:List af):St:=⟨[(3,(.row 17 0 b9.length 3))],[(17,(.pure ((b9:List af).map af.cells).flatten))]⟩
@[reducible] noncomputable def bA(b9:List af)(r:PV):Prop:=L bp fn nD (inv2 b9) r
theorem e0 (l : Rs) {r : PV}  (hL : ah [] l 0 r) : Cp 106 [ae l] r :=
 eG Tryz.func106 87 [1] [.q,.h 0 .nil,.jM 3 17 3,.h 1 (iI (l.length:Int)),.aH [3,6,7,8]] (y1 (an af.cells l)) hL
theorem l10(b l:Rs)(c:Nat)(v d:af){r:PV}(h1:c<l.length)(h2:l[c]? = some v)(h3:Cp 70 [v.pv,(⟨false,[],[]⟩:af).pv] d.pv)(h4:((b++[d]):Rs).length*56≤140737488355328)(h5:(c+1)<9223372036854775808)(hL:ah (b++[d]) l (c+1) r):ah b l c r :=
 lG 126 [1,3,1,6,1] [.a,.q,.t,.h 0 (.row c (af.cells v)),.aV [.o,.o,.o,(.pv d.pv),.o,(.app ((b++[d]):Rs).length (((b++[d]):Rs).map af.cells).flatten)],.h 0 (iI (((c+1):Nat):Int)),.aH [3,6,7,8],.drop [16,5]] (y5 (ai h1) (bO af.cells (Eq.refl (((c:Nat):Int):Int)) h2) h3 (gR aZ (b:Rs) ([d]:Rs) 56 (Eq.refl (b:Rs).length) (Eq.refl ([d]:Rs).length) h4 rfl) (aL h5)) hL
theorem cV(b l:Rs)(c:Nat){r:PV}(h1:l.length≤c)(hL:bA b r):ah b l c r :=
 lG 123 [1] [.a,.q,.f,.aH [3]] (y1 (ar h1)) hL
theorem yj(b:Rs)(k:Nat)(v:af)(c:Int)(u:Nat){r:PV}(h1:0<b.length)(h2:ax ((b.length:Int)-1))(h3:((b.length:Int)-1)=(k:Int))(h4:k<b.length)(h5:b[k]? = some v)(h6:Cp 124 [v.pv] (vI c))(h7:c=0)(h8:((b.length:Int)-1)=(u:Int))(h9:u≤(b:Rs).length)(hL:bA (b.take u) r):bA b r :=
 lG 150 [1,1,1,1,1,1,2,1,2,1,1,1,1,1,1,5,1] [.a,.aV [.o,.o,.o,.o,.o,.o,.o,(iI ((b.length:Int)-1)),(.nat k),(.GW [vB v.neg,aa v.num,aa v.den]),(.pv (vI c)),.o,(.dec true)],.t,.aV [.o,.o,.o,(iI ((b.length:Int)-1)),(.iL 0 ((b.take u).length) [])],.cut 17 (u*3) (((b.take u):Rs).map af.cells).flatten,.aH [3]] (Pf (ai h1) (ai h1) (ai h1) (ai h1) (aW h2) (ai h1) (cj h3 h4) (ai h1) (rB aZ h5) (ai h1) h6 (ai h1) (ai h1) (aP h7) (aW h2) (Ew (b:Rs) h8 h9) (tq aZ (b:Rs) u)) hL
theorem Be(b:Rs)(k:Nat)(v:af)(c:Int)(h1:0<b.length)(h2:ax ((b.length:Int)-1))(h3:((b.length:Int)-1)=(k:Int))(h4:k<b.length)(h5:b[k]? = some v)(h6:Cp 124 [v.pv] (vI c))(h7:c≠0):bA b (ae b) :=
 lD 156 [1,1,1,1,1,1,2,1,2,1,1,1,1,1,3] [.a,.aV [.o,.o,.o,.o,.o,.o,.o,(iI ((b.length:Int)-1)),(.nat k),(.GW [vB v.neg,aa v.num,aa v.den]),(.pv (vI c)),.o,(.dec true)],.f,.q,.fo 2 ((b:Rs).map af.cells)] (Jk (ai h1) (ai h1) (ai h1) (ai h1) (aW h2) (ai h1) (cj h3 h4) (ai h1) (rB aZ h5) (ai h1) h6 (ai h1) (ai h1) (bW h7) (cU aZ (b:Rs) (Eq.refl (b:Rs).length)))
theorem Kt(b:Rs)(h1:b.length≤0):bA b (ae b) :=
 lD 156 [1,1,1,1,1,1,1,1,1,3] [.a,.aV [.o,.o,.o,.o,.skip,.skip,.skip,.skip,.skip,.skip,.skip,.skip,(.dec false)],.a,.q,.fo 2 ((b:Rs).map af.cells)] (FA (ar h1) (ar h1) (ar h1) (ar h1) (ar h1) (ar h1) (ar h1) (ar h1) (ar h1) (cU aZ (b:Rs) (Eq.refl (b:Rs).length)))
end cH
namespace eM
@[reducible] noncomputable def fn:Func:=Tryz.f160
noncomputable def bf:List eg:=focus [0,2,0,2,0,2,0,0,0] [.code (ay fn)]
def inv1(q KU ue:List af):St:=⟨[(1,(.pv (ae q))),(6,(.pv (ae KU))),(7,(.pv (ae ue)))],[]⟩
@[reducible] noncomputable def ah(q KU ue:List af)(r:PV):Prop:=L bp fn bf (inv1 q KU ue) r
theorem e0(p q a:Rs){r:PV}(h1:Cp 106 [ae p] (ae a))(hL:ah q [] a r):Cp 160 [ae p,ae q] r :=
 eG Tryz.func160 87 [1] [.q,.q,.h 1 (.pv (ae a)),.aH [1,6,7]] (y1 h1) hL
theorem l10(q b c:Rs)(k:Nat)(v:af)(k1:Nat)(v1 d:af)(g:Int)(of:af)(i:Rs)(j:af)(l:Rs){r:PV}(h1:q.length≤c.length)(h2:ax ((c.length:Int)-1))(h3:((c.length:Int)-1)=(k:Int))(h4:c[k]? = some v)(h5:ax ((q.length:Int)-1))(h6:((q.length:Int)-1)=(k1:Int))(h7:q[k1]? = some v1)(h8:Cp 148 [v.pv,v1.pv] (.aE [d.pv,vI g]))(h9:ax ((c.length:Int)-(q.length:Int)))(ec:Cp 89 [vI 1] of.pv)(il:Cp 244 [ae b,(ae [d]),of.pv,(vI ((c.length:Int)-(q.length:Int)))] (ae i))(mF:Cp 88 [d.pv] j.pv)(u9:Cp 244 [ae c,ae q,j.pv,(vI ((c.length:Int)-(q.length:Int)))] (ae l))(hL:ah q i l r):ah q b c r :=
 lG 132 [1,1,1,1,1,3,1,1,3,1,1,1,1,3,1,1,1,1] [.a,.aV [.o,(iI (c.length:Int)),.o,(iI (q.length:Int))],.t,dr 18 1 [.none,.none,(iI (c.length:Int)),(iI ((c.length:Int)-1)),(.row k (af.cells v)),.none,.none,.none,(iI (q.length:Int)),(iI ((q.length:Int)-1)),(.row k1 (af.cells v1)),.none,(.pv (.aE [d.pv,vI g]))],.aV [.o,(iI (c.length:Int)),.o,(iI (q.length:Int)),(iI ((c.length:Int)-(q.length:Int)))],dr 6 1 [.none,.none,(.iL 0 0 (([d]:Rs).map af.cells)),(.pv of.pv),.none,(.pv (ae i))],.aV [.o,.o,.o,(.pv j.pv),.o,(.pv (ae l))],.aH [1,6,7],.drop [8]] (RL (an af.cells c) (an af.cells q) (da h1) (an af.cells c) (aW h2) (bO af.cells h3 h4) (an af.cells q) (aW h5) (bO af.cells h6 h7) h8 (an af.cells c) (an af.cells q) (aW h9) (ki aZ ([d]:Rs)) ec il mF u9) hL
theorem cV(q b c:Rs)(h1:c.length<q.length):ah q b c (.aE [ae b,ae c]) :=
 lD 120 [1,1,1] [.a,.aV [.o,(iI (c.length:Int)),.o,(iI (q.length:Int))],.f,.q] (y3 (an af.cells c) (an af.cells q) (bH h1))
end eM
namespace b7
@[reducible] noncomputable def fn:Func:=Tryz.f161
noncomputable def bf:List eg:=focus [0,2,0,2,0,0,0] [.code (ay fn)]
def inv1(PI PJ:List af):St:=⟨[(0,(.pv (ae PI))),(1,(.pv (ae PJ)))],[]⟩
@[reducible] noncomputable def ah(PI PJ:List af)(r:PV):Prop:=L bp fn bf (inv1 PI PJ) r
theorem e0(p q a b:Rs){r:PV}(h1:Cp 163 [ae p] (ae a))(h2:Cp 163 [ae q] (ae b))(hL:ah a b r):Cp 161 [ae p,ae q] r :=
 eG Tryz.func161 81 [1,1] [.q,.aV [.o,(.pv (ae a)),.o,(.pv (ae b))],.aH [0,1]] (y2 h1 h2) hL
theorem l10(b c d g i:Rs){r:PV}(h1:0<c.length)(h2:Cp 160 [ae b,ae c] (.aE [ae d,ae g]))(h3:Cp 163 [ae g] (ae i))(hL:ah c i r):ah b c r :=
 lG 114 [1,1,1,1] [.a,.h 1 (iI (c.length:Int)),.t,.h 2 (.pv (.aE [ae d,ae g])),.h 2 (.pv (ae i)),.aH [0,1]] (y4 (an af.cells c) (ai h1) h2 h3) hL
theorem cV(b c:Rs)(h1:c.length≤0):ah b c (ae b) :=
 lD 114 [1,1] [.a,.h 1 (iI (c.length:Int)),.f,.q] (y2 (an af.cells c) (ar h1))
end b7
namespace dO
@[reducible] noncomputable def fn:Func:=Tryz.f162
noncomputable def bf:List eg:=focus [0,2,0,2,0,0,2,0,0] [.code (ay fn)]
def inv1(yq p:List af)(sD:Nat):St:=⟨[(3,(.row 21 0 yq.length 3)),(6,(.pv (ae p))),(7,(eI (p.length:Int))),(8,(eI (sD:Int)))],[(21,(.pure ((yq:List af).map af.cells).flatten))]⟩
@[reducible] noncomputable def ah(yq p:List af)(sD:Nat)(r:PV):Prop:=L bp fn bf (inv1 yq p sD) r
theorem e0 (p : Rs) {r : PV}  (hL : ah [] p 0 r) : Cp 162 [ae p] r :=
 eG Tryz.func162 87 [1] [.q,.h 0 .nil,.jM 3 21 3,.h 1 (iI (p.length:Int)),.aH [3,6,7,8]] (y1 (an af.cells p)) hL
theorem l10(b p:Rs)(c:Nat)(v of d:af){r:PV}(h1:c<p.length)(h2:p[c]? = some v)(h3:0<c)(h4:Cp 89 [(vI (c:Int))] of.pv)(h5:Cp 245 [of.pv,v.pv] d.pv)(h6:((b++[d]):Rs).length*56≤140737488355328)(h7:(c+1)<9223372036854775808)(hL:ah (b++[d]) p (c+1) r):ah b p c r :=
 lG 135 [1,3,1,1,1,6,1] [.a,.q,.t,.h 1 (.row c (af.cells v)),.q,.t,dr 6 2 [.none,.none,(.pv of.pv),.none,(.pv d.pv),.none,(.app ((b++[d]):Rs).length (((b++[d]):Rs).map af.cells).flatten)],.h 0 (iI (((c+1):Nat):Int)),.aH [3,6,7,8],.drop [20,5]] (y7 (ai h1) (bO af.cells (Eq.refl (((c:Nat):Int):Int)) h2) (ai h3) h4 h5 (gR aZ (b:Rs) ([d]:Rs) 56 (Eq.refl (b:Rs).length) (Eq.refl ([d]:Rs).length) h6 rfl) (aL h7)) hL
theorem cV(b p:Rs)(c:Nat)(v:af){r:PV}(h1:c<p.length)(h2:p[c]? = some v)(h3:c≤0)(h4:(c+1)<9223372036854775808)(hL:ah b p (c+1) r):ah b p c r :=
 lG 135 [1,3,1,1] [.a,.q,.t,.h 1 (.row c (af.cells v)),.q,.f,.h 0 (iI (((c+1):Nat):Int)),.aH [3,6,7,8],.drop [5]] (y4 (ai h1) (bO af.cells (Eq.refl (((c:Nat):Int):Int)) h2) (ar h3) (aL h4)) hL
theorem kI(b p:Rs)(c:Nat)(d:Rs)(h1:p.length≤c)(h2:Cp 106 [ae b] (ae d)):ah b p c (ae d) :=
 lD 120 [1,3,1] [.a,.q,.f,.fo 3 ((b:Rs).map af.cells),.h 1 (.pv (ae d))] (y3 (ar h1) (cU aZ (b:Rs) (Eq.refl (b:Rs).length)) h2)
end dO
namespace jK
theorem e0(p:Rs)(h1:p.length=0):Cp 163 [ae p] (ae []) :=
 eD Tryz.func163 84 [1,1] [.q,.h 1 (iI (p.length:Int)),.t,.q] (y2 (an af.cells p) (aM h1))
theorem e1(p:Rs)(of:af)(k:Nat)(v a:af)(b:Int)(c:Rs)(h1:p.length≠0)(h2:Cp 89 [vI 1] of.pv)(h3:ax ((p.length:Int)-1))(h4:((p.length:Int)-1)=(k:Int))(h5:p[k]? = some v)(h6:Cp 148 [of.pv,v.pv] (.aE [a.pv,vI b]))(h7:Cp 244 [(ae []),ae p,a.pv,vI 0] (ae c)):Cp 163 [ae p] (ae c) :=
 eD Tryz.func163 93 [1,1,1,1,1,3,1,1] [.q,.h 1 (iI (p.length:Int)),.f,dr 13 1 [(.pv of.pv),.none,.none,(iI (p.length:Int)),(iI ((p.length:Int)-1)),(.row k (af.cells v)),.none,(.pv (.aE [a.pv,vI b]))],.h 2 (.pv (ae c))] (y8 (an af.cells p) (aB h1) h2 (an af.cells p) (aW h3) (bO af.cells h4 h5) h6 h7)
end jK
namespace ks
theorem e0(p q:Rs)(a:Int)(h1:Cp 56 [ae p] (vI a))(h2:a≠0):Cp 167 [ae p,ae q] (vI a) :=
 eD Tryz.func167 90 [1,1] [.q,.h 1 (.pv (vI a)),.q,.t,.q] (y2 h1 (gB h2))
theorem e1(p q:Rs)(a b:Int)(h1:Cp 56 [ae p] (vI a))(h2:a=0)(h3:Cp 56 [ae q] (vI b)):Cp 167 [ae p,ae q] (vI b) :=
 eD Tryz.func167 93 [1,1,1] [.q,.h 1 (.pv (vI a)),.q,.f,.h 1 (.pv (vI b))] (y3 h1 (gk h2) h3)
end ks
namespace gG
@[reducible] noncomputable def fn:Func:=Tryz.f208
noncomputable def bf:List eg:=focus [0,2,0,2,0,0,2,0,0] [.code (ay fn)]
def inv1(p:List af)(Ks:Int)(x iX:af):St:=⟨[(0,(.pv (ae p))),(3,(.ptr 3 0)),(4,(.ptr 4 0)),(5,(.ptr 5 0)),(6,(eI Ks))],[(3,(.lit [(eB x.neg),(.pv (aa x.num)),(.pv (aa x.den))])),(4,(.lit [(eB false),(.pv (.list [])),(.pv (.list []))])),(5,(.lit [(eB iX.neg),(.pv (aa iX.num)),(.pv (aa iX.den))]))]⟩
@[reducible] noncomputable def ah(p:List af)(Ks:Int)(x iX:af)(r:PV):Prop:=L bp fn bf (inv1 p Ks x iX) r
theorem e0(p:Rs)(x:af){r:PV}(h1:ax ((p.length:Int)-1))(hL:ah p ((p.length:Int)-1) x (⟨false,[],[]⟩:af) r):Cp 208 [ae p,x.pv] r :=
 eG Tryz.func208 87 [1,1] [.q,.q,.aV [.o,(iI (p.length:Int)),(iI ((p.length:Int)-1))],.aH [0,3,4,5,6],.ord [3,4,5]] (y2 (an af.cells p) (aW h1)) hL
theorem l10(p:Rs)(b:Int)(x c d:af)(k:Nat)(v g:af){r:PV}(h1:0≤b)(h2:Cp 245 [c.pv,x.pv] d.pv)(h3:b=(k:Int))(h4:p[k]? = some v)(h5:Cp 70 [d.pv,v.pv] g.pv)(h6:ax (b-1))(hL:ah p (b-1) x g r):ah p b x c r :=
 lG 120 [1,1,3,1,1] [.a,.q,.t,dr 8 1 [.none,.none,(.pv d.pv),.none,.none,(.row k (af.cells v)),.none,(.pv g.pv)],.h 1 (iI (b-1)),.aH [0,3,4,5,6]] (y5 (eH h1) h2 (bO af.cells h3 h4) h5 (aW h6)) hL
theorem cV(p:Rs)(b:Int)(x c:af)(h1:b<0):ah p b x c c.pv :=
 lD 120 [1] [.a,.q,.f,.q] (y1 (jO h1))
end gG
namespace oL
theorem e2(p q:Rs)(a:Int)(b c:Rs)(h1:Cp 167 [ae p,ae q] (vI a))(h2:a=0)(h3:q.length≠0)(h4:Cp 160 [ae p,ae q] (.aE [ae b,ae c])):Cp 242 [ae p,ae q] (.aE [ae b,ae c,vI 0]) :=
 eD Tryz.func242 114 [1,1,1,1,1] [.q,.h 2 (.pv (vI a)),.q,.f,.h 1 (iI (q.length:Int)),.f,.h 2 (.pv (.aE [ae b,ae c])),.q] (y5 h1 (gk h2) (an af.cells q) (aB h3) h4)
end oL
namespace mP
theorem e1(p:Rs)(c:af)(a:Int)(b:Rs)(h1:Cp 56 [ae p] (vI a))(h2:a=0)(h3:Cp 244 [(ae []),ae p,c.pv,vI 0] (ae b)):Cp 243 [ae p,c.pv] (.aE [ae b,vI 0]) :=
 eD Tryz.func243 93 [1,1,1] [.q,.h 1 (.pv (vI a)),.q,.f,.h 2 (.pv (ae b))] (y3 h1 (gk h2) h3)
end mP
namespace fF
@[reducible] noncomputable def fn:Func:=Tryz.f244
noncomputable def bf:List eg:=focus [0,2,0,2,0,2,0,0,2,0,0] [.code (ay fn)]
def inv1(shift:Int)(m:Nat)(q:List af)(vo:Nat)(c:af)(Dg:List af):St:=⟨[(3,(eI shift)),(6,(.ptr 6 0)),(9,(.row 19 0 m 3)),(23,(.pv (ae q))),(24,(eI (q.length:Int))),(25,(eI (vo:Int)))],[(6,(.lit [(eB c.neg),(.pv (aa c.num)),(.pv (aa c.den))])),(19,(.pure ((Dg:List af).map af.cells).flatten))]⟩
@[reducible] noncomputable def ah(shift:Int)(m:Nat)(q:List af)(vo:Nat)(c:af)(Dg:List af)(r:PV):Prop:=L bp fn bf (inv1 shift m q vo c Dg) r
theorem e0(p q:Rs)(c:af)(a:Int)(m:Nat){r:PV}(h1:ax ((q.length:Int)+a))(h2:(max (p.length:Int) ((q.length:Int)+a))=(m:Int))(h3:56*m≤140737488355328)(h4:(min p.length m)≤(List.replicate m (⟨false,[],[]⟩:af):Rs).length)(hL:ah a m q 0 c (p.take (min p.length m)++(List.replicate m (⟨false,[],[]⟩:af)).drop (min p.length m)) r):Cp 244 [ae p,ae q,c.pv,vI a] r :=
 eG Tryz.func244 93 [1,1,1,1,5,4,1] [.q,.aV [.o,(iI (p.length:Int)),.o,(iI (q.length:Int)),.o,(iI ((q.length:Int)+a)),(iI (max (p.length:Int) ((q.length:Int)+a))),(.app m ((List.replicate m (⟨false,[],[]⟩:af):Rs).map af.cells).flatten)],.h 2 (.app (min p.length m) (((p.take (min p.length m)++(List.replicate m (⟨false,[],[]⟩:af)).drop (min p.length m)):Rs).map af.cells).flatten),.h 1 (iI (q.length:Int)),.aH [3,6,9,23,24,25],.ord [6,19]] (y7 (an af.cells p) (an af.cells q) (o0 h1) (Gk (p.length:Int) ((q.length:Int)+a)) (q9 af.cells (⟨false,[],[]⟩:af) 56 m h2 h3 rfl) (Kg aZ (List.replicate m (⟨false,[],[]⟩:af):Rs) (p:Rs) (Eq.refl (min p.length m)) h4) (an af.cells q)) hL
theorem l10(b:Int)(m:Nat)(q:Rs)(d:Nat)(c:af)(g:Rs)(v:af)(k:Nat)(v1 i j:af)(k1:Nat){r:PV}(h1:d<q.length)(h2:q[d]? = some v)(h3:ax ((d:Int)+b))(h4:((d:Int)+b)=(k:Int))(h5:k<m)(h6:g[k]? = some v1)(h7:Cp 245 [c.pv,v.pv] i.pv)(h8:Cp 70 [v1.pv,i.pv] j.pv)(h9:((d:Int)+b)=(k1:Int))(ec:k1<m)(il:k1<g.length)(mF:(d+1)<9223372036854775808)(hL:ah b m q (d+1) c (g.set k1 j) r):ah b m q d c g r :=
 lG 132 [1,3,1,1,2,2,1,1,2,2,1] [.a,.q,.t,.h 1 (.row d (af.cells v)),dr 15 1 [.none,.none,.none,(iI ((d:Int)+b)),.none,.none,.none,(iI ((d:Int)+b)),(.nat k),(.GW [vB v1.neg,aa v1.num,aa v1.den]),.none,.none,(.pv i.pv),(.pv j.pv),(.nat k1),(.cells (.pure (((g.set k1 j):Rs).map af.cells).flatten))],.h 0 (iI (((d+1):Nat):Int)),.aH [3,6,9,23,24,25],.drop [11]] (BL (ai h1) (bO af.cells (Eq.refl (((d:Nat):Int):Int)) h2) (o0 h3) (o0 h3) (cj h4 h5) (rB aZ h6) h7 h8 (cj h9 ec) (gm aZ (g:Rs) j il) (aL mF)) hL
theorem cV(b:Int)(m:Nat)(q:Rs)(d:Nat)(c:af)(g i:Rs)(h1:q.length≤d)(h2:m=g.length)(h3:Cp 106 [ae g] (ae i)):ah b m q d c g (ae i) :=
 lD 126 [1,3,1] [.a,.q,.f,.fo 9 ((g:Rs).map af.cells),.h 1 (.pv (ae i))] (y3 (ar h1) (cU aZ (g:Rs) h2) h3)
end fF
end Go.Proofs.YtllmkadmohkbfaaGreatDoor.Sym.Path
