/- Lemmas for the statements of this seat. -/
import Derived.Test.YtllmkadmohkbfaaGreatDoorU0
noncomputable section
namespace Go.Proofs.YtllmkadmohkbfaaGreatDoor.Sym.Path
open Go Tryz
set_option maxRecDepth 20000
set_option linter.unusedVariables false
namespace pQ
theorem e0(a b:au)(c d:Ws)(g i j:Bool)(k:Ws)(l:au)(h1:Cp 134 [a.pv] (aa c))(h2:Cp 134 [b.pv] (aa d))(h3:Cp 135 [a.pv] (vB g))(h4:Cp 135 [b.pv] (vB i))(h5:g=i)(h6:Cp 135 [a.pv] (vB j))(h7:Cp 137 [aa c,aa d] (aa k))(h8:Cp 136 [vB j,aa k] l.pv):Cp 66 [a.pv,b.pv] l.pv :=
 eD func66 93 [1,1,1,1,1,1,1,1] [.q,dr 4 2 [.none,(.pv (aa c)),.none,(.pv (aa d))],dr 5 1 [.none,(.pv (vB g)),.none,(.pv (vB i))],.t,.aR [.o,(.pv (vB j)),.o,.o,(.pv (aa k)),(.pv l.pv)]] (y8 h1 h2 h3 h4 (pM h5) h6 h7 h8)
theorem e1(a b:au)(c d:Ws)(g i:Bool)(j:Int)(k:Bool)(l:Ws)(m:au)(h1:Cp 134 [a.pv] (aa c))(h2:Cp 134 [b.pv] (aa d))(h3:Cp 135 [a.pv] (vB g))(h4:Cp 135 [b.pv] (vB i))(h5:g≠i)(h6:Cp 138 [aa c,aa d] (vI j))(h7:0≤j)(h8:Cp 135 [a.pv] (vB k))(h9:Cp 139 [aa c,aa d] (aa l))(dh:Cp 136 [vB k,aa l] m.pv):Cp 66 [a.pv,b.pv] m.pv :=
 eD func66 102 [1,1,1,1,1,1,1,1,1,1] [.q,dr 4 2 [.none,(.pv (aa c)),.none,(.pv (aa d))],dr 5 1 [.none,(.pv (vB g)),.none,(.pv (vB i))],.f,.h 2 (.pv (vI j)),.t,.aR [.o,(.pv (vB k)),.o,.o,(.pv (aa l)),(.pv m.pv)]] (F8 h1 h2 h3 h4 (uV h5) h6 (fo h7) h8 h9 dh)
theorem e2(a b:au)(c d:Ws)(g i:Bool)(j:Int)(k:Bool)(l:Ws)(m:au)(h1:Cp 134 [a.pv] (aa c))(h2:Cp 134 [b.pv] (aa d))(h3:Cp 135 [a.pv] (vB g))(h4:Cp 135 [b.pv] (vB i))(h5:g≠i)(h6:Cp 138 [aa c,aa d] (vI j))(h7:j<0)(h8:Cp 135 [b.pv] (vB k))(h9:Cp 139 [aa d,aa c] (aa l))(dh:Cp 136 [vB k,aa l] m.pv):Cp 66 [a.pv,b.pv] m.pv :=
 eD func66 108 [1,1,1,1,1,1,1,1,1,1] [.q,dr 4 2 [.none,(.pv (aa c)),.none,(.pv (aa d))],dr 5 1 [.none,(.pv (vB g)),.none,(.pv (vB i))],.f,.h 2 (.pv (vI j)),.f,.aR [.o,(.pv (vB k)),.o,.o,(.pv (aa l)),(.pv m.pv)]] (F8 h1 h2 h3 h4 (uV h5) h6 (gM h7) h8 h9 dh)
end pQ
namespace vy
theorem e0(n:Int)(m m1:Nat)(w:UInt32)(z:Nat)(w1:UInt32)(a:au)(h1:n%18446744073709551616=(m:Int))(h2:n<0)(h3:(0-(m:Int))%18446744073709551616=(m1:Int))(h4:m1%4294967296=w.toNat)(h5:m1/2^(min 32 64)=z)(h6:z%4294967296=w1.toNat)(h7:Cp 136 [(vB (decide (n<0))),(aa [w,w1])] a.pv):Cp 67 [vI n] a.pv :=
 eD func67 93 [1,1,1,1,1,1,3,1] [.q,.h 1 (iU m),.q,.t,.h 1 (iU m1),.aR [.o,.o,.o,iW w,.o,iU z,iW w1,(.js 0 0 (([w,w1]:Ws).map ag)),(.pv a.pv)]] (y8 (Em h1) (bR h2) (Bp h3) (cH h4) (cQ (k := .u64) h5) (cH h6) (jY aW ([w,w1]:Ws)) h7)
theorem e1(n:Int)(m:Nat)(w:UInt32)(z:Nat)(w1:UInt32)(a:au)(h1:n%18446744073709551616=(m:Int))(h2:0≤n)(h3:m%4294967296=w.toNat)(h4:m/2^(min 32 64)=z)(h5:z%4294967296=w1.toNat)(h6:Cp 136 [(vB (decide (n<0))),(aa [w,w1])] a.pv):Cp 67 [vI n] a.pv :=
 eD func67 93 [1,1,1,1,1,3,1] [.q,.h 1 (iU m),.q,.f,.aR [.o,.o,.o,iW w,.o,iU z,iW w1,(.js 0 0 (([w,w1]:Ws).map ag)),(.pv a.pv)]] (y7 (Em h1) (bf h2) (cH h3) (cQ (k := .u64) h4) (cH h5) (jY aW ([w,w1]:Ws)) h6)
end vy
namespace oi
theorem e0(a:au)(b:Ws)(h1:Cp 134 [a.pv] (aa b))(h2:b.length=0):Cp 93 [a.pv] (vI 0) :=
 eD func93 87 [1,1,1] [.q,.aR [.o,(.pv (aa b)),(iI (b.length:Int))],.t,.q] (y3 h1 (an ag b) (aN h2))
theorem e1(a:au)(b:Ws)(h1:Cp 134 [a.pv] (aa b))(h2:b.length≠0)(h3:a.neg=true):Cp 93 [a.pv] (vI (-1)) :=
 eD func93 96 [1,1,1,1] [.q,.aR [.o,(.pv (aa b)),(iI (b.length:Int))],.f,.q,.t,.q] (y4 h1 (an ag b) (aA h2) h3)
theorem e2(a:au)(b:Ws)(h1:Cp 134 [a.pv] (aa b))(h2:b.length≠0)(h3:a.neg=false):Cp 93 [a.pv] (vI 1) :=
 eD func93 102 [1,1,1,1] [.q,.aR [.o,(.pv (aa b)),(iI (b.length:Int))],.f,.q,.f,.q] (y4 h1 (an ag b) (aA h2) h3)
end oi
namespace nu
theorem e0(a b:au)(c d:Int)(h1:Cp 93 [a.pv] (vI c))(h2:Cp 93 [b.pv] (vI d))(h3:c≠d)(h4:c<d):Cp 94 [a.pv,b.pv] (vI (-1)) :=
 eD func94 102 [1,1,1,1] [.q,dr 4 2 [.none,(.pv (vI c)),.none,(.pv (vI d))],.q,.t,.q,.t,.q] (y4 h1 h2 (lx h3) (bR h4))
theorem e1(a b:au)(c d:Int)(h1:Cp 93 [a.pv] (vI c))(h2:Cp 93 [b.pv] (vI d))(h3:c≠d)(h4:d≤c):Cp 94 [a.pv,b.pv] (vI 1) :=
 eD func94 105 [1,1,1,1] [.q,dr 4 2 [.none,(.pv (vI c)),.none,(.pv (vI d))],.q,.t,.q,.f,.q] (y4 h1 h2 (lx h3) (bf h4))
theorem e2(a b:au)(c d:Int)(g i:Ws)(j:Int)(k:Bool)(h1:Cp 93 [a.pv] (vI c))(h2:Cp 93 [b.pv] (vI d))(h3:c=d)(h4:Cp 134 [a.pv] (aa g))(h5:Cp 134 [b.pv] (aa i))(h6:Cp 138 [aa g,aa i] (vI j))(h7:Cp 135 [a.pv] (vB k))(h8:k=true)(h9:ax (-j)):Cp 94 [a.pv,b.pv] (vI (-j)) :=
 eD func94 111 [1,1,1,1,1,1,1,1,1] [.q,dr 4 2 [.none,(.pv (vI c)),.none,(.pv (vI d))],.q,.f,dr 5 1 [.none,(.pv (aa g)),.none,(.pv (aa i)),(.pv (vI j))],.h 1 (.pv (vB k)),.t,.h 1 (iI (-j))] (y9 h1 h2 (gf h3) h4 h5 h6 h7 h8 (x6 h9))
theorem e3(a b:au)(c d:Int)(g i:Ws)(j:Int)(k:Bool)(h1:Cp 93 [a.pv] (vI c))(h2:Cp 93 [b.pv] (vI d))(h3:c=d)(h4:Cp 134 [a.pv] (aa g))(h5:Cp 134 [b.pv] (aa i))(h6:Cp 138 [aa g,aa i] (vI j))(h7:Cp 135 [a.pv] (vB k))(h8:k=false):Cp 94 [a.pv,b.pv] (vI j) :=
 eD func94 114 [1,1,1,1,1,1,1,1] [.q,dr 4 2 [.none,(.pv (vI c)),.none,(.pv (vI d))],.q,.f,dr 5 1 [.none,(.pv (aa g)),.none,(.pv (aa i)),(.pv (vI j))],.h 1 (.pv (vB k)),.f,.q] (y8 h1 h2 (gf h3) h4 h5 h6 h7 h8)
end nu
namespace yW
theorem e0(a b:au)(c d:Bool)(g i j:Ws)(k:au)(h1:Cp 135 [a.pv] (vB c))(h2:Cp 135 [b.pv] (vB d))(h3:Cp 134 [a.pv] (aa g))(h4:Cp 134 [b.pv] (aa i))(h5:Cp 173 [aa g,aa i] (aa j))(h6:Cp 136 [(vB (!(c==d))),aa j] k.pv):Cp 95 [a.pv,b.pv] k.pv :=
 eD func95 72 [1,1,1,1,1,1] [.q,dr 11 1 [.none,(.pv (vB c)),.none,(.pv (vB d)),.none,.none,(.pv (aa g)),.none,(.pv (aa i)),(.pv (aa j)),(.pv k.pv)]] (y6 h1 h2 h3 h4 h5 h6)
end yW
namespace iM
@[reducible] def fn:Func:=Tryz.f129
def a7:List eH:=focus [0,2,0,2,0,0,2,1,2,0,2,0,0,0] [.code (ay fn)]
def inv1(Wy:List UInt32)(Ep:List ByteArray)(a:au):St:=⟨[(1,(.ptr 1 0)),(3,(.pv (aa Wy))),(4,(.pv (dj jX Ep)))],[(1,(.lit [(eB a.neg),(.pv (aa a.cD))]))]⟩
@[reducible] def ah(Wy:List UInt32)(Ep:List ByteArray)(a:au)(r:PV):Prop:=L bp fn a7 (inv1 Wy Ep a) r
theorem e0(a:au)(b:Ws)(h1:Cp 134 [a.pv] (aa b))(h2:b.length=0):Cp 129 [a.pv] (.str (ByteArray.mk #[48])) :=
 eD func129 90 [1,1,1] [.q,.h 1 (.pv (aa b)),.h 1 (iI (b.length:Int)),.t,.q] (y3 h1 (an ag b) (aN h2))
theorem e1(a:au)(b:Ws){r:PV}(h1:Cp 134 [a.pv] (aa b))(h2:b.length≠0)(hL:ah b [] a r):Cp 129 [a.pv] r :=
 eG func129 102 [1,1,1] [.q,.h 1 (.pv (aa b)),.h 1 (iI (b.length:Int)),.f,.q,.aF [1,3,4]] (y3 h1 (an ag b) (aA h2)) hL
theorem cR(b:Ws)(c:List ByteArray)(a:au)(d:Ws)(g:UInt32)(i:ByteArray){r:PV}(h1:0<b.length)(h2:Cp 214 [aa b,(vW (1000000000:UInt32))] (.aB [aa d,vW g]))(h3:Cp 215 [(vI (g.toNat:Int))] (.str i))(h4:d.length≤0)(h5:(([i]++c):List ByteArray).length*16≤140737488355328)(hL:ah d ([i]++c) a r):ah b c a r :=
 lG 162 [1,1,1,1,1,1,1,6,3] [.a,.h 1 (iI (b.length:Int)),.t,.q,.h 1 (.pv (.aB [aa d,vW g])),.aR [.o,(iI (g.toNat:Int)),(.pv (.str i))],.h 1 (iI (d.length:Int)),.f,.h 3 (.app (([i]++c):List ByteArray).length ((([i]++c):List ByteArray).map jX).flatten),.fW 4 ((([i]++c):List ByteArray).map jX),.aF [1,3,4]] (y9 (an ag b) (aj h1) h2 (TI g) h3 (an ag d) (ar h4) (rQ Mj ([i]:List ByteArray) (c:List ByteArray) 16 (Eq.refl ([i]:List ByteArray).length) h5 rfl) (df Mj (([i]++c):List ByteArray) (Eq.refl (([i]++c):List ByteArray).length))) hL
theorem kM(b:Ws)(c:List ByteArray)(a:au)(d:ByteArray)(g:Bool)(h1:b.length≤0)(h2:Cp 217 [dj jX c,(.str (ByteArray.mk #[]))] (.str d))(h3:Cp 135 [a.pv] (vB g))(h4:g=true)(h5:(ByteArray.mk #[45]).size+d.size<9223372036854775808):ah b c a (.str ((ByteArray.mk #[45])++d)) :=
 lD 156 [1,1,1,1,1,1] [.a,.h 1 (iI (b.length:Int)),.f,.h 1 (.pv (.str d)),.h 1 (.pv (vB g)),.t,.h 1 (.pv (.str ((ByteArray.mk #[45])++d))),.q] (y6 (an ag b) (ar h1) h2 h3 h4 (wI h5))
theorem tq(b:Ws)(c:List ByteArray)(a:au)(d:ByteArray)(g:Bool)(h1:b.length≤0)(h2:Cp 217 [dj jX c,(.str (ByteArray.mk #[]))] (.str d))(h3:Cp 135 [a.pv] (vB g))(h4:g=false):ah b c a (.str d) :=
 lD 156 [1,1,1,1,1] [.a,.h 1 (iI (b.length:Int)),.f,.h 1 (.pv (.str d)),.h 1 (.pv (vB g)),.f,.q] (y5 (an ag b) (ar h1) h2 h3 h4)
end iM
namespace yX
theorem e0(a b c d:au)(h1:Cp 169 [b.pv] c.pv)(h2:Cp 66 [a.pv,c.pv] d.pv):Cp 131 [a.pv,b.pv] d.pv :=
 eD func131 72 [1,1] [.q,dr 4 1 [.none,.none,(.pv c.pv),(.pv d.pv)]] (y2 h1 h2)
end yX
namespace pR
theorem e1(a b:au)(c d g i:Ws)(j:Bool)(k l:Ws)(m n:Bool)(p s:au)(h1:Cp 134 [b.pv] (aa c))(h2:c.length≠0)(h3:Cp 134 [a.pv] (aa d))(h4:Cp 219 [aa d,aa c] (.aB [aa g,aa i]))(h5:Cp 135 [a.pv] (vB j))(h6:j=true)(h7:0<i.length)(h8:Cp 137 [aa g,(aa [(1:UInt32)])] (aa k))(h9:Cp 139 [aa c,aa i] (aa l))(dh:Cp 135 [a.pv] (vB m))(gb:Cp 135 [b.pv] (vB n))(kh:Cp 136 [(vB (!(m==n))),aa k] p.pv)(pB:Cp 136 [vB false,aa l] s.pv):Cp 132 [a.pv,b.pv] (.aB [p.pv,s.pv,.az]) :=
 eD func132 114 [1,1,1,1,1,1,1,1,1,1,1,1,3,1,1,1,1,1,1] [.q,.h 1 (.pv (aa c)),.h 1 (iI (c.length:Int)),.f,.aR [.o,(.pv (aa d)),.o,(.pv (.aB [aa g,aa i]))],.aR [.o,(.pv (vB j)),.o,.o,(iI (i.length:Int)),.o,(.dec true)],.t,.aR [.o,(.js 0 0 (([(1:UInt32)]:Ws).map ag)),(.pv (aa k)),.o,.o,(.pv (aa l))],dr 9 3 [.none,(.pv (vB m)),.none,(.pv (vB n)),.none,.none,(.pv p.pv),.none,(.pv s.pv)]] (ZS h1 (an ag c) (aA h2) h3 h4 h5 h6 h6 (an ag i) h6 h6 (aj h7) (jY aW ([(1:UInt32)]:Ws)) h8 h9 dh gb kh pB)
theorem e2(a b:au)(c d g i:Ws)(j k l:Bool)(m n:au)(h1:Cp 134 [b.pv] (aa c))(h2:c.length≠0)(h3:Cp 134 [a.pv] (aa d))(h4:Cp 219 [aa d,aa c] (.aB [aa g,aa i]))(h5:Cp 135 [a.pv] (vB j))(h6:j=true)(h7:i.length≤0)(h8:Cp 135 [a.pv] (vB k))(h9:Cp 135 [b.pv] (vB l))(dh:Cp 136 [(vB (!(k==l))),aa g] m.pv)(gb:Cp 136 [vB false,aa i] n.pv):Cp 132 [a.pv,b.pv] (.aB [m.pv,n.pv,.az]) :=
 eD func132 114 [1,1,1,1,1,1,1,1,1,1,1,1,1,1,1,1] [.q,.h 1 (.pv (aa c)),.h 1 (iI (c.length:Int)),.f,.aR [.o,(.pv (aa d)),.o,(.pv (.aB [aa g,aa i]))],.aR [.o,(.pv (vB j)),.o,.o,(iI (i.length:Int)),.o,(.dec true)],.f,dr 9 3 [.none,(.pv (vB k)),.none,(.pv (vB l)),.none,.none,(.pv m.pv),.none,(.pv n.pv)]] (Hq h1 (an ag c) (aA h2) h3 h4 h5 h6 h6 (an ag i) h6 h6 (ar h7) h8 h9 dh gb)
theorem e3(a b:au)(c d g i:Ws)(j k l:Bool)(m n:au)(h1:Cp 134 [b.pv] (aa c))(h2:c.length≠0)(h3:Cp 134 [a.pv] (aa d))(h4:Cp 219 [aa d,aa c] (.aB [aa g,aa i]))(h5:Cp 135 [a.pv] (vB j))(h6:j=false)(h7:Cp 135 [a.pv] (vB k))(h8:Cp 135 [b.pv] (vB l))(h9:Cp 136 [(vB (!(k==l))),aa g] m.pv)(dh:Cp 136 [vB false,aa i] n.pv):Cp 132 [a.pv,b.pv] (.aB [m.pv,n.pv,.az]) :=
 eD func132 114 [1,1,1,1,1,1,1,1,1,1,1,1,1,1] [.q,.h 1 (.pv (aa c)),.h 1 (iI (c.length:Int)),.f,.aR [.o,(.pv (aa d)),.o,(.pv (.aB [aa g,aa i]))],.aR [.o,(.pv (vB j)),.o,.skip,.skip,.skip,(.dec false)],.a,dr 9 3 [.none,(.pv (vB k)),.none,(.pv (vB l)),.none,.none,(.pv m.pv),.none,(.pv n.pv)]] (Lk h1 (an ag c) (aA h2) h3 h4 h5 h6 h6 h6 h6 h7 h8 h9 dh)
end pR
namespace tt
theorem e0(a:au)(b:Bool)(h1:Cp 220 [a.pv] (vB b))(h2:b=false):Cp 134 [a.pv] (aa []) :=
 eD func134 84 [1,1] [.q,.h 1 (.pv (vB b)),.t,.q] (y2 h1 (cv h2))
theorem e1(a:au)(b:Bool)(h1:Cp 220 [a.pv] (vB b))(h2:b=true):Cp 134 [a.pv] (aa a.cD) :=
 eD func134 87 [1,1] [.q,.h 1 (.pv (vB b)),.f,.q] (y2 h1 (aO h2))
end tt
namespace tu
theorem e0(a:au)(b:Bool)(h1:Cp 220 [a.pv] (vB b))(h2:b=true):Cp 135 [a.pv] (vB a.neg) :=
 eD func135 72 [1,1,1,1] [.q,.aR [.o,(.pv (vB b)),.o,.o,.o,(.dec true)]] (y4 h1 h2 h2 h2)
theorem e1(a:au)(b:Bool)(h1:Cp 220 [a.pv] (vB b))(h2:b=false):Cp 135 [a.pv] (vB false) :=
 eD func135 72 [1,1,1,1] [.q,.aR [.o,(.pv (vB b)),.o,.skip,.skip,(.dec false)]] (y4 h1 h2 h2 h2)
end tu
namespace qF
theorem e0(a:Bool)(m b:Ws)(h1:Cp 221 [aa m] (aa b))(h2:a=true):Cp 136 [vB a,aa m] ((⟨(decide ((b.length:Int)>0)),b⟩:au).pv) :=
 eD func136 78 [1,1,1,1,1,1] [.q,.h 1 (.pv (aa b)),.aR [.o,.o,.o,(iI (b.length:Int)),.o,(.dec true)]] (y6 h1 h2 h2 (an ag b) h2 h2)
theorem e1(a:Bool)(m b:Ws)(h1:Cp 221 [aa m] (aa b))(h2:a=false):Cp 136 [vB a,aa m] ((⟨false,b⟩:au).pv) :=
 eD func136 78 [1,1,1,1,1] [.q,.h 1 (.pv (aa b)),.aR [.o,.o,.skip,.skip,.skip,(.dec false)]] (y5 h1 h2 h2 h2 h2)
end qF
namespace lX
@[reducible] def fn:Func:=Tryz.f137
def a7:List eH:=focus [0,2,0,2,0,2,0,0,2,0,0] [.code (ay fn)]
def inv1(a b:List UInt32)(rS Ia:Nat)(lY:List UInt32):St:=⟨[(0,(.pv (aa a))),(1,(.pv (aa b))),(5,(.row 14 0 ((max a.length b.length)+1) 1)),(6,(eU rS)),(16,(eI ((((max a.length b.length)+1):Nat):Int))),(17,(eI (Ia:Int)))],[(14,(.pure ((lY:List UInt32).map ag).flatten))]⟩
@[reducible] def ah(a b:List UInt32)(rS Ia:Nat)(lY:List UInt32)(r:PV):Prop:=L bp fn a7 (inv1 a b rS Ia lY) r
theorem e0(a b:Ws){r:PV}(h1:((max a.length b.length)+1)<9223372036854775808)(h2:4*((max a.length b.length)+1)≤140737488355328)(hL:ah a b 0 0 (List.replicate ((max a.length b.length)+1) (0:UInt32)) r):Cp 137 [aa a,aa b] r :=
 eG func137 93 [1,1,1,1,5] [.q,.aR [.o,(iI (a.length:Int)),.o,(iI (b.length:Int)),(iI (((max a.length b.length):Nat):Int)),(iI ((((max a.length b.length)+1):Nat):Int)),(.app ((max a.length b.length)+1) ((List.replicate ((max a.length b.length)+1) (0:UInt32):Ws).map ag).flatten)],.q,.q,.aF [0,1,5,6,16,17]] (y5 (an ag a) (an ag b) (vv a.length b.length) (aM h1) (sR ag 0 4 ((max a.length b.length)+1) (Eq.refl (((((max a.length b.length)+1):Nat):Int):Int)) h2 rfl)) hL
theorem l10(a b:Ws)(c d:Nat)(g:Ws)(i j s s1:Nat)(w:UInt32)(z:Nat){r:PV}(h1:d<((max a.length b.length)+1))(h2:Cp 222 [aa a,(vI (d:Int))] (vU i))(h3:Cp 222 [aa b,(vI (d:Int))] (vU j))(h4:(i+j)%18446744073709551616=s)(h5:(c+s)%18446744073709551616=s1)(h6:s1%4294967296=w.toNat)(h7:d<g.length)(h8:s1/2^(min 32 64)=z)(h9:(d+1)<9223372036854775808)(hL:ah a b z (d+1) (g.set d w) r):ah a b c d g r :=
 lG 144 [1,1,1,1,1,1,2,2,1,1] [.a,.q,.t,.q,.aR [.o,.o,.o,(.pv (vU i)),.o,.o,(.pv (vU j)),iU s,iU s1],.aR [.o,.o,.o,iW w,(.nat d),(.cells (.pure (((g.set d w):Ws).map ag).flatten))],.h 1 (iU z),.h 0 (iI (((d+1):Nat):Int)),.aF [0,1,5,6,16,17]] (F8 (aj h1) h2 h3 (dH h4) (dH h5) (cH h6) (cj (Eq.refl (((d:Nat):Int):Int)) h1) (hJ aW (g:Ws) w h7) (cQ (k := .u64) h8) (aM h9)) hL
theorem cR(a b:Ws)(c d:Nat)(g i:Ws)(h1:((max a.length b.length)+1)≤d)(h2:((max a.length b.length)+1)=g.length)(h3:Cp 221 [aa g] (aa i)):ah a b c d g (aa i) :=
 lD 126 [1,3,1] [.a,.q,.f,.fW 5 ((g:Ws).map ag),.h 1 (.pv (aa i))] (y3 (ar h1) (df aW (g:Ws) h2) h3)
end lX
namespace dX
@[reducible] def fn:Func:=Tryz.f138
def a7:List eH:=focus [0,2,0,0,2,1,2,0,0,2,0,0] [.code (ay fn)]
def inv1(a b:List UInt32)(Bx:Int):St:=⟨[(0,(.pv (aa a))),(1,(.pv (aa b))),(5,(eI Bx))],[]⟩
@[reducible] def ah(a b:List UInt32)(Bx:Int)(r:PV):Prop:=L bp fn a7 (inv1 a b Bx) r
theorem e0(a b:Ws)(h1:a.length≠b.length)(h2:a.length<b.length):Cp 138 [aa a,aa b] (vI (-1)) :=
 eD func138 96 [1,1,1,1,1,1] [.q,.aR [.o,(iI (a.length:Int)),.o,(iI (b.length:Int))],.t,.aR [.o,(iI (a.length:Int)),.o,(iI (b.length:Int))],.t,.q] (y6 (an ag a) (an ag b) (ko h1) (an ag a) (an ag b) (aj h2))
theorem e1(a b:Ws)(h1:a.length≠b.length)(h2:b.length≤a.length):Cp 138 [aa a,aa b] (vI 1) :=
 eD func138 99 [1,1,1,1,1,1] [.q,.aR [.o,(iI (a.length:Int)),.o,(iI (b.length:Int))],.t,.aR [.o,(iI (a.length:Int)),.o,(iI (b.length:Int))],.f,.q] (y6 (an ag a) (an ag b) (ko h1) (an ag a) (an ag b) (ar h2))
theorem e2(a b:Ws){r:PV}(h1:a.length=b.length)(h2:ax ((a.length:Int)-1))(hL:ah a b ((a.length:Int)-1) r):Cp 138 [aa a,aa b] r :=
 eG func138 96 [1,1,1,1,1] [.q,.aR [.o,(iI (a.length:Int)),.o,(iI (b.length:Int))],.f,.aR [.o,(iI (a.length:Int)),(iI ((a.length:Int)-1))],.aF [0,1,5]] (y5 (an ag a) (an ag b) (iJ h1) (an ag a) (aT h2)) hL
theorem l10(a b:Ws)(c:Int)(k:Nat)(v:UInt32)(k1:Nat)(v1:UInt32)(k2:Nat)(v2:UInt32)(k3:Nat)(v3:UInt32)(h1:0≤c)(h2:c=(k:Int))(h3:a[k]? = some v)(h4:c=(k1:Int))(h5:b[k1]? = some v1)(h6:v.toNat≠v1.toNat)(h7:c=(k2:Int))(h8:a[k2]? = some v2)(h9:c=(k3:Int))(dh:b[k3]? = some v3)(gb:v2.toNat<v3.toNat):ah a b c (vI (-1)) :=
 lD 147 [1,3,3,1,3,3,1] [.a,.q,.t,dr 9 0 [.none,.none,(.row k (ag v)),.none,.none,.none,(.row k1 (ag v1))],.t,dr 9 0 [.none,.none,(.row k2 (ag v2)),.none,.none,.none,(.row k3 (ag v3))],.t,.q] (y7 (fo h1) (bT ag h2 h3) (bT ag h4 h5) (ko h6) (bT ag h7 h8) (bT ag h9 dh) (aj gb))
theorem cR(a b:Ws)(c:Int)(k:Nat)(v:UInt32)(k1:Nat)(v1:UInt32)(k2:Nat)(v2:UInt32)(k3:Nat)(v3:UInt32)(h1:0≤c)(h2:c=(k:Int))(h3:a[k]? = some v)(h4:c=(k1:Int))(h5:b[k1]? = some v1)(h6:v.toNat≠v1.toNat)(h7:c=(k2:Int))(h8:a[k2]? = some v2)(h9:c=(k3:Int))(dh:b[k3]? = some v3)(gb:v3.toNat≤v2.toNat):ah a b c (vI 1) :=
 lD 150 [1,3,3,1,3,3,1] [.a,.q,.t,dr 9 0 [.none,.none,(.row k (ag v)),.none,.none,.none,(.row k1 (ag v1))],.t,dr 9 0 [.none,.none,(.row k2 (ag v2)),.none,.none,.none,(.row k3 (ag v3))],.f,.q] (y7 (fo h1) (bT ag h2 h3) (bT ag h4 h5) (ko h6) (bT ag h7 h8) (bT ag h9 dh) (ar gb))
theorem kM(a b:Ws)(c:Int)(k:Nat)(v:UInt32)(k1:Nat)(v1:UInt32){r:PV}(h1:0≤c)(h2:c=(k:Int))(h3:a[k]? = some v)(h4:c=(k1:Int))(h5:b[k1]? = some v1)(h6:v.toNat=v1.toNat)(h7:ax (c-1))(hL:ah a b (c-1) r):ah a b c r :=
 lG 138 [1,3,3,1,1] [.a,.q,.t,dr 9 0 [.none,.none,(.row k (ag v)),.none,.none,.none,(.row k1 (ag v1))],.f,.h 1 (iI (c-1)),.aF [0,1,5]] (y5 (fo h1) (bT ag h2 h3) (bT ag h4 h5) (iJ h6) (aT h7)) hL
theorem tq(a b:Ws)(c:Int)(h1:c<0):ah a b c (vI 0) :=
 lD 129 [1] [.a,.q,.f,.q] (y1 (gM h1))
end dX
namespace lZ
@[reducible] def fn:Func:=Tryz.f139
def a7:List eH:=focus [0,2,0,2,0,2,0,0,2,0,0] [.code (ay fn)]
def inv1(a b:List UInt32)(oM Rj:Nat)(rT:List UInt32):St:=⟨[(0,(.pv (aa a))),(1,(.pv (aa b))),(5,(.row 11 0 a.length 1)),(6,(eU oM)),(13,(eI (a.length:Int))),(14,(eI (Rj:Int)))],[(11,(.pure ((rT:List UInt32).map ag).flatten))]⟩
@[reducible] def ah(a b:List UInt32)(oM Rj:Nat)(rT:List UInt32)(r:PV):Prop:=L bp fn a7 (inv1 a b oM Rj rT) r
theorem e0(a b:Ws){r:PV}(h1:4*a.length≤140737488355328)(hL:ah a b 0 0 (List.replicate a.length (0:UInt32)) r):Cp 139 [aa a,aa b] r :=
 eG func139 93 [1,5] [.q,.aR [.o,(iI (a.length:Int)),(.app a.length ((List.replicate a.length (0:UInt32):Ws).map ag).flatten)],.q,.q,.aF [0,1,5,6,13,14]] (y2 (an ag a) (sR ag 0 4 a.length (Eq.refl (((a.length:Nat):Int):Int)) h1 rfl)) hL
theorem l10(a b:Ws)(c g:Nat)(i:Ws)(v:UInt32)(j d d1:Nat)(w:UInt32)(z:Nat){r:PV}(h1:g<a.length)(h2:a[g]? = some v)(h3:Cp 222 [aa b,(vI (g:Int))] (vU j))(h4:((v.toNat:Nat)-(j:Nat):Int)%18446744073709551616=(d:Int))(h5:((d:Nat)-(c:Nat):Int)%18446744073709551616=(d1:Int))(h6:d1%4294967296=w.toNat)(h7:g<i.length)(h8:d1/2^(min 63 64)=z)(h9:(g+1)<9223372036854775808)(hL:ah a b z (g+1) (i.set g w) r):ah a b c g i r :=
 lG 144 [1,3,1,1,1,1,1,2,2,1,1] [.a,.q,.t,.q,dr 11 1 [.none,.none,(.row g (ag v)),.none,iU v.toNat,.none,.none,(.pv (vU j)),iU d,.none,iU d1],.aR [.o,.o,.o,iW w,(.nat g),(.cells (.pure (((i.set g w):Ws).map ag).flatten))],.h 1 (iU z),.h 0 (iI (((g+1):Nat):Int)),.aF [0,1,5,6,13,14]] (Dg (aj h1) (bT ag (Eq.refl (((g:Nat):Int):Int)) h2) (nq v) h3 (dx h4) (dx h5) (cH h6) (cj (Eq.refl (((g:Nat):Int):Int)) h1) (hJ aW (i:Ws) w h7) (cQ (k := .u64) h8) (aM h9)) hL
theorem cR(a b:Ws)(c d:Nat)(g i:Ws)(h1:a.length≤d)(h2:a.length=g.length)(h3:Cp 221 [aa g] (aa i)):ah a b c d g (aa i) :=
 lD 126 [1,3,1] [.a,.q,.f,.fW 5 ((g:Ws).map ag),.h 1 (.pv (aa i))] (y3 (ar h1) (df aW (g:Ws) h2) h3)
end lZ
namespace yY
theorem e0(a:au)(b:Bool)(c:Ws)(d:au)(h1:Cp 135 [a.pv] (vB b))(h2:Cp 134 [a.pv] (aa c))(h3:Cp 136 [(vB (!b)),aa c] d.pv):Cp 169 [a.pv] d.pv :=
 eD func169 72 [1,1,1] [.q,dr 6 1 [.none,(.pv (vB b)),.none,.none,(.pv (aa c)),(.pv d.pv)]] (y3 h1 h2 h3)
end yY
namespace fg
@[reducible] def fn:Func:=Tryz.f173
def a7:List eH:=focus [0,2,0,2,0,0,2,0,0] [.code (ay fn)]
def inv1(b a:List UInt32)(rU:Nat)(kN:List UInt32):St:=⟨[(1,(.pv (aa b))),(5,(.row 16 0 (a.length+b.length) 1)),(17,(.pv (aa a))),(18,(eI (a.length:Int))),(19,(eI (rU:Int)))],[(16,(.pure ((kN:List UInt32).map ag).flatten))]⟩
@[reducible] def ah(b a:List UInt32)(rU:Nat)(kN:List UInt32)(r:PV):Prop:=L bp fn a7 (inv1 b a rU kN) r
def oN:List eH:=focus [0,2,0,2,0,0,2,0,0,0,0,2,0,0,2,0,0,0,2,0,2,0,0,2,0,0] [.code (ay fn)]
def inv2(b a:List UInt32)(Ms:Nat)(v:UInt32)(Er rU Rk:Nat)(kN:List UInt32):St:=⟨[(1,(.pv (aa b))),(5,(.row 16 0 (a.length+b.length) 1)),(6,(eI (Ms:Int))),(7,(eW v)),(8,(eU Er)),(17,(.pv (aa a))),(18,(eI (a.length:Int))),(19,(eI (rU:Int))),(24,(.pv (aa b))),(25,(eI (b.length:Int))),(26,(eI (Rk:Int)))],[(16,(.pure ((kN:List UInt32).map ag).flatten))]⟩
@[reducible] def bK(b a:List UInt32)(Ms:Nat)(v:UInt32)(Er rU Rk:Nat)(kN:List UInt32)(r:PV):Prop:=L bp fn oN (inv2 b a Ms v Er rU Rk kN) r
theorem e0(a b:Ws){r:PV}(h1:(a.length+b.length)<9223372036854775808)(h2:4*(a.length+b.length)≤140737488355328)(hL:ah b a 0 (List.replicate (a.length+b.length) (0:UInt32)) r):Cp 173 [aa a,aa b] r :=
 eG func173 87 [1,1,1,5,1] [.q,.aR [.o,(iI (a.length:Int)),.o,(iI (b.length:Int)),(iI (((a.length+b.length):Nat):Int)),(.app (a.length+b.length) ((List.replicate (a.length+b.length) (0:UInt32):Ws).map ag).flatten)],.h 1 (iI (a.length:Int)),.aF [1,5,17,18,19]] (y5 (an ag a) (an ag b) (aM h1) (sR ag 0 4 (a.length+b.length) (Eq.refl ((((a.length+b.length):Nat):Int):Int)) h2 rfl) (an ag a)) hL
theorem l10(b a:Ws)(c:Nat)(d:Ws)(v:UInt32){r:PV}(h1:c<a.length)(h2:a[c]? = some v)(hL:bK b a c v 0 c 0 d r):ah b a c d r :=
 lG 138 [1,3,1] [.a,.q,.t,.h 1 (.row c (ag v)),.q,.h 1 (iI (b.length:Int)),.aF [1,5,6,7,8,17,18,19,24,25,26]] (y3 (aj h1) (bT ag (Eq.refl (((c:Nat):Int):Int)) h2) (an ag b)) hL
theorem cR(b a:Ws)(c:Nat)(d g:Ws)(h1:a.length≤c)(h2:(a.length+b.length)=d.length)(h3:Cp 221 [aa d] (aa g)):ah b a c d (aa g) :=
 lD 120 [1,3,1] [.a,.q,.f,.fW 5 ((d:Ws).map ag),.h 1 (.pv (aa g))] (y3 (ar h1) (df aW (d:Ws) h2) h3)
theorem Ac(b a:Ws)(c:Nat)(v:UInt32)(d g i:Nat)(j:Ws)(v1:UInt32)(p:Nat)(v2:UInt32)(s s1:Nat)(w:UInt32)(z:Nat){r:PV}(h1:i<b.length)(h2:b[i]? = some v1)(h3:(v.toNat*v1.toNat)%18446744073709551616=p)(h4:(c+i)<9223372036854775808)(h5:(c+i)<(a.length+b.length))(h6:j[(c+i)]? = some v2)(h7:(p+v2.toNat)%18446744073709551616=s)(h8:(d+s)%18446744073709551616=s1)(h9:s1%4294967296=w.toNat)(dh:(c+i)<j.length)(gb:s1/2^(min 32 64)=z)(kh:(i+1)<9223372036854775808)(hL:bK b a c v z g (i+1) (j.set (c+i) w) r):bK b a c v d g i j r :=
 lG 189 [1,3,1,1,1,1,2,1,1,1,1,1,1,2,2,1,1] [.a,.q,.t,.h 1 (.row i (ag v1)),.aR [.o,.o,iU v.toNat,.o,iU v1.toNat,iU p,.o,.o,.o,(iI (((c+i):Nat):Int)),(.nat (c+i)),(.ev (.pv (vW v2))),iU v2.toNat,iU s,iU s1],.aR [.o,.o,.o,(iI (((c+i):Nat):Int)),.o,iW w,(.nat (c+i)),(.cells (.pure (((j.set (c+i) w):Ws).map ag).flatten))],.h 1 (iU z),.h 0 (iI (((i+1):Nat):Int)),.aF [1,5,6,7,8,17,18,19,24,25,26]] (P4 (aj h1) (bT ag (Eq.refl (((i:Nat):Int):Int)) h2) (nq v) (nq v1) (mI h3) (aM h4) (cj (Eq.refl ((((c+i):Nat):Int):Int)) h5) (gg (enc:=ag) (f:=fun a=>(vW a)) (fun _=>rfl) h6) (nq v2) (dH h7) (dH h8) (aM h4) (cH h9) (cj (Eq.refl ((((c+i):Nat):Int):Int)) h5) (hJ aW (j:Ws) w dh) (cQ (k := .u64) gb) (aM kh)) hL
theorem CN(b a:Ws)(c:Nat)(v:UInt32)(d g i:Nat)(j:Ws)(w:UInt32){r:PV}(h1:b.length≤i)(h2:(c+b.length)<9223372036854775808)(h3:d%4294967296=w.toNat)(h4:(c+b.length)<(a.length+b.length))(h5:(c+b.length)<j.length)(h6:(g+1)<9223372036854775808)(hL:ah b a (g+1) (j.set (c+b.length) w) r):bK b a c v d g i j r :=
 lG 174 [1,1,1,1,2,2,1] [.a,.q,.f,.aR [.o,.o,.o,(iI (b.length:Int)),(iI (((c+b.length):Nat):Int)),.o,iW w,(.nat (c+b.length)),(.cells (.pure (((j.set (c+b.length) w):Ws).map ag).flatten))],.h 0 (iI (((g+1):Nat):Int)),.aF [1,5,17,18,19]] (y7 (ar h1) (an ag b) (aM h2) (cH h3) (cj (Eq.refl ((((c+b.length):Nat):Int):Int)) h4) (hJ aW (j:Ws) w h5) (aM h6)) hL
end fg
namespace lz
@[reducible] def fn:Func:=Tryz.f192
def a7:List eH:=focus [0,2,0,2,0,0,0] [.code (ay fn)]
def inv1(Wz WA:List UInt32):St:=⟨[(4,(.ptr 4 0)),(5,(.pv (aa Wz))),(6,(.pv (aa WA)))],[(4,(.lit [(eB false),(.pv (.list []))]))]⟩
@[reducible] def ah(Wz WA:List UInt32)(r:PV):Prop:=L bp fn a7 (inv1 Wz WA) r
theorem e0(a b:au)(c d:Ws){r:PV}(h1:Cp 134 [a.pv] (aa c))(h2:Cp 134 [b.pv] (aa d))(hL:ah c d r):Cp 192 [a.pv,b.pv] r :=
 eG func192 81 [1,1] [.q,dr 4 2 [.none,(.pv (aa c)),.none,(.pv (aa d))],.aF [4,5,6],.drop [3,2]] (y2 h1 h2) hL
theorem l10(b c d g:Ws){r:PV}(h1:0<c.length)(h2:Cp 219 [aa b,aa c] (.aB [aa d,aa g]))(hL:ah c g r):ah b c r :=
 lG 114 [1,1,1] [.a,.h 1 (iI (c.length:Int)),.t,.h 2 (.pv (.aB [aa d,aa g])),.q,.aF [4,5,6]] (y3 (an ag c) (aj h1) h2) hL
theorem cR(b c:Ws)(d:au)(h1:c.length≤0)(h2:Cp 136 [vB false,aa b] d.pv):ah b c d.pv :=
 lD 114 [1,1,1] [.a,.h 1 (iI (c.length:Int)),.f,.h 1 (.pv d.pv)] (y3 (an ag c) (ar h1) h2)
end lz
namespace kB
@[reducible] def fn:Func:=Tryz.f214
def a7:List eH:=focus [0,2,0,2,0,2,0,0,2,0,0] [.code (ay fn)]
def inv1(a:List UInt32)(b:UInt32)(vz:Nat)(Es:Int)(rT:List UInt32):St:=⟨[(0,(.pv (aa a))),(1,(eW b)),(6,(.row 11 0 a.length 1)),(7,(eU vz)),(8,(eI Es))],[(11,(.pure ((rT:List UInt32).map ag).flatten))]⟩
@[reducible] def ah(a:List UInt32)(b:UInt32)(vz:Nat)(Es:Int)(rT:List UInt32)(r:PV):Prop:=L bp fn a7 (inv1 a b vz Es rT) r
theorem e0(a:Ws)(b:UInt32){r:PV}(h1:4*a.length≤140737488355328)(h2:ax ((a.length:Int)-1))(hL:ah a b 0 ((a.length:Int)-1) (List.replicate a.length (0:UInt32)) r):Cp 214 [aa a,vW b] r :=
 eG func214 93 [1,5,1,1] [.q,.aR [.o,(iI (a.length:Int)),(.app a.length ((List.replicate a.length (0:UInt32):Ws).map ag).flatten)],.q,.aR [.o,(iI (a.length:Int)),(iI ((a.length:Int)-1))],.aF [0,1,6,7,8]] (y4 (an ag a) (sR ag 0 4 a.length (Eq.refl (((a.length:Nat):Int):Int)) h1 rfl) (an ag a) (aT h2)) hL
theorem l10(a:Ws)(b:UInt32)(c:Nat)(d:Int)(g:Ws)(z k:Nat)(v:UInt32)(z1 q:Nat)(w:UInt32)(k1 m:Nat){r:PV}(h1:0≤d)(h2:(c*2^(min 32 64))%18446744073709551616=z)(h3:d=(k:Int))(h4:a[k]? = some v)(h5:(z%18446744073709551616) ||| (v.toNat%18446744073709551616)=z1)(h6:b.toNat≠0)(h7:(z1/b.toNat)%18446744073709551616=q)(h8:q%4294967296=w.toNat)(h9:d=(k1:Int))(dh:k1<a.length)(gb:k1<g.length)(kh:z1%b.toNat=m)(pB:ax (d-1))(hL:ah a b m (d-1) (g.set k1 w) r):ah a b c d g r :=
 lG 138 [1,1,3,1,1,1,1,1,2,2,1,1,1] [.a,.q,.t,.aR [.o,iU z,.o,.o,(.row k (ag v)),.o,iU v.toNat,iU z1],.aR [.o,.o,.o,.o,iU b.toNat,iU q,iW w,(.nat k1),(.cells (.pure (((g.set k1 w):Ws).map ag).flatten))],.aR [.o,.o,iU b.toNat,iU m],.h 1 (iI (d-1)),.aF [0,1,6,7,8]] (Js (fo h1) (iH (k := .u64) h2) (bT ag h3 h4) (nq v) (mJ h5) (nq b) (Bm h6 h7) (cH h8) (cj h9 dh) (hJ aW (g:Ws) w gb) (nq b) (Bn h6 kh) (aT pB)) hL
theorem cR(a:Ws)(b:UInt32)(c:Nat)(d:Int)(g i:Ws)(w:UInt32)(h1:d<0)(h2:a.length=g.length)(h3:Cp 221 [aa g] (aa i))(h4:c%4294967296=w.toNat):ah a b c d g (.aB [aa i,vW w]) :=
 lD 126 [1,3,1,1] [.a,.q,.f,.fW 6 ((g:Ws).map ag),.aR [.o,(.pv (aa i)),.o,iW w]] (y4 (gM h1) (df aW (g:Ws) h2) h3 (cH h4))
end kB
namespace bC
@[reducible] def fn:Func:=Tryz.f219
def a7:List eH:=focus [0,2,0,0,2,1,2,0,0,2,1,2,0,2,0,2,0,2,0,2,0,0,2,0,0] [.code (ay fn)]
def inv1(Rl:Int)(up b:List UInt32)(n m:Nat)(v1 v2:UInt32)(Ib:Int)(rW rX:List UInt32):St:=⟨[(8,(eI Rl)),(9,(.pv (aa (up.take b.length)))),(10,(.row 55 0 n 1)),(11,(.row 61 0 m 1)),(12,(eU v1.toNat)),(13,(eU v2.toNat)),(14,(eI Ib))],[(55,(.pure ((rW:List UInt32).map ag).flatten)),(61,(.pure ((rX:List UInt32).map ag).flatten))]⟩
@[reducible] def ah(Rl:Int)(up b:List UInt32)(n m:Nat)(v1 v2:UInt32)(Ib:Int)(rW rX:List UInt32)(r:PV):Prop:=L bp fn a7 (inv1 Rl up b n m v1 v2 Ib rW rX) r
def oN:List eH:=focus [0,2,0,0,2,1,2,0,0,2,1,2,0,2,0,2,0,2,0,2,0,0,2,0,0,0,0,0,2,0,2,0,0,0,2,0,2,0,2,0,0,0] [.code (ay fn)]
def inv2(Rl:Int)(up b:List UInt32)(n m:Nat)(v1 v2:UInt32)(Ib:Int)(l u By Et:Nat)(rW rX:List UInt32):St:=⟨[(8,(eI Rl)),(9,(.pv (aa (up.take b.length)))),(10,(.row 55 0 n 1)),(11,(.row 61 0 m 1)),(12,(eU v1.toNat)),(13,(eU v2.toNat)),(14,(eI Ib)),(15,(.row 55 (0+l*1) (u-l) 1)),(17,(eU By)),(18,(eU Et))],[(55,(.pure ((rW:List UInt32).map ag).flatten)),(61,(.pure ((rX:List UInt32).map ag).flatten))]⟩
@[reducible] def bK(Rl:Int)(up b:List UInt32)(n m:Nat)(v1 v2:UInt32)(Ib:Int)(l u By Et:Nat)(rW rX:List UInt32)(r:PV):Prop:=L bp fn oN (inv2 Rl up b n m v1 v2 Ib l u By Et rW rX) r
theorem e0(a b:Ws)(c:Int)(d:Ws)(h1:Cp 138 [aa a,aa b] (vI c))(h2:c<0)(h3:Cp 221 [aa a] (aa d)):Cp 219 [aa a,aa b] (.aB [(aa []),aa d]) :=
 eD func219 84 [1,1,1] [.q,.h 2 (.pv (vI c)),.t,.h 1 (.pv (aa d))] (y3 h1 (bR h2) h3)
theorem e1(a b:Ws)(c:Int)(v:UInt32)(d:Ws)(g:UInt32)(i:Ws)(h1:Cp 138 [aa a,aa b] (vI c))(h2:0≤c)(h3:b.length=1)(h4:b[0]? = some v)(h5:Cp 214 [aa a,vW v] (.aB [aa d,vW g]))(h6:Cp 221 [(aa [g])] (aa i)):Cp 219 [aa a,aa b] (.aB [aa d,aa i]) :=
 eD func219 105 [1,1,1,1,3,1,3,1] [.q,.h 2 (.pv (vI c)),.f,.h 1 (iI (b.length:Int)),.t,.aR [.o,.o,(.row 0 (ag v)),.o,(.pv (.aB [aa d,vW g]))],.aR [.o,.o,(.js 0 0 (([g]:Ws).map ag)),(.pv (aa i))]] (y8 h1 (bf h2) (an ag b) (aN h3) (bT ag (Eq.refl (0:Int)) h4) h5 (jY aW ([g]:Ws)) h6)
theorem e2(a b:Ws)(c:Int)(k:Nat)(v:UInt32)(d:Int)(up z:Ws)(n m k1:Nat)(v1:UInt32)(k2:Nat)(v2:UInt32){r:PV}(h1:Cp 138 [aa a,aa b] (vI c))(h2:0≤c)(h3:b.length≠1)(h4:ax ((b.length:Int)-1))(h5:((b.length:Int)-1)=(k:Int))(h6:b[k]? = some v)(h7:Cp 269 [vW v] (vI d))(h8:Cp 270 [aa b,vI d] (aa up))(h9:b.length≤up.length)(dh:av bp 270 [.pv (aa a),.pv (vI d)] [] (.row 0 0 n 1) [(0,(.pure ((z:Ws).map ag).flatten))])(gb:ax ((n:Int)-(((up.take b.length).length:Nat):Int)))(kh:((n:Int)-(((up.take b.length).length:Nat):Int))=(m:Int))(pB:4*m≤140737488355328)(uL:ax ((((up.take b.length).length:Nat):Int)-1))(oO:((((up.take b.length).length:Nat):Int)-1)=(k1:Int))(yD:(up.take b.length)[k1]? = some v1)(Ad:ax ((((up.take b.length).length:Nat):Int)-2))(Ju:((((up.take b.length).length:Nat):Int)-2)=(k2:Int))(Ic:(up.take b.length)[k2]? = some v2)(Rm:ax ((m:Int)-1))(hL:ah d up b n m v1 v2 ((m:Int)-1) z (List.replicate m (0:UInt32)) r):Cp 219 [aa a,aa b] r :=
 eG func219 135 [1,1,1,1,1,1,3,1,1,1,6,1,1,1,5,1,1,3,1,1,1,3,1,1] [.q,.h 2 (.pv (vI c)),.f,.h 1 (iI (b.length:Int)),.f,.aR [.o,.o,(iI (b.length:Int)),(iI ((b.length:Int)-1)),(.row k (ag v)),.o,(.pv (vI d))],dr 9 2 [.none,.none,(.pv (aa up)),.none,(iI (b.length:Int)),(.js 0 b.length (((up.take b.length):Ws).map ag)),.none,.none,(.bO [] (some (0,55)) (.row 0 0 n 1) [(0,(.pure ((z:Ws).map ag).flatten))])],.aR [.o,.o,.o,(iI (((up.take b.length).length:Nat):Int)),(iI ((n:Int)-(((up.take b.length).length:Nat):Int))),(.app m ((List.replicate m (0:UInt32):Ws).map ag).flatten)],dr 15 1 [.none,.none,(iI (((up.take b.length).length:Nat):Int)),(iI ((((up.take b.length).length:Nat):Int)-1)),(.row k1 (ag v1)),.none,iU v1.toNat,.none,.none,(iI (((up.take b.length).length:Nat):Int)),(iI ((((up.take b.length).length:Nat):Int)-2)),(.row k2 (ag v2)),.none,iU v2.toNat],.h 2 (iI ((m:Int)-1)),.aF [8,9,10,11,12,13,14],.ord [55,61]] (Ww h1 (bf h2) (an ag b) (aA h3) (an ag b) (aT h4) (bT ag h5 h6) h7 h8 (an ag b) (wL aW (up:Ws) (Eq.refl (((b.length:Nat):Int):Int)) h9) dh (an ag (up.take b.length)) (aT gb) (sR ag 0 4 m kh pB rfl) (an ag (up.take b.length)) (aT uL) (bT ag oO yD) (nq v1) (an ag (up.take b.length)) (aT Ad) (bT ag Ju Ic) (nq v2) (aT Rm)) hL
theorem l10(c:Int)(up b:Ws)(n m:Nat)(v1 v2:UInt32)(d:Int)(g i:Ws)(l u:Nat)(v:UInt32)(z k:Nat)(v3:UInt32)(z1 q m1:Nat){r:PV}(h1:0≤d)(h2:ax (d+(((up.take b.length).length:Nat):Int)))(h3:ax ((d+(((up.take b.length).length:Nat):Int))+1))(h4:d=(l:Int))(h5:((d+(((up.take b.length).length:Nat):Int))+1)=(u:Int))(h6:l=0∨l<u)(h7:l≤u)(h8:u≤n)(h9:(up.take b.length).length<(u-l))(dh:g[(0+l*1)+((up.take b.length).length)]? = some v)(gb:(v.toNat*2^(min 32 64))%18446744073709551616=z)(kh:ax ((((up.take b.length).length:Nat):Int)-1))(pB:((((up.take b.length).length:Nat):Int)-1)=(k:Int))(uL:k<(u-l))(oO:g[(0+l*1)+k]? = some v3)(yD:(z%18446744073709551616) ||| (v3.toNat%18446744073709551616)=z1)(Ad:v1.toNat≠0)(Ju:(z1/v1.toNat)%18446744073709551616=q)(Ic:z1%v1.toNat=m1)(hL:bK c up b n m v1 v2 d l u q m1 g i r):ah c up b n m v1 v2 d g i r :=
 lG 186 [1,1,1,1,5,1,2,1,1,1,1,1,2,1,1,1,1,1] [.a,.q,.t,.aR [.o,.o,.o,.o,(iI (((up.take b.length).length:Nat):Int)),(iI (d+(((up.take b.length).length:Nat):Int))),(iI ((d+(((up.take b.length).length:Nat):Int))+1)),(.js l u [])],dr 15 1 [.none,.none,(iI (((up.take b.length).length:Nat):Int)),(.nat ((up.take b.length).length)),(.ev (.pv (vW v))),iU v.toNat,iU z,.none,.none,(iI (((up.take b.length).length:Nat):Int)),(iI ((((up.take b.length).length:Nat):Int)-1)),(.nat k),(.ev (.pv (vW v3))),iU v3.toNat,iU z1],dr 7 1 [.none,.none,iU q,.none,.none,iU m1],.aF [8,9,10,11,12,13,14,15,17,18]] (TQ (fo h1) (an ag (up.take b.length)) (qC h2) (qC h3) (TO h4 h5 h6 h7 h8) (an ag (up.take b.length)) (cj (Eq.refl ((((up.take b.length).length:Nat):Int):Int)) h9) (vw (enc:=ag) (f:=fun a=>(vW a)) (fun _=>rfl) dh) (nq v) (iH (k := .u64) gb) (an ag (up.take b.length)) (aT kh) (cj pB uL) (vw (enc:=ag) (f:=fun a=>(vW a)) (fun _=>rfl) oO) (nq v3) (mJ yD) (Bm Ad Ju) (Bn Ad Ic)) hL
theorem cR(c:Int)(up b:Ws)(n m:Nat)(v1 v2:UInt32)(d:Int)(g i j k:Ws)(h1:d<0)(h2:m=i.length)(h3:n=g.length)(h4:Cp 221 [aa i] (aa j))(h5:Cp 273 [aa g,vI c] (aa k)):ah c up b n m v1 v2 d g i (.aB [aa j,aa k]) :=
 lD 168 [1,3,3,1,1] [.a,.q,.f,.fW 11 ((i:Ws).map ag),.fW 10 ((g:Ws).map ag),.aR [.o,(.pv (aa j)),.o,.o,(.pv (aa k))]] (y5 (gM h1) (df aW (i:Ws) h2) (df aW (g:Ws) h3) h4 h5)
theorem Ac(c:Int)(up b:Ws)(n m:Nat)(v1 v2:UInt32)(g:Int)(l u i j:Nat)(k p:Ws)(d s:Nat){r:PV}(h1:j<4294967296)(h2:4294967296≤i)(h3:((i:Nat)-(1:Nat):Int)%18446744073709551616=(d:Int))(h4:(j+v1.toNat)%18446744073709551616=s)(hL:bK c up b n m v1 v2 g l u d s k p r):bK c up b n m v1 v2 g l u i j k p r :=
 lG 219 [1,1,1,1,1,1,1,1,1,1,1,1,1,1,1,1,1,1,1,1,1,1] [.a,.aR [.o,.o,.o,.o,.o,.o,.skip,.skip,.skip,.skip,.skip,.skip,.skip,.skip,.skip,.skip,.skip,.skip,.skip,.skip,(.dec true),(.dec true)],.a,.h 1 (iU d),.h 2 (iU s),.aF [8,9,10,11,12,13,14,15,17,18]] (Yp (aj h1) (aj h1) (aj h1) (dy h2) (dy h2) (dy h2) (dy h2) (dy h2) (dy h2) (dy h2) (dy h2) (dy h2) (dy h2) (dy h2) (dy h2) (dy h2) (dy h2) (aj h1) (dy h2) (aj h1) (dx h3) (dH h4)) hL
theorem CN(c:Int)(up b:Ws)(n m:Nat)(v1 v2:UInt32)(g:Int)(l u i j:Nat)(q w:Ws)(p z k:Nat)(v:UInt32)(z1 d s:Nat){r:PV}(h1:j<4294967296)(h2:i<4294967296)(h3:(i*v2.toNat)%18446744073709551616=p)(h4:(j*2^(min 32 64))%18446744073709551616=z)(h5:ax ((((up.take b.length).length:Nat):Int)-2))(h6:((((up.take b.length).length:Nat):Int)-2)=(k:Int))(h7:k<(u-l))(h8:q[(0+l*1)+k]? = some v)(h9:(z%18446744073709551616) ||| (v.toNat%18446744073709551616)=z1)(dh:z1<p)(gb:((i:Nat)-(1:Nat):Int)%18446744073709551616=(d:Int))(kh:(j+v1.toNat)%18446744073709551616=s)(hL:bK c up b n m v1 v2 g l u d s q w r):bK c up b n m v1 v2 g l u i j q w r :=
 lG 219 [1,1,1,1,1,1,1,1,1,1,1,1,1,1,1,1,1,2,1,1,1,1,1,1,1,1,1,1,1,1,1] [.a,.aR [.o,.o,.o,.o,.o,.o,.o,.o,iU p,.o,iU z,.o,.o,(iI (((up.take b.length).length:Nat):Int)),(iI ((((up.take b.length).length:Nat):Int)-2)),(.nat k),(.ev (.pv (vW v))),iU v.toNat,iU z1,.o,(.dec false),(.dec true)],.t,.h 1 (iU d),.h 2 (iU s),.aF [8,9,10,11,12,13,14,15,17,18]] (ZV (aj h1) (aj h1) (aj h1) (bQ h2) (bQ h2) (bQ h2) (mI h3) (bQ h2) (bQ h2) (iH (k := .u64) h4) (bQ h2) (bQ h2) (bQ h2) (an ag (up.take b.length)) (bQ h2) (aT h5) (bQ h2) (cj h6 h7) (bQ h2) (vw (enc:=ag) (f:=fun a=>(vW a)) (fun _=>rfl) h8) (bQ h2) (nq v) (bQ h2) (mJ h9) (bQ h2) (aj h1) (bQ h2) (aj h1) (aj dh) (dx gb) (dH kh)) hL
theorem Mt(c:Int)(up b:Ws)(n m:Nat)(v1 v2:UInt32)(g:Int)(l u i j:Nat)(q s:Ws)(p z k:Nat)(v:UInt32)(z1:Nat)(z2:Ws)(x:Bool)(d:Nat)(z3:Ws)(w:UInt32)(k1:Nat){r:PV}(h1:j<4294967296)(h2:i<4294967296)(h3:(i*v2.toNat)%18446744073709551616=p)(h4:(j*2^(min 32 64))%18446744073709551616=z)(h5:ax ((((up.take b.length).length:Nat):Int)-2))(h6:((((up.take b.length).length:Nat):Int)-2)=(k:Int))(h7:k<(u-l))(h8:q[(0+l*1)+k]? = some v)(h9:(z%18446744073709551616) ||| (v.toNat%18446744073709551616)=z1)(dh:p≤z1)(gb:av bp 271 [.row 100000 (0+l*1) (u-l) 1,.pv (aa (up.take b.length)),.pv (vU i)] [(100000,(.pure ((q:Ws).map ag).flatten))] (.pv (vB x)) [(100000,(.pure ((z2:Ws).map ag).flatten))])(kh:x=true)(pB:((i:Nat)-(1:Nat):Int)%18446744073709551616=(d:Int))(uL:av bp 272 [.row 100000 (0+l*1) (u-l) 1,.pv (aa (up.take b.length))] [(100000,(.pure ((z2:Ws).map ag).flatten))] (.pv (.aB [])) [(100000,(.pure ((z3:Ws).map ag).flatten))])(oO:d%4294967296=w.toNat)(yD:g=(k1:Int))(Ad:k1<m)(Ju:k1<s.length)(Ic:ax (g-1))(hL:ah c up b n m v1 v2 (g-1) z3 (s.set k1 w) r):bK c up b n m v1 v2 g l u i j q s r :=
 lG 243 [1,1,1,1,1,1,1,1,1,1,1,1,1,1,1,1,1,2,1,1,1,1,1,1,1,1,1,1,1,1,1,1,1,1,2,2,1] [.a,.aR [.o,.o,.o,.o,.o,.o,.o,.o,iU p,.o,iU z,.o,.o,(iI (((up.take b.length).length:Nat):Int)),(iI ((((up.take b.length).length:Nat):Int)-2)),(.nat k),(.ev (.pv (vW v))),iU v.toNat,iU z1,.o,(.dec false),(.dec true)],.f,.h 3 (.bO [(55,100000)] none (.pv (vB x)) [(100000,(.pure ((z2:Ws).map ag).flatten))]),.t,.h 1 (iU d),.h 2 (.bO [(55,100000)] none (.pv (.aB [])) [(100000,(.pure ((z3:Ws).map ag).flatten))]),.aR [.o,.o,.o,iW w,(.nat k1),(.cells (.pure (((s.set k1 w):Ws).map ag).flatten))],.h 1 (iI (g-1)),.aF [8,9,10,11,12,13,14]] (Yv (aj h1) (aj h1) (aj h1) (bQ h2) (bQ h2) (bQ h2) (mI h3) (bQ h2) (bQ h2) (iH (k := .u64) h4) (bQ h2) (bQ h2) (bQ h2) (an ag (up.take b.length)) (bQ h2) (aT h5) (bQ h2) (cj h6 h7) (bQ h2) (vw (enc:=ag) (f:=fun a=>(vW a)) (fun _=>rfl) h8) (bQ h2) (nq v) (bQ h2) (mJ h9) (bQ h2) (aj h1) (bQ h2) (aj h1) (ar dh) gb kh (dx pB) uL (cH oO) (cj yD Ad) (hJ aW (s:Ws) w Ju) (aT Ic)) hL
theorem ZZ(c:Int)(up b:Ws)(n m:Nat)(v1 v2:UInt32)(d:Int)(l u g i:Nat)(j q:Ws)(p z k:Nat)(v:UInt32)(z1:Nat)(z2:Ws)(s:Bool)(w:UInt32)(k1:Nat){r:PV}(h1:i<4294967296)(h2:g<4294967296)(h3:(g*v2.toNat)%18446744073709551616=p)(h4:(i*2^(min 32 64))%18446744073709551616=z)(h5:ax ((((up.take b.length).length:Nat):Int)-2))(h6:((((up.take b.length).length:Nat):Int)-2)=(k:Int))(h7:k<(u-l))(h8:j[(0+l*1)+k]? = some v)(h9:(z%18446744073709551616) ||| (v.toNat%18446744073709551616)=z1)(dh:p≤z1)(gb:av bp 271 [.row 100000 (0+l*1) (u-l) 1,.pv (aa (up.take b.length)),.pv (vU g)] [(100000,(.pure ((j:Ws).map ag).flatten))] (.pv (vB s)) [(100000,(.pure ((z2:Ws).map ag).flatten))])(kh:s=false)(pB:g%4294967296=w.toNat)(uL:d=(k1:Int))(oO:k1<m)(yD:k1<q.length)(Ad:ax (d-1))(hL:ah c up b n m v1 v2 (d-1) z2 (q.set k1 w) r):bK c up b n m v1 v2 d l u g i j q r :=
 lG 237 [1,1,1,1,1,1,1,1,1,1,1,1,1,1,1,1,1,2,1,1,1,1,1,1,1,1,1,1,1,1,1,1,2,2,1] [.a,.aR [.o,.o,.o,.o,.o,.o,.o,.o,iU p,.o,iU z,.o,.o,(iI (((up.take b.length).length:Nat):Int)),(iI ((((up.take b.length).length:Nat):Int)-2)),(.nat k),(.ev (.pv (vW v))),iU v.toNat,iU z1,.o,(.dec false),(.dec true)],.f,.h 3 (.bO [(55,100000)] none (.pv (vB s)) [(100000,(.pure ((z2:Ws).map ag).flatten))]),.f,.aR [.o,.o,.o,iW w,(.nat k1),(.cells (.pure (((q.set k1 w):Ws).map ag).flatten))],.h 1 (iI (d-1)),.aF [8,9,10,11,12,13,14]] (Yt (aj h1) (aj h1) (aj h1) (bQ h2) (bQ h2) (bQ h2) (mI h3) (bQ h2) (bQ h2) (iH (k := .u64) h4) (bQ h2) (bQ h2) (bQ h2) (an ag (up.take b.length)) (bQ h2) (aT h5) (bQ h2) (cj h6 h7) (bQ h2) (vw (enc:=ag) (f:=fun a=>(vW a)) (fun _=>rfl) h8) (bQ h2) (nq v) (bQ h2) (mJ h9) (bQ h2) (aj h1) (bQ h2) (aj h1) (ar dh) gb kh (cH pB) (cj uL oO) (hJ aW (q:Ws) w yD) (aT Ad)) hL
theorem Yx(c:Int)(up b:Ws)(n m:Nat)(v1 v2:UInt32)(g:Int)(l u i j:Nat)(p q z:Ws)(s:Bool)(d:Nat)(z1:Ws)(w:UInt32)(k:Nat){r:PV}(h1:4294967296≤j)(h2:av bp 271 [.row 100000 (0+l*1) (u-l) 1,.pv (aa (up.take b.length)),.pv (vU i)] [(100000,(.pure ((p:Ws).map ag).flatten))] (.pv (vB s)) [(100000,(.pure ((z:Ws).map ag).flatten))])(h3:s=true)(h4:((i:Nat)-(1:Nat):Int)%18446744073709551616=(d:Int))(h5:av bp 272 [.row 100000 (0+l*1) (u-l) 1,.pv (aa (up.take b.length))] [(100000,(.pure ((z:Ws).map ag).flatten))] (.pv (.aB [])) [(100000,(.pure ((z1:Ws).map ag).flatten))])(h6:d%4294967296=w.toNat)(h7:g=(k:Int))(h8:k<m)(h9:k<q.length)(dh:ax (g-1))(hL:ah c up b n m v1 v2 (g-1) z1 (q.set k w) r):bK c up b n m v1 v2 g l u i j p q r :=
 lG 243 [1,1,1,1,1,1,1,1,1,1,2,2,1] [.a,.aR [.o,.o,.o,.skip,.skip,.skip,.skip,.skip,.skip,.skip,.skip,.skip,.skip,.skip,.skip,.skip,.skip,.skip,.skip,.skip,.skip,(.dec false)],.a,.h 3 (.bO [(55,100000)] none (.pv (vB s)) [(100000,(.pure ((z:Ws).map ag).flatten))]),.t,.h 1 (iU d),.h 2 (.bO [(55,100000)] none (.pv (.aB [])) [(100000,(.pure ((z1:Ws).map ag).flatten))]),.aR [.o,.o,.o,iW w,(.nat k),(.cells (.pure (((q.set k w):Ws).map ag).flatten))],.h 1 (iI (g-1)),.aF [8,9,10,11,12,13,14]] (Js (ar h1) (ar h1) (ar h1) (ar h1) (ar h1) h2 h3 (dx h4) h5 (cH h6) (cj h7 h8) (hJ aW (q:Ws) w h9) (aT dh)) hL
theorem Yy(c:Int)(up b:Ws)(n m:Nat)(v1 v2:UInt32)(d:Int)(l u g i:Nat)(j p z:Ws)(q:Bool)(w:UInt32)(k:Nat){r:PV}(h1:4294967296≤i)(h2:av bp 271 [.row 100000 (0+l*1) (u-l) 1,.pv (aa (up.take b.length)),.pv (vU g)] [(100000,(.pure ((j:Ws).map ag).flatten))] (.pv (vB q)) [(100000,(.pure ((z:Ws).map ag).flatten))])(h3:q=false)(h4:g%4294967296=w.toNat)(h5:d=(k:Int))(h6:k<m)(h7:k<p.length)(h8:ax (d-1))(hL:ah c up b n m v1 v2 (d-1) z (p.set k w) r):bK c up b n m v1 v2 d l u g i j p r :=
 lG 237 [1,1,1,1,1,1,1,1,2,2,1] [.a,.aR [.o,.o,.o,.skip,.skip,.skip,.skip,.skip,.skip,.skip,.skip,.skip,.skip,.skip,.skip,.skip,.skip,.skip,.skip,.skip,.skip,(.dec false)],.a,.h 3 (.bO [(55,100000)] none (.pv (vB q)) [(100000,(.pure ((z:Ws).map ag).flatten))]),.f,.aR [.o,.o,.o,iW w,(.nat k),(.cells (.pure (((p.set k w):Ws).map ag).flatten))],.h 1 (iI (d-1)),.aF [8,9,10,11,12,13,14]] (Dg (ar h1) (ar h1) (ar h1) (ar h1) (ar h1) h2 h3 (cH h4) (cj h5 h6) (hJ aW (p:Ws) w h7) (aT h8)) hL
end bC
namespace qG
theorem e0(a:au)(h1:a.cD.length=0):Cp 220 [a.pv] (vB (!a.neg)) :=
 eD func220 84 [1,1] [.q,.h 2 (iI (a.cD.length:Int)),.t,.q] (y2 (an ag a.cD) (aN h1))
theorem e1(a:au)(k:Nat)(v:UInt32)(h1:a.cD.length≠0)(h2:ax ((a.cD.length:Int)-1))(h3:((a.cD.length:Int)-1)=(k:Int))(h4:a.cD[k]? = some v):Cp 220 [a.pv] (vB ((v.toNat:Int) != 0)) :=
 eD func220 87 [1,1,1,1,3] [.q,.h 2 (iI (a.cD.length:Int)),.f,.aR [.o,.o,.o,.o,(iI (a.cD.length:Int)),(iI ((a.cD.length:Int)-1)),(.row k (ag v))]] (y5 (an ag a.cD) (aA h1) (an ag a.cD) (aT h2) (bT ag h3 h4))
end qG
namespace jZ
@[reducible] def fn:Func:=Tryz.f221
def a7:List eH:=focus [0,2,0,2,0,0,0] [.code (ay fn)]
def inv1(m:List UInt32)(Rn:Int):St:=⟨[(0,(.pv (aa m))),(3,(eI Rn))],[]⟩
@[reducible] def ah(m:List UInt32)(Rn:Int)(r:PV):Prop:=L bp fn a7 (inv1 m Rn) r
theorem e0 (m : Ws) {r : PV}  (hL : ah m (m.length : Int) r) : Cp 221 [aa m] r :=
 eG func221 81 [1] [.q,.h 1 (iI (m.length:Int)),.aF [0,3]] (y1 (an ag m)) hL
theorem l10(m:Ws)(b:Int)(k:Nat)(v:UInt32){r:PV}(h1:0<b)(h2:ax (b-1))(h3:(b-1)=(k:Int))(h4:m[k]? = some v)(h5:v.toNat=0)(hL:ah m (b-1) r):ah m b r :=
 lG 108 [1,1,1,1,1,3,1,1,1,1,1] [.a,.aR [.o,.o,.o,.o,.o,(iI (b-1)),(.row k (ag v)),.o,.o,(.dec true)],.t,.h 1 (iI (b-1)),.aF [0,3]] (Dg (bR h1) (bR h1) (bR h1) (aT h2) (bR h1) (bT ag h3 h4) (bR h1) (bR h1) (bR h1) (aN h5) (aT h2)) hL
theorem kM(m:Ws)(b:Int)(k:Nat)(v:UInt32)(u:Nat)(h1:0<b)(h2:ax (b-1))(h3:(b-1)=(k:Int))(h4:m[k]? = some v)(h5:v.toNat≠0)(h6:b≠0)(h7:b=(u:Int))(h8:u≤m.length)(h9:(([]:Ws)++(m.take u):Ws).length*4≤140737488355328):ah m b (aa (m.take u)) :=
 lD 129 [1,1,1,1,1,3,1,1,1,1,1,6,6,3] [.a,.aR [.o,.o,.o,.o,.o,(iI (b-1)),(.row k (ag v)),.o,.o,(.dec true)],.f,.q,.f,.aR [.o,.o,.o,(.js 0 u (((m.take u):Ws).map ag)),(.app ((m.take u):Ws).length (((m.take u):Ws).map ag).flatten)],.fW 2 (((m.take u):Ws).map ag)] (Lk (bR h1) (bR h1) (bR h1) (aT h2) (bR h1) (bT ag h3 h4) (bR h1) (bR h1) (bR h1) (aA h5) (bg h6) (wL aW (m:Ws) h7 h8) (rQ aW ([]:Ws) ((m.take u):Ws) 4 (Eq.refl ([]:Ws).length) h9 rfl) (df aW ((m.take u):Ws) (Eq.refl ((m.take u):Ws).length)))
theorem tq(m:Ws)(b:Int)(h1:b≤0)(h2:b=0):ah m b (aa []) :=
 lD 126 [1,1,1,1,1,1,1,1] [.a,.aR [.o,.o,.o,.skip,.skip,.skip,.skip,.skip,.skip,(.dec false)],.a,.q,.t,.q] (y8 (bf h1) (bf h1) (bf h1) (bf h1) (bf h1) (bf h1) (bf h1) (a8 h2))
end jZ
namespace rY
theorem e0(m:Ws)(i:Int)(k:Nat)(v:UInt32)(h1:i<(m.length:Int))(h2:i=(k:Int))(h3:m[k]? = some v):Cp 222 [aa m,vI i] (vU v.toNat) :=
 eD func222 84 [1,1,3,1] [.q,.h 2 (iI (m.length:Int)),.t,.aR [.o,.o,(.row k (ag v)),.o,iU v.toNat]] (y4 (an ag m) (bR h1) (bT ag h2 h3) (nq v))
theorem e1(m:Ws)(i:Int)(h1:(m.length:Int)≤i):Cp 222 [aa m,vI i] (vU 0) :=
 eD func222 87 [1,1] [.q,.h 2 (iI (m.length:Int)),.f,.q] (y2 (an ag m) (bf h1))
end rY
namespace kC
theorem e0(x:UInt32)(a:Int)(h1:Cp 292 [vW x] (vI a))(h2:ax (32-a)):Cp 269 [vW x] (vI (32-a)) :=
 eD func269 72 [1,1] [.q,.aR [.o,(.pv (vI a)),(iI (32-a))]] (y2 h1 (aT h2))
end kC
namespace oP
@[reducible] def fn:Func:=Tryz.f270
def a7:List eH:=focus [0,2,0,2,0,0,2,0,0] [.code (ay fn)]
def inv1(n:Int)(a:List UInt32)(vA:Nat)(rZ:List UInt32):St:=⟨[(1,(eI n)),(5,(.row 12 0 (a.length+1) 1)),(13,(.pv (aa a))),(14,(eI (a.length:Int))),(15,(eI (vA:Int)))],[(12,(.pure ((rZ:List UInt32).map ag).flatten))]⟩
@[reducible] def ah(n:Int)(a:List UInt32)(vA:Nat)(rZ:List UInt32)(r:PV):Prop:=L bp fn a7 (inv1 n a vA rZ) r
theorem e0(a:Ws)(n:Int){r:PV}(h1:(a.length+1)<9223372036854775808)(h2:4*(a.length+1)≤140737488355328)(hL:ah n a 0 (List.replicate (a.length+1) (0:UInt32)) r):Cp 270 [aa a,vI n] r :=
 eG func270 87 [1,1,5,1] [.q,.aR [.o,(iI (a.length:Int)),(iI (((a.length+1):Nat):Int)),(.app (a.length+1) ((List.replicate (a.length+1) (0:UInt32):Ws).map ag).flatten)],.h 1 (iI (a.length:Int)),.aF [1,5,13,14,15]] (y4 (an ag a) (aM h1) (sR ag 0 4 (a.length+1) (Eq.refl ((((a.length+1):Nat):Int):Int)) h2 rfl) (an ag a)) hL
theorem l10(n:Int)(a:Ws)(b:Nat)(c:Ws)(v:UInt32)(k z:Nat)(v1 w z1:UInt32)(z2:Nat)(w1:UInt32){r:PV}(h1:b<a.length)(h2:a[b]? = some v)(h3:n=(k:Int))(h4:(v.toNat*2^(min k 64))%18446744073709551616=z)(h5:b<(a.length+1))(h6:c[b]? = some v1)(h7:z%4294967296=w.toNat)(h8:(v1.toNat%4294967296) ||| (w.toNat%4294967296)=z1.toNat)(h9:b<c.length)(dh:(b+1)<9223372036854775808)(gb:z/2^(min 32 64)=z2)(kh:z2%4294967296=w1.toNat)(pB:(b+1)<(a.length+1))(uL:(b+1)<(c.set b z1).length)(hL:ah n a (b+1) ((c.set b z1).set (b+1) w1) r):ah n a b c r :=
 lG 138 [1,3,1,1,2,1,1,1,2,2,1,1,1,2,2,1] [.a,.q,.t,.h 1 (.row b (ag v)),.aR [.o,iU v.toNat,.o,iU z],.aR [.o,.o,(.nat b),(.ev (.pv (vW v1))),.o,iW w,iW z1,(.nat b),(.cells (.pure (((c.set b z1):Ws).map ag).flatten))],.aR [.o,.o,(iI (((b+1):Nat):Int)),.o,iU z2,iW w1,(.nat (b+1)),(.cells (.pure ((((c.set b z1).set (b+1) w1):Ws).map ag).flatten))],.h 0 (iI (((b+1):Nat):Int)),.aF [1,5,13,14,15]] (Hq (aj h1) (bT ag (Eq.refl (((b:Nat):Int):Int)) h2) (nq v) (OS h3 (iH (k := .i64) h4)) (cj (Eq.refl (((b:Nat):Int):Int)) h5) (gg (enc:=ag) (f:=fun a=>(vW a)) (fun _=>rfl) h6) (cH h7) (uc h8) (cj (Eq.refl (((b:Nat):Int):Int)) h5) (hJ aW (c:Ws) z1 h9) (aM dh) (cQ (k := .u64) gb) (cH kh) (cj (Eq.refl ((((b+1):Nat):Int):Int)) pB) (hJ aW ((c.set b z1):Ws) w1 uL) (aM dh)) hL
theorem cR(n:Int)(a:Ws)(b:Nat)(c:Ws)(h1:a.length≤b)(h2:(a.length+1)=c.length):ah n a b c (aa c) :=
 lD 120 [1,3] [.a,.q,.f,.q,.fW 4 ((c:Ws).map ag)] (y2 (ar h1) (df aW (c:Ws) h2))
end oP
namespace nv
@[reducible] def fn:Func:=Tryz.f270
def a7:List eH:=focus [0,2,0,2,0,0,2,0,0] [.code (ay fn)]
def inv1(n:Int)(a:List UInt32)(vA:Nat)(rZ:List UInt32):St:=⟨[(1,(eI n)),(5,(.row 12 0 (a.length+1) 1)),(13,(.pv (aa a))),(14,(eI (a.length:Int))),(15,(eI (vA:Int)))],[(12,(.pure ((rZ:List UInt32).map ag).flatten))]⟩
@[reducible] def ah(n:Int)(a:List UInt32)(vA:Nat)(rZ:List UInt32)(sin:aS)(r:EV)(sout:aS):Prop:=LX bp fn a7 (inv1 n a vA rZ) sin r sout
theorem e0(a:Ws)(n:Int){r:EV}{sout:aS}(h1:(a.length+1)<9223372036854775808)(h2:4*(a.length+1)≤140737488355328)(hL:ah n a 0 (List.replicate (a.length+1) (0:UInt32)) [] r sout):av bp 270 [(.pv (aa a)),eI n] [] r sout :=
 Mp func270 87 [1,1,5,1] [.q,.aR [.o,(iI (a.length:Int)),(iI (((a.length+1):Nat):Int)),(.app (a.length+1) ((List.replicate (a.length+1) (0:UInt32):Ws).map ag).flatten)],.h 1 (iI (a.length:Int)),.aF [1,5,13,14,15]] (y4 (an ag a) (aM h1) (sR ag 0 4 (a.length+1) (Eq.refl ((((a.length+1):Nat):Int):Int)) h2 rfl) (an ag a)) hL
theorem l10(n:Int)(a:Ws)(b:Nat)(c:Ws)(v:UInt32)(k z:Nat)(v1 w z1:UInt32)(z2:Nat)(w1:UInt32){r:EV}{sout:aS}{sin:aS}(hs:sin.all (fun p=>Nat.ble fn.ntmps p.1)=true)(h1:b<a.length)(h2:a[b]? = some v)(h3:n=(k:Int))(h4:(v.toNat*2^(min k 64))%18446744073709551616=z)(h5:b<(a.length+1))(h6:c[b]? = some v1)(h7:z%4294967296=w.toNat)(h8:(v1.toNat%4294967296) ||| (w.toNat%4294967296)=z1.toNat)(h9:b<c.length)(dh:(b+1)<9223372036854775808)(gb:z/2^(min 32 64)=z2)(kh:z2%4294967296=w1.toNat)(pB:(b+1)<(a.length+1))(uL:(b+1)<(c.set b z1).length)(hL:ah n a (b+1) ((c.set b z1).set (b+1) w1) sin r sout):ah n a b c sin r sout :=
 KI 138 [1,3,1,1,2,1,1,1,2,2,1,1,1,2,2,1] [.a,.q,.t,.h 1 (.row b (ag v)),.aR [.o,iU v.toNat,.o,iU z],.aR [.o,.o,(.nat b),(.ev (.pv (vW v1))),.o,iW w,iW z1,(.nat b),(.cells (.pure (((c.set b z1):Ws).map ag).flatten))],.aR [.o,.o,(iI (((b+1):Nat):Int)),.o,iU z2,iW w1,(.nat (b+1)),(.cells (.pure ((((c.set b z1).set (b+1) w1):Ws).map ag).flatten))],.h 0 (iI (((b+1):Nat):Int)),.aF [1,5,13,14,15]] hs (Hq (aj h1) (bT ag (Eq.refl (((b:Nat):Int):Int)) h2) (nq v) (OS h3 (iH (k := .i64) h4)) (cj (Eq.refl (((b:Nat):Int):Int)) h5) (gg (enc:=ag) (f:=fun a=>(vW a)) (fun _=>rfl) h6) (cH h7) (uc h8) (cj (Eq.refl (((b:Nat):Int):Int)) h5) (hJ aW (c:Ws) z1 h9) (aM dh) (cQ (k := .u64) gb) (cH kh) (cj (Eq.refl ((((b+1):Nat):Int):Int)) pB) (hJ aW ((c.set b z1):Ws) w1 uL) (aM dh)) hL
theorem cR(n:Int)(a:Ws)(b:Nat)(c:Ws){sin:aS}(hs:sin.all (fun p=>Nat.ble fn.ntmps p.1)=true)(hi:sin.all (fun p=>v7 p.1||(aS.get [(0,(.pure (((c.take (a.length+1)):Ws).map ag).flatten))] p.1).isSome)=true)(h1:a.length≤b):ah n a b c sin (.row 0 0 (a.length+1) 1) [(0,(.pure (((c.take (a.length+1)):Ws).map ag).flatten))] :=
 Fi 120 [1,1] [.a,.q,.f,.q,.sV 12 0,.cut 0 ((a.length+1)*1) (((c.take (a.length+1)):Ws).map ag).flatten,.ord [0]] hs hi (y2 (ar h1) (uW aW (c:Ws) (a.length+1)))
end nv
namespace jF
@[reducible] def fn:Func:=Tryz.f271
def a7:List eH:=focus [0,2,0,2,0,0,2,0,0] [.code (ay fn)]
def inv1(off len:Nat)(v:List UInt32)(n r4 Bz Ie:Nat)(bG:List UInt32):St:=⟨[(0,(.row 100000 off len 1)),(1,(.pv (aa v))),(2,(eU n)),(7,(eU r4)),(8,(eU Bz)),(12,(eI (len:Int))),(13,(eI (Ie:Int)))],[(100000,(.pure ((bG:List UInt32).map ag).flatten))]⟩
@[reducible] def ah(off len:Nat)(v:List UInt32)(n r4 Bz Ie:Nat)(bG:List UInt32)(sin:aS)(r:EV)(sout:aS):Prop:=LX bp fn a7 (inv1 off len v n r4 Bz Ie bG) sin r sout
theorem e0 (u : Ws) (a b : Nat) (v : Ws) (n : Nat) {r : EV} {sout : aS}  (hL : ah a b v n 0 0 0 u [(100000, (.pure ((u : Ws).map ag).flatten))] r sout) : av bp 271 [(.row 100000 a b 1), (.pv (aa v)), eU n] [(100000, (.pure ((u : Ws).map ag).flatten))] r sout :=
 Mp func271 87 [] [.q,.q,.q,.aF [0,1,2,7,8,12,13]] True.intro hL
theorem l10(b c:Nat)(v:Ws)(n g i j:Nat)(l:Ws)(m p s:Nat)(v1 w:UInt32)(d d1:Nat)(w1:UInt32)(z z1:Nat){r:EV}{sout:aS}{sin:aS}(hs:sin.all (fun p=>Nat.ble fn.ntmps p.1)=true)(h1:j<c)(h2:Cp 222 [aa v,(vI (j:Int))] (vU m))(h3:(n*m)%18446744073709551616=p)(h4:(g+p)%18446744073709551616=s)(h5:l[b+j]? = some v1)(h6:s%4294967296=w.toNat)(h7:((v1.toNat:Nat)-(w.toNat:Nat):Int)%18446744073709551616=(d:Int))(h8:((d:Nat)-(i:Nat):Int)%18446744073709551616=(d1:Int))(h9:d1%4294967296=w1.toNat)(dh:(b+j)<l.length)(gb:d1/2^(min 63 64)=z)(kh:s/2^(min 32 64)=z1)(pB:(j+1)<9223372036854775808)(hL:ah b c v n z1 z (j+1) (l.set (b+j) w1) sin r sout):ah b c v n g i j l sin r sout :=
 KI 150 [1,1,1,1,2,1,1,1,1,1,1,1,2,2,1,1,1] [.a,.q,.t,.q,.aR [.o,.o,.o,.o,(.pv (vU m)),iU p,iU s],.aR [.o,.o,(.nat j),(.ev (.pv (vW v1))),iU v1.toNat,.o,iW w,iU w.toNat,iU d,.o,iU d1],.aR [.o,.o,.o,iW w1,(.nat j),(.cells (.pure (((l.set (b+j) w1):Ws).map ag).flatten))],.h 1 (iU z),.h 1 (iU z1),.h 0 (iI (((j+1):Nat):Int)),.aF [0,1,2,7,8,12,13]] hs (P4 (aj h1) h2 (mI h3) (dH h4) (cj (Eq.refl (((j:Nat):Int):Int)) h1) (vw (enc:=ag) (f:=fun a=>(vW a)) (fun _=>rfl) h5) (nq v1) (cH h6) (nq w) (dx h7) (dx h8) (cH h9) (cj (Eq.refl (((j:Nat):Int):Int)) h1) (Mo aW (l:Ws) w1 b j dh) (cQ (k := .u64) gb) (cQ (k := .u64) kh) (aM pB)) hL
theorem cR(b c:Nat)(v:Ws)(n d g i:Nat)(j:Ws){sin:aS}(hs:sin.all (fun p=>Nat.ble fn.ntmps p.1)=true)(hi:sin.all (fun p=>v7 p.1||(aS.get [(100000,(.pure ((j:Ws).map ag).flatten))] p.1).isSome)=true)(h1:c≤i):ah b c v n d g i j sin (.pv (vB ((g:Int)==1))) [(100000,(.pure ((j:Ws).map ag).flatten))] :=
 Fi 120 [1] [.a,.q,.f,.q,.ord [100000]] hs hi (y1 (ar h1))
end jF
namespace l0
@[reducible] def fn:Func:=Tryz.f272
def a7:List eH:=focus [0,2,0,2,0,0] [.code (ay fn)]
def inv1(off len:Nat)(v:List UInt32)(Eu sK:Nat)(bG:List UInt32):St:=⟨[(0,(.row 100000 off len 1)),(1,(.pv (aa v))),(4,(eU Eu)),(7,(eI (len:Int))),(8,(eI (sK:Int)))],[(100000,(.pure ((bG:List UInt32).map ag).flatten))]⟩
@[reducible] def ah(off len:Nat)(v:List UInt32)(Eu sK:Nat)(bG:List UInt32)(sin:aS)(r:EV)(sout:aS):Prop:=LX bp fn a7 (inv1 off len v Eu sK bG) sin r sout
theorem e0 (u : Ws) (a b : Nat) (v : Ws) {r : EV} {sout : aS}  (hL : ah a b v 0 0 u [(100000, (.pure ((u : Ws).map ag).flatten))] r sout) : av bp 272 [(.row 100000 a b 1), (.pv (aa v))] [(100000, (.pure ((u : Ws).map ag).flatten))] r sout :=
 Mp func272 78 [] [.q,.q,.aF [0,1,4,7,8]] True.intro hL
theorem l10(b c:Nat)(v:Ws)(d g:Nat)(i:Ws)(v1:UInt32)(j s s1:Nat)(w:UInt32)(z:Nat){r:EV}{sout:aS}{sin:aS}(hs:sin.all (fun p=>Nat.ble fn.ntmps p.1)=true)(h1:g<c)(h2:i[b+g]? = some v1)(h3:Cp 222 [aa v,(vI (g:Int))] (vU j))(h4:(v1.toNat+j)%18446744073709551616=s)(h5:(d+s)%18446744073709551616=s1)(h6:s1%4294967296=w.toNat)(h7:(b+g)<i.length)(h8:s1/2^(min 32 64)=z)(h9:(g+1)<9223372036854775808)(hL:ah b c v z (g+1) (i.set (b+g) w) sin r sout):ah b c v d g i sin r sout :=
 KI 129 [1,2,1,1,1,1,1,1,2,2,1,1] [.a,.q,.t,.q,dr 11 1 [.none,.none,.none,(.nat g),(.ev (.pv (vW v1))),iU v1.toNat,.none,.none,(.pv (vU j)),iU s,iU s1],.aR [.o,.o,.o,iW w,(.nat g),(.cells (.pure (((i.set (b+g) w):Ws).map ag).flatten))],.h 1 (iU z),.h 0 (iI (((g+1):Nat):Int)),.aF [0,1,4,7,8]] hs (KK (aj h1) (cj (Eq.refl (((g:Nat):Int):Int)) h1) (vw (enc:=ag) (f:=fun a=>(vW a)) (fun _=>rfl) h2) (nq v1) h3 (dH h4) (dH h5) (cH h6) (cj (Eq.refl (((g:Nat):Int):Int)) h1) (Mo aW (i:Ws) w b g h7) (cQ (k := .u64) h8) (aM h9)) hL
theorem cR(b c:Nat)(v:Ws)(d g:Nat)(i:Ws){sin:aS}(hs:sin.all (fun p=>Nat.ble fn.ntmps p.1)=true)(hi:sin.all (fun p=>v7 p.1||(aS.get [(100000,(.pure ((i:Ws).map ag).flatten))] p.1).isSome)=true)(h1:c≤g):ah b c v d g i sin (.pv (.aB [])) [(100000,(.pure ((i:Ws).map ag).flatten))] :=
 Fi 105 [1] [.a,.q,.f,.ord [100000]] hs hi (y1 (ar h1))
end l0
namespace l5
@[reducible] def fn:Func:=Tryz.f273
def a7:List eH:=focus [0,2,0,2,0,0,2,0,0] [.code (ay fn)]
def inv1(a:List UInt32)(n:Int)(BA:Nat)(iN:List UInt32):St:=⟨[(0,(.pv (aa a))),(1,(eI n)),(5,(.row 9 0 a.length 1)),(11,(eI (a.length:Int))),(12,(eI (BA:Int)))],[(9,(.pure ((iN:List UInt32).map ag).flatten))]⟩
@[reducible] def ah(a:List UInt32)(n:Int)(BA:Nat)(iN:List UInt32)(r:PV):Prop:=L bp fn a7 (inv1 a n BA iN) r
theorem e0(a:Ws)(n:Int){r:PV}(h1:4*a.length≤140737488355328)(hL:ah a n 0 (List.replicate a.length (0:UInt32)) r):Cp 273 [aa a,vI n] r :=
 eG func273 87 [1,5,1] [.q,.aR [.o,(iI (a.length:Int)),(.app a.length ((List.replicate a.length (0:UInt32):Ws).map ag).flatten)],.h 1 (iI (a.length:Int)),.aF [0,1,5,11,12]] (y3 (an ag a) (sR ag 0 4 a.length (Eq.refl (((a.length:Nat):Int):Int)) h1 rfl) (an ag a)) hL
theorem l10(a:Ws)(n:Int)(b:Nat)(c:Ws)(v:UInt32)(d z z1 k z2:Nat)(w:UInt32){r:PV}(h1:b<a.length)(h2:a[b]? = some v)(h3:(b+1)<9223372036854775808)(h4:Cp 222 [aa a,(vI (((b+1):Nat):Int))] (vU d))(h5:(d*2^(min 32 64))%18446744073709551616=z)(h6:(v.toNat%18446744073709551616) ||| (z%18446744073709551616)=z1)(h7:n=(k:Int))(h8:z1/2^(min k 64)=z2)(h9:z2%4294967296=w.toNat)(dh:b<c.length)(hL:ah a n (b+1) (c.set b w) r):ah a n b c r :=
 lG 126 [1,3,1,1,1,1,1,1,1,2,2,1] [.a,.q,.t,.q,dr 17 1 [.none,.none,.none,.none,(.row b (ag v)),.none,iU v.toNat,.none,.none,(iI (((b+1):Nat):Int)),(.pv (vU d)),iU z,iU z1,.none,iU z2,iW w,(.nat b),(.cells (.pure (((c.set b w):Ws).map ag).flatten))],.h 0 (iI (((b+1):Nat):Int)),.aF [0,1,5,11,12]] (KK (aj h1) (bT ag (Eq.refl (((b:Nat):Int):Int)) h2) (nq v) (aM h3) h4 (iH (k := .u64) h5) (mJ h6) (OS h7 (cQ (k := .i64) h8)) (cH h9) (cj (Eq.refl (((b:Nat):Int):Int)) h1) (hJ aW (c:Ws) w dh) (aM h3)) hL
theorem cR(a:Ws)(n:Int)(b:Nat)(c d:Ws)(h1:a.length≤b)(h2:a.length=c.length)(h3:Cp 221 [aa c] (aa d)):ah a n b c (aa d) :=
 lD 120 [1,3,1] [.a,.q,.f,.fW 5 ((c:Ws).map ag),.h 1 (.pv (aa d))] (y3 (ar h1) (df aW (c:Ws) h2) h3)
end l5
namespace jd
theorem e0(x z z1:UInt32)(m b:Nat)(h1:65536≤x.toNat)(h2:x.toNat/2^(min 16 32)=z.toNat)(h3:256≤z.toNat)(h4:z.toNat/2^(min 8 32)=z1.toNat)(h5:z1.toNat%256=m)(h6:((ByteArray.mk #[0,1,2,2,3,3,3,3,4,4,4,4,4,4,4,4,5,5,5,5,5,5,5,5,5,5,5,5,5,5,5,5,6,6,6,6,6,6,6,6,6,6,6,6,6,6,6,6,6,6,6,6,6,6,6,6,6,6,6,6,6,6,6,6,7,7,7,7,7,7,7,7,7,7,7,7,7,7,7,7,7,7,7,7,7,7,7,7,7,7,7,7,7,7,7,7,7,7,7,7,7,7,7,7,7,7,7,7,7,7,7,7,7,7,7,7,7,7,7,7,7,7,7,7,7,7,7,7,8,8,8,8,8,8,8,8,8,8,8,8,8,8,8,8,8,8,8,8,8,8,8,8,8,8,8,8,8,8,8,8,8,8,8,8,8,8,8,8,8,8,8,8,8,8,8,8,8,8,8,8,8,8,8,8,8,8,8,8,8,8,8,8,8,8,8,8,8,8,8,8,8,8,8,8,8,8,8,8,8,8,8,8,8,8,8,8,8,8,8,8,8,8,8,8,8,8,8,8,8,8,8,8,8,8,8,8,8,8,8,8,8,8,8,8,8,8,8,8,8,8,8,8,8,8,8,8]).data.toList[m]?).map (fun b=>(b.toNat:Int))=some (b:Int))(h7:b<9223372036854775808)(h8:(24+b)<9223372036854775808):Cp 292 [vW x] (vI (((24+b):Nat):Int)) :=
 eD func292 114 [1,1,1,1,1,2,1,1] [.q,.q,.t,.h 1 (iW z),.q,.q,.t,.h 1 (iW z1),.q,.aR [.o,.o,(.pv (.int .u8 (m:Int))),(.row m [.int .u8 (b:Int)]),(iI (b:Int)),(iI (((24+b):Nat):Int))]] (y8 (dy h1) (kU (k := .u64) h2) (dy h3) (kU (k := .u64) h4) (En h5) (cj (Eq.refl (((m:Nat):Int):Int)) h6) (Ab h7) (aM h8))
theorem e1(x z:UInt32)(m b:Nat)(h1:65536≤x.toNat)(h2:x.toNat/2^(min 16 32)=z.toNat)(h3:z.toNat<256)(h4:z.toNat%256=m)(h5:((ByteArray.mk #[0,1,2,2,3,3,3,3,4,4,4,4,4,4,4,4,5,5,5,5,5,5,5,5,5,5,5,5,5,5,5,5,6,6,6,6,6,6,6,6,6,6,6,6,6,6,6,6,6,6,6,6,6,6,6,6,6,6,6,6,6,6,6,6,7,7,7,7,7,7,7,7,7,7,7,7,7,7,7,7,7,7,7,7,7,7,7,7,7,7,7,7,7,7,7,7,7,7,7,7,7,7,7,7,7,7,7,7,7,7,7,7,7,7,7,7,7,7,7,7,7,7,7,7,7,7,7,7,8,8,8,8,8,8,8,8,8,8,8,8,8,8,8,8,8,8,8,8,8,8,8,8,8,8,8,8,8,8,8,8,8,8,8,8,8,8,8,8,8,8,8,8,8,8,8,8,8,8,8,8,8,8,8,8,8,8,8,8,8,8,8,8,8,8,8,8,8,8,8,8,8,8,8,8,8,8,8,8,8,8,8,8,8,8,8,8,8,8,8,8,8,8,8,8,8,8,8,8,8,8,8,8,8,8,8,8,8,8,8,8,8,8,8,8,8,8,8,8,8,8,8,8,8,8,8,8]).data.toList[m]?).map (fun b=>(b.toNat:Int))=some (b:Int))(h6:b<9223372036854775808)(h7:(16+b)<9223372036854775808):Cp 292 [vW x] (vI (((16+b):Nat):Int)) :=
 eD func292 108 [1,1,1,1,2,1,1] [.q,.q,.t,.h 1 (iW z),.q,.q,.f,.aR [.o,.o,(.pv (.int .u8 (m:Int))),(.row m [.int .u8 (b:Int)]),(iI (b:Int)),(iI (((16+b):Nat):Int))]] (y7 (dy h1) (kU (k := .u64) h2) (bQ h3) (En h4) (cj (Eq.refl (((m:Nat):Int):Int)) h5) (Ab h6) (aM h7))
theorem e2(x z:UInt32)(m b:Nat)(h1:x.toNat<65536)(h2:256≤x.toNat)(h3:x.toNat/2^(min 8 32)=z.toNat)(h4:z.toNat%256=m)(h5:((ByteArray.mk #[0,1,2,2,3,3,3,3,4,4,4,4,4,4,4,4,5,5,5,5,5,5,5,5,5,5,5,5,5,5,5,5,6,6,6,6,6,6,6,6,6,6,6,6,6,6,6,6,6,6,6,6,6,6,6,6,6,6,6,6,6,6,6,6,7,7,7,7,7,7,7,7,7,7,7,7,7,7,7,7,7,7,7,7,7,7,7,7,7,7,7,7,7,7,7,7,7,7,7,7,7,7,7,7,7,7,7,7,7,7,7,7,7,7,7,7,7,7,7,7,7,7,7,7,7,7,7,7,8,8,8,8,8,8,8,8,8,8,8,8,8,8,8,8,8,8,8,8,8,8,8,8,8,8,8,8,8,8,8,8,8,8,8,8,8,8,8,8,8,8,8,8,8,8,8,8,8,8,8,8,8,8,8,8,8,8,8,8,8,8,8,8,8,8,8,8,8,8,8,8,8,8,8,8,8,8,8,8,8,8,8,8,8,8,8,8,8,8,8,8,8,8,8,8,8,8,8,8,8,8,8,8,8,8,8,8,8,8,8,8,8,8,8,8,8,8,8,8,8,8,8,8,8,8,8,8]).data.toList[m]?).map (fun b=>(b.toNat:Int))=some (b:Int))(h6:b<9223372036854775808)(h7:(8+b)<9223372036854775808):Cp 292 [vW x] (vI (((8+b):Nat):Int)) :=
 eD func292 108 [1,1,1,1,2,1,1] [.q,.q,.f,.q,.t,.h 1 (iW z),.q,.aR [.o,.o,(.pv (.int .u8 (m:Int))),(.row m [.int .u8 (b:Int)]),(iI (b:Int)),(iI (((8+b):Nat):Int))]] (y7 (bQ h1) (dy h2) (kU (k := .u64) h3) (En h4) (cj (Eq.refl (((m:Nat):Int):Int)) h5) (Ab h6) (aM h7))
theorem e3(x:UInt32)(m b:Nat)(h1:x.toNat<65536)(h2:x.toNat<256)(h3:x.toNat%256=m)(h4:((ByteArray.mk #[0,1,2,2,3,3,3,3,4,4,4,4,4,4,4,4,5,5,5,5,5,5,5,5,5,5,5,5,5,5,5,5,6,6,6,6,6,6,6,6,6,6,6,6,6,6,6,6,6,6,6,6,6,6,6,6,6,6,6,6,6,6,6,6,7,7,7,7,7,7,7,7,7,7,7,7,7,7,7,7,7,7,7,7,7,7,7,7,7,7,7,7,7,7,7,7,7,7,7,7,7,7,7,7,7,7,7,7,7,7,7,7,7,7,7,7,7,7,7,7,7,7,7,7,7,7,7,7,8,8,8,8,8,8,8,8,8,8,8,8,8,8,8,8,8,8,8,8,8,8,8,8,8,8,8,8,8,8,8,8,8,8,8,8,8,8,8,8,8,8,8,8,8,8,8,8,8,8,8,8,8,8,8,8,8,8,8,8,8,8,8,8,8,8,8,8,8,8,8,8,8,8,8,8,8,8,8,8,8,8,8,8,8,8,8,8,8,8,8,8,8,8,8,8,8,8,8,8,8,8,8,8,8,8,8,8,8,8,8,8,8,8,8,8,8,8,8,8,8,8,8,8,8,8,8,8]).data.toList[m]?).map (fun b=>(b.toNat:Int))=some (b:Int))(h5:b<9223372036854775808)(h6:(0+b)<9223372036854775808):Cp 292 [vW x] (vI (((0+b):Nat):Int)) :=
 eD func292 102 [1,1,1,2,1,1] [.q,.q,.f,.q,.f,.aR [.o,.o,(.pv (.int .u8 (m:Int))),(.row m [.int .u8 (b:Int)]),(iI (b:Int)),(iI (((0+b):Nat):Int))]] (y6 (bQ h1) (bQ h2) (En h3) (cj (Eq.refl (((m:Nat):Int):Int)) h4) (Ab h5) (aM h6))
end jd
end Go.Proofs.YtllmkadmohkbfaaGreatDoor.Sym.Path
end
