/- Lemmas for the statements of this seat. -/
import Derived.Test.YtllmkadmohkbfaaGreatDoorT0
noncomputable section
namespace Go.Proofs.YtllmkadmohkbfaaGreatDoor.Sym.Path
open Go Tryz
set_option maxRecDepth 20000
set_option linter.unusedVariables false
namespace wG
theorem e0(a b:aI)(c d:Ws)(g i j:Bool)(k:Ws)(l:aI)(h1:Cp 134 [a.pv] (ag c))(h2:Cp 134 [b.pv] (ag d))(h3:Cp 135 [a.pv] (vB g))(h4:Cp 135 [b.pv] (vB i))(h5:g=i)(h6:Cp 135 [a.pv] (vB j))(h7:Cp 137 [ag c,ag d] (ag k))(h8:Cp 136 [vB j,ag k] l.pv):Cp 66 [a.pv,b.pv] l.pv :=
 eD func66 93 [1,1,1,1,1,1,1,1] [.q,dr 4 2 [.none,(.pv (ag c)),.none,(.pv (ag d))],dr 5 1 [.none,(.pv (vB g)),.none,(.pv (vB i))],.t,.ba [.o,(.pv (vB j)),.o,.o,(.pv (ag k)),(.pv l.pv)]] (y8 h1 h2 h3 h4 (wC h5) h6 h7 h8)
theorem e1(a b:aI)(c d:Ws)(g i:Bool)(j:Int)(k:Bool)(l:Ws)(m:aI)(h1:Cp 134 [a.pv] (ag c))(h2:Cp 134 [b.pv] (ag d))(h3:Cp 135 [a.pv] (vB g))(h4:Cp 135 [b.pv] (vB i))(h5:g≠i)(h6:Cp 138 [ag c,ag d] (vI j))(h7:0≤j)(h8:Cp 135 [a.pv] (vB k))(h9:Cp 139 [ag c,ag d] (ag l))(dM:Cp 136 [vB k,ag l] m.pv):Cp 66 [a.pv,b.pv] m.pv :=
 eD func66 102 [1,1,1,1,1,1,1,1,1,1] [.q,dr 4 2 [.none,(.pv (ag c)),.none,(.pv (ag d))],dr 5 1 [.none,(.pv (vB g)),.none,(.pv (vB i))],.f,.h 2 (.pv (vI j)),.t,.ba [.o,(.pv (vB k)),.o,.o,(.pv (ag l)),(.pv m.pv)]] (Iu h1 h2 h3 h4 (Br h5) h6 (jv h7) h8 h9 dM)
theorem e2(a b:aI)(c d:Ws)(g i:Bool)(j:Int)(k:Bool)(l:Ws)(m:aI)(h1:Cp 134 [a.pv] (ag c))(h2:Cp 134 [b.pv] (ag d))(h3:Cp 135 [a.pv] (vB g))(h4:Cp 135 [b.pv] (vB i))(h5:g≠i)(h6:Cp 138 [ag c,ag d] (vI j))(h7:j<0)(h8:Cp 135 [b.pv] (vB k))(h9:Cp 139 [ag d,ag c] (ag l))(dM:Cp 136 [vB k,ag l] m.pv):Cp 66 [a.pv,b.pv] m.pv :=
 eD func66 108 [1,1,1,1,1,1,1,1,1,1] [.q,dr 4 2 [.none,(.pv (ag c)),.none,(.pv (ag d))],dr 5 1 [.none,(.pv (vB g)),.none,(.pv (vB i))],.f,.h 2 (.pv (vI j)),.f,.ba [.o,(.pv (vB k)),.o,.o,(.pv (ag l)),(.pv m.pv)]] (Iu h1 h2 h3 h4 (Br h5) h6 (kL h7) h8 h9 dM)
end wG
namespace BR
theorem e0(n:Int)(m m1:Nat)(w:UInt32)(z:Nat)(w1:UInt32)(a:aI)(h1:n%18446744073709551616=(m:Int))(h2:n<0)(h3:(0-(m:Int))%18446744073709551616=(m1:Int))(h4:m1%4294967296=w.toNat)(h5:m1/2^(min 32 64)=z)(h6:z%4294967296=w1.toNat)(h7:Cp 136 [(vB (decide (n<0))),(ag [w,w1])] a.pv):Cp 67 [vI n] a.pv :=
 eD func67 93 [1,1,1,1,1,1,3,1] [.q,.h 1 (iU m),.q,.t,.h 1 (iU m1),.ba [.o,.o,.o,iW w,.o,iU z,iW w1,(.ja 0 0 (([w,w1]:Ws).map ai)),(.pv a.pv)]] (y8 (JQ h1) (dJ h2) (GY h3) (gd h4) (gE (k := .u64) h5) (gd h6) (fP cx ([w,w1]:Ws)) h7)
theorem e1(n:Int)(m:Nat)(w:UInt32)(z:Nat)(w1:UInt32)(a:aI)(h1:n%18446744073709551616=(m:Int))(h2:0≤n)(h3:m%4294967296=w.toNat)(h4:m/2^(min 32 64)=z)(h5:z%4294967296=w1.toNat)(h6:Cp 136 [(vB (decide (n<0))),(ag [w,w1])] a.pv):Cp 67 [vI n] a.pv :=
 eD func67 93 [1,1,1,1,1,3,1] [.q,.h 1 (iU m),.q,.f,.ba [.o,.o,.o,iW w,.o,iU z,iW w1,(.ja 0 0 (([w,w1]:Ws).map ai)),(.pv a.pv)]] (y7 (JQ h1) (bQ h2) (gd h3) (gE (k := .u64) h4) (gd h5) (fP cx ([w,w1]:Ws)) h6)
end BR
namespace uK
theorem e0(a:aI)(b:Ws)(h1:Cp 134 [a.pv] (ag b))(h2:b.length=0):Cp 93 [a.pv] (vI 0) :=
 eD func93 87 [1,1,1] [.q,.ba [.o,(.pv (ag b)),(iI (b.length:Int))],.t,.q] (y3 h1 (au ai b) (aL h2))
theorem e1(a:aI)(b:Ws)(h1:Cp 134 [a.pv] (ag b))(h2:b.length≠0)(h3:a.neg=true):Cp 93 [a.pv] (vI (-1)) :=
 eD func93 96 [1,1,1,1] [.q,.ba [.o,(.pv (ag b)),(iI (b.length:Int))],.f,.q,.t,.q] (y4 h1 (au ai b) (aC h2) h3)
theorem e2(a:aI)(b:Ws)(h1:Cp 134 [a.pv] (ag b))(h2:b.length≠0)(h3:a.neg=false):Cp 93 [a.pv] (vI 1) :=
 eD func93 102 [1,1,1,1] [.q,.ba [.o,(.pv (ag b)),(iI (b.length:Int))],.f,.q,.f,.q] (y4 h1 (au ai b) (aC h2) h3)
end uK
namespace tO
theorem e0(a b:aI)(c d:Int)(h1:Cp 93 [a.pv] (vI c))(h2:Cp 93 [b.pv] (vI d))(h3:c≠d)(h4:c<d):Cp 94 [a.pv,b.pv] (vI (-1)) :=
 eD func94 102 [1,1,1,1] [.q,dr 4 2 [.none,(.pv (vI c)),.none,(.pv (vI d))],.q,.t,.q,.t,.q] (y4 h1 h2 (dq h3) (dJ h4))
theorem e1(a b:aI)(c d:Int)(h1:Cp 93 [a.pv] (vI c))(h2:Cp 93 [b.pv] (vI d))(h3:c≠d)(h4:d≤c):Cp 94 [a.pv,b.pv] (vI 1) :=
 eD func94 105 [1,1,1,1] [.q,dr 4 2 [.none,(.pv (vI c)),.none,(.pv (vI d))],.q,.t,.q,.f,.q] (y4 h1 h2 (dq h3) (bQ h4))
theorem e2(a b:aI)(c d:Int)(g i:Ws)(j:Int)(k:Bool)(h1:Cp 93 [a.pv] (vI c))(h2:Cp 93 [b.pv] (vI d))(h3:c=d)(h4:Cp 134 [a.pv] (ag g))(h5:Cp 134 [b.pv] (ag i))(h6:Cp 138 [ag g,ag i] (vI j))(h7:Cp 135 [a.pv] (vB k))(h8:k=true)(h9:aw (-j)):Cp 94 [a.pv,b.pv] (vI (-j)) :=
 eD func94 111 [1,1,1,1,1,1,1,1,1] [.q,dr 4 2 [.none,(.pv (vI c)),.none,(.pv (vI d))],.q,.f,dr 5 1 [.none,(.pv (ag g)),.none,(.pv (ag i)),(.pv (vI j))],.h 1 (.pv (vB k)),.t,.h 1 (iI (-j))] (y9 h1 h2 (bZ h3) h4 h5 h6 h7 h8 (oI h9))
theorem e3(a b:aI)(c d:Int)(g i:Ws)(j:Int)(k:Bool)(h1:Cp 93 [a.pv] (vI c))(h2:Cp 93 [b.pv] (vI d))(h3:c=d)(h4:Cp 134 [a.pv] (ag g))(h5:Cp 134 [b.pv] (ag i))(h6:Cp 138 [ag g,ag i] (vI j))(h7:Cp 135 [a.pv] (vB k))(h8:k=false):Cp 94 [a.pv,b.pv] (vI j) :=
 eD func94 114 [1,1,1,1,1,1,1,1] [.q,dr 4 2 [.none,(.pv (vI c)),.none,(.pv (vI d))],.q,.f,dr 5 1 [.none,(.pv (ag g)),.none,(.pv (ag i)),(.pv (vI j))],.h 1 (.pv (vB k)),.f,.q] (y8 h1 h2 (bZ h3) h4 h5 h6 h7 h8)
end tO
namespace EY
theorem e0(a b:aI)(c d:Bool)(g i j:Ws)(k:aI)(h1:Cp 135 [a.pv] (vB c))(h2:Cp 135 [b.pv] (vB d))(h3:Cp 134 [a.pv] (ag g))(h4:Cp 134 [b.pv] (ag i))(h5:Cp 173 [ag g,ag i] (ag j))(h6:Cp 136 [(vB (!(c==d))),ag j] k.pv):Cp 95 [a.pv,b.pv] k.pv :=
 eD func95 72 [1,1,1,1,1,1] [.q,dr 11 1 [.none,(.pv (vB c)),.none,(.pv (vB d)),.none,.none,(.pv (ag g)),.none,(.pv (ag i)),(.pv (ag j)),(.pv k.pv)]] (y6 h1 h2 h3 h4 h5 h6)
end EY
namespace nJ
@[reducible] def fn:Func:=Tryz.f129
def bK:List gC:=focus [0,2,0,2,0,0,2,1,2,0,2,0,0,0] [.code (aA fn)]
def inv1(ZD:List UInt32)(JT:List ByteArray)(a:aI):St:=⟨[(1,(.ptr 1 0)),(3,(.pv (ag ZD))),(4,(.pv (bq pY JT)))],[(1,(.lit [(eB a.neg),(.pv (ag a.fS))]))]⟩
@[reducible] def aj(ZD:List UInt32)(JT:List ByteArray)(a:aI)(r:PV):Prop:=L bT fn bK (inv1 ZD JT a) r
theorem e0(a:aI)(b:Ws)(h1:Cp 134 [a.pv] (ag b))(h2:b.length=0):Cp 129 [a.pv] (.str (ByteArray.mk #[48])) :=
 eD func129 90 [1,1,1] [.q,.h 1 (.pv (ag b)),.h 1 (iI (b.length:Int)),.t,.q] (y3 h1 (au ai b) (aL h2))
theorem e1(a:aI)(b:Ws){r:PV}(h1:Cp 134 [a.pv] (ag b))(h2:b.length≠0)(hL:aj b [] a r):Cp 129 [a.pv] r :=
 eG func129 102 [1,1,1] [.q,.h 1 (.pv (ag b)),.h 1 (iI (b.length:Int)),.f,.q,.aP [1,3,4]] (y3 h1 (au ai b) (aC h2)) hL
theorem dw(b:Ws)(c:List ByteArray)(a:aI)(d:Ws)(g:UInt32)(i:ByteArray){r:PV}(h1:0<b.length)(h2:Cp 214 [ag b,(vW (1000000000:UInt32))] (.aB [ag d,vW g]))(h3:Cp 215 [(vI (g.toNat:Int))] (.str i))(h4:d.length≤0)(h5:(([i]++c):List ByteArray).length*16≤140737488355328)(hL:aj d ([i]++c) a r):aj b c a r :=
 lG 162 [1,1,1,1,1,1,1,6,3] [.a,.h 1 (iI (b.length:Int)),.t,.q,.h 1 (.pv (.aB [ag d,vW g])),.ba [.o,(iI (g.toNat:Int)),(.pv (.str i))],.h 1 (iI (d.length:Int)),.f,.h 3 (.app (([i]++c):List ByteArray).length ((([i]++c):List ByteArray).map pY).flatten),.iZ 4 ((([i]++c):List ByteArray).map pY),.aP [1,3,4]] (y9 (au ai b) (ak h1) h2 (Xf g) h3 (au ai d) (ax h4) (s6 QS ([i]:List ByteArray) (c:List ByteArray) 16 (Eq.refl ([i]:List ByteArray).length) h5 rfl) (eR QS (([i]++c):List ByteArray) (Eq.refl (([i]++c):List ByteArray).length))) hL
theorem ji(b:Ws)(c:List ByteArray)(a:aI)(d:ByteArray)(g:Bool)(h1:b.length≤0)(h2:Cp 217 [bq pY c,(.str (ByteArray.mk #[]))] (.str d))(h3:Cp 135 [a.pv] (vB g))(h4:g=true)(h5:(ByteArray.mk #[45]).size+d.size<9223372036854775808):aj b c a (.str ((ByteArray.mk #[45])++d)) :=
 lD 156 [1,1,1,1,1,1] [.a,.h 1 (iI (b.length:Int)),.f,.h 1 (.pv (.str d)),.h 1 (.pv (vB g)),.t,.h 1 (.pv (.str ((ByteArray.mk #[45])++d))),.q] (y6 (au ai b) (ax h1) h2 h3 h4 (C0 h5))
theorem oK(b:Ws)(c:List ByteArray)(a:aI)(d:ByteArray)(g:Bool)(h1:b.length≤0)(h2:Cp 217 [bq pY c,(.str (ByteArray.mk #[]))] (.str d))(h3:Cp 135 [a.pv] (vB g))(h4:g=false):aj b c a (.str d) :=
 lD 156 [1,1,1,1,1] [.a,.h 1 (iI (b.length:Int)),.f,.h 1 (.pv (.str d)),.h 1 (.pv (vB g)),.f,.q] (y5 (au ai b) (ax h1) h2 h3 h4)
end nJ
namespace EZ
theorem e0(a b c d:aI)(h1:Cp 169 [b.pv] c.pv)(h2:Cp 66 [a.pv,c.pv] d.pv):Cp 131 [a.pv,b.pv] d.pv :=
 eD func131 72 [1,1] [.q,dr 4 1 [.none,.none,(.pv c.pv),(.pv d.pv)]] (y2 h1 h2)
end EZ
namespace wH
theorem e1(a b:aI)(c d g i:Ws)(j:Bool)(k l:Ws)(m n:Bool)(p s:aI)(h1:Cp 134 [b.pv] (ag c))(h2:c.length≠0)(h3:Cp 134 [a.pv] (ag d))(h4:Cp 219 [ag d,ag c] (.aB [ag g,ag i]))(h5:Cp 135 [a.pv] (vB j))(h6:j=true)(h7:0<i.length)(h8:Cp 137 [ag g,(ag [(1:UInt32)])] (ag k))(h9:Cp 139 [ag c,ag i] (ag l))(dM:Cp 135 [a.pv] (vB m))(gy:Cp 135 [b.pv] (vB n))(j8:Cp 136 [(vB (!(m==n))),ag k] p.pv)(nK:Cp 136 [vB false,ag l] s.pv):Cp 132 [a.pv,b.pv] (.aB [p.pv,s.pv,.aq]) :=
 eD func132 114 [1,1,1,1,1,1,1,1,1,1,1,1,3,1,1,1,1,1,1] [.q,.h 1 (.pv (ag c)),.h 1 (iI (c.length:Int)),.f,.ba [.o,(.pv (ag d)),.o,(.pv (.aB [ag g,ag i]))],.ba [.o,(.pv (vB j)),.o,.o,(iI (i.length:Int)),.o,(.dec true)],.t,.ba [.o,(.ja 0 0 (([(1:UInt32)]:Ws).map ai)),(.pv (ag k)),.o,.o,(.pv (ag l))],dr 9 3 [.none,(.pv (vB m)),.none,(.pv (vB n)),.none,.none,(.pv p.pv),.none,(.pv s.pv)]] (y19 h1 (au ai c) (aC h2) h3 h4 h5 h6 h6 (au ai i) h6 h6 (ak h7) (fP cx ([(1:UInt32)]:Ws)) h8 h9 dM gy j8 nK)
theorem e2(a b:aI)(c d g i:Ws)(j k l:Bool)(m n:aI)(h1:Cp 134 [b.pv] (ag c))(h2:c.length≠0)(h3:Cp 134 [a.pv] (ag d))(h4:Cp 219 [ag d,ag c] (.aB [ag g,ag i]))(h5:Cp 135 [a.pv] (vB j))(h6:j=true)(h7:i.length≤0)(h8:Cp 135 [a.pv] (vB k))(h9:Cp 135 [b.pv] (vB l))(dM:Cp 136 [(vB (!(k==l))),ag g] m.pv)(gy:Cp 136 [vB false,ag i] n.pv):Cp 132 [a.pv,b.pv] (.aB [m.pv,n.pv,.aq]) :=
 eD func132 114 [1,1,1,1,1,1,1,1,1,1,1,1,1,1,1,1] [.q,.h 1 (.pv (ag c)),.h 1 (iI (c.length:Int)),.f,.ba [.o,(.pv (ag d)),.o,(.pv (.aB [ag g,ag i]))],.ba [.o,(.pv (vB j)),.o,.o,(iI (i.length:Int)),.o,(.dec true)],.f,dr 9 3 [.none,(.pv (vB k)),.none,(.pv (vB l)),.none,.none,(.pv m.pv),.none,(.pv n.pv)]] (Cz h1 (au ai c) (aC h2) h3 h4 h5 h6 h6 (au ai i) h6 h6 (ax h7) h8 h9 dM gy)
theorem e3(a b:aI)(c d g i:Ws)(j k l:Bool)(m n:aI)(h1:Cp 134 [b.pv] (ag c))(h2:c.length≠0)(h3:Cp 134 [a.pv] (ag d))(h4:Cp 219 [ag d,ag c] (.aB [ag g,ag i]))(h5:Cp 135 [a.pv] (vB j))(h6:j=false)(h7:Cp 135 [a.pv] (vB k))(h8:Cp 135 [b.pv] (vB l))(h9:Cp 136 [(vB (!(k==l))),ag g] m.pv)(dM:Cp 136 [vB false,ag i] n.pv):Cp 132 [a.pv,b.pv] (.aB [m.pv,n.pv,.aq]) :=
 eD func132 114 [1,1,1,1,1,1,1,1,1,1,1,1,1,1] [.q,.h 1 (.pv (ag c)),.h 1 (iI (c.length:Int)),.f,.ba [.o,(.pv (ag d)),.o,(.pv (.aB [ag g,ag i]))],.ba [.o,(.pv (vB j)),.o,.skip,.skip,.skip,(.dec false)],.a,dr 9 3 [.none,(.pv (vB k)),.none,(.pv (vB l)),.none,.none,(.pv m.pv),.none,(.pv n.pv)]] (QZ h1 (au ai c) (aC h2) h3 h4 h5 h6 h6 h6 h6 h7 h8 h9 dM)
end wH
namespace Ad
theorem e0(a:aI)(b:Bool)(h1:Cp 220 [a.pv] (vB b))(h2:b=false):Cp 134 [a.pv] (ag []) :=
 eD func134 84 [1,1] [.q,.h 1 (.pv (vB b)),.t,.q] (y2 h1 (bB h2))
theorem e1(a:aI)(b:Bool)(h1:Cp 220 [a.pv] (vB b))(h2:b=true):Cp 134 [a.pv] (ag a.fS) :=
 eD func134 87 [1,1] [.q,.h 1 (.pv (vB b)),.f,.q] (y2 h1 (ay h2))
end Ad
namespace Ae
theorem e0(a:aI)(b:Bool)(h1:Cp 220 [a.pv] (vB b))(h2:b=true):Cp 135 [a.pv] (vB a.neg) :=
 eD func135 72 [1,1,1,1] [.q,.ba [.o,(.pv (vB b)),.o,.o,.o,(.dec true)]] (y4 h1 h2 h2 h2)
theorem e1(a:aI)(b:Bool)(h1:Cp 220 [a.pv] (vB b))(h2:b=false):Cp 135 [a.pv] (vB false) :=
 eD func135 72 [1,1,1,1] [.q,.ba [.o,(.pv (vB b)),.o,.skip,.skip,(.dec false)]] (y4 h1 h2 h2 h2)
end Ae
namespace xk
theorem e0(a:Bool)(m b:Ws)(h1:Cp 221 [ag m] (ag b))(h2:a=true):Cp 136 [vB a,ag m] ((⟨(decide ((b.length:Int)>0)),b⟩:aI).pv) :=
 eD func136 78 [1,1,1,1,1,1] [.q,.h 1 (.pv (ag b)),.ba [.o,.o,.o,(iI (b.length:Int)),.o,(.dec true)]] (y6 h1 h2 h2 (au ai b) h2 h2)
theorem e1(a:Bool)(m b:Ws)(h1:Cp 221 [ag m] (ag b))(h2:a=false):Cp 136 [vB a,ag m] ((⟨false,b⟩:aI).pv) :=
 eD func136 78 [1,1,1,1,1] [.q,.h 1 (.pv (ag b)),.ba [.o,.o,.skip,.skip,.skip,(.dec false)]] (y5 h1 h2 h2 h2 h2)
end xk
namespace rT
@[reducible] def fn:Func:=Tryz.f137
def bK:List gC:=focus [0,2,0,2,0,2,0,0,2,0,0] [.code (aA fn)]
def inv1(a b:List UInt32)(yA MV:Nat)(rU:List UInt32):St:=⟨[(0,(.pv (ag a))),(1,(.pv (ag b))),(5,(.row 14 0 ((max a.length b.length)+1) 1)),(6,(eU yA)),(16,(eI ((((max a.length b.length)+1):Nat):Int))),(17,(eI (MV:Int)))],[(14,(.pure ((rU:List UInt32).map ai).flatten))]⟩
@[reducible] def aj(a b:List UInt32)(yA MV:Nat)(rU:List UInt32)(r:PV):Prop:=L bT fn bK (inv1 a b yA MV rU) r
theorem e0(a b:Ws){r:PV}(h1:((max a.length b.length)+1)<9223372036854775808)(h2:4*((max a.length b.length)+1)≤140737488355328)(hL:aj a b 0 0 (List.replicate ((max a.length b.length)+1) (0:UInt32)) r):Cp 137 [ag a,ag b] r :=
 eG func137 93 [1,1,1,1,5] [.q,.ba [.o,(iI (a.length:Int)),.o,(iI (b.length:Int)),(iI (((max a.length b.length):Nat):Int)),(iI ((((max a.length b.length)+1):Nat):Int)),(.app ((max a.length b.length)+1) ((List.replicate ((max a.length b.length)+1) (0:UInt32):Ws).map ai).flatten)],.q,.q,.aP [0,1,5,6,16,17]] (y5 (au ai a) (au ai b) (BO a.length b.length) (aR h1) (yy ai 0 4 ((max a.length b.length)+1) (Eq.refl (((((max a.length b.length)+1):Nat):Int):Int)) h2 rfl)) hL
theorem l10(a b:Ws)(c d:Nat)(g:Ws)(i j s s1:Nat)(w:UInt32)(z:Nat){r:PV}(h1:d<((max a.length b.length)+1))(h2:Cp 222 [ag a,(vI (d:Int))] (vU i))(h3:Cp 222 [ag b,(vI (d:Int))] (vU j))(h4:(i+j)%18446744073709551616=s)(h5:(c+s)%18446744073709551616=s1)(h6:s1%4294967296=w.toNat)(h7:d<g.length)(h8:s1/2^(min 32 64)=z)(h9:(d+1)<9223372036854775808)(hL:aj a b z (d+1) (g.set d w) r):aj a b c d g r :=
 lG 144 [1,1,1,1,1,1,2,2,1,1] [.a,.q,.t,.q,.ba [.o,.o,.o,(.pv (vU i)),.o,.o,(.pv (vU j)),iU s,iU s1],.ba [.o,.o,.o,iW w,(.nat d),(.cells (.pure (((g.set d w):Ws).map ai).flatten))],.h 1 (iU z),.h 0 (iI (((d+1):Nat):Int)),.aP [0,1,5,6,16,17]] (Iu (ak h1) h2 h3 (iP h4) (iP h5) (gd h6) (cj (Eq.refl (((d:Nat):Int):Int)) h1) (mm cx (g:Ws) w h7) (gE (k := .u64) h8) (aR h9)) hL
theorem dw(a b:Ws)(c d:Nat)(g i:Ws)(h1:((max a.length b.length)+1)≤d)(h2:((max a.length b.length)+1)=g.length)(h3:Cp 221 [ag g] (ag i)):aj a b c d g (ag i) :=
 lD 126 [1,3,1] [.a,.q,.f,.iZ 5 ((g:Ws).map ai),.h 1 (.pv (ag i))] (y3 (ax h1) (eR cx (g:Ws) h2) h3)
end rT
namespace jk
@[reducible] def fn:Func:=Tryz.f138
def bK:List gC:=focus [0,2,0,0,2,1,2,0,0,2,0,0] [.code (aA fn)]
def inv1(a b:List UInt32)(G7:Int):St:=⟨[(0,(.pv (ag a))),(1,(.pv (ag b))),(5,(eI G7))],[]⟩
@[reducible] def aj(a b:List UInt32)(G7:Int)(r:PV):Prop:=L bT fn bK (inv1 a b G7) r
theorem e0(a b:Ws)(h1:a.length≠b.length)(h2:a.length<b.length):Cp 138 [ag a,ag b] (vI (-1)) :=
 eD func138 96 [1,1,1,1,1,1] [.q,.ba [.o,(iI (a.length:Int)),.o,(iI (b.length:Int))],.t,.ba [.o,(iI (a.length:Int)),.o,(iI (b.length:Int))],.t,.q] (y6 (au ai a) (au ai b) (nH h1) (au ai a) (au ai b) (ak h2))
theorem e1(a b:Ws)(h1:a.length≠b.length)(h2:b.length≤a.length):Cp 138 [ag a,ag b] (vI 1) :=
 eD func138 99 [1,1,1,1,1,1] [.q,.ba [.o,(iI (a.length:Int)),.o,(iI (b.length:Int))],.t,.ba [.o,(iI (a.length:Int)),.o,(iI (b.length:Int))],.f,.q] (y6 (au ai a) (au ai b) (nH h1) (au ai a) (au ai b) (ax h2))
theorem e2(a b:Ws){r:PV}(h1:a.length=b.length)(h2:aw ((a.length:Int)-1))(hL:aj a b ((a.length:Int)-1) r):Cp 138 [ag a,ag b] r :=
 eG func138 96 [1,1,1,1,1] [.q,.ba [.o,(iI (a.length:Int)),.o,(iI (b.length:Int))],.f,.ba [.o,(iI (a.length:Int)),(iI ((a.length:Int)-1))],.aP [0,1,5]] (y5 (au ai a) (au ai b) (gj h1) (au ai a) (aX h2)) hL
theorem l10(a b:Ws)(c:Int)(k:Nat)(v:UInt32)(k1:Nat)(v1:UInt32)(k2:Nat)(v2:UInt32)(k3:Nat)(v3:UInt32)(h1:0≤c)(h2:c=(k:Int))(h3:a[k]? = some v)(h4:c=(k1:Int))(h5:b[k1]? = some v1)(h6:v.toNat≠v1.toNat)(h7:c=(k2:Int))(h8:a[k2]? = some v2)(h9:c=(k3:Int))(dM:b[k3]? = some v3)(gy:v2.toNat<v3.toNat):aj a b c (vI (-1)) :=
 lD 147 [1,3,3,1,3,3,1] [.a,.q,.t,dr 9 0 [.none,.none,(.row k (ai v)),.none,.none,.none,(.row k1 (ai v1))],.t,dr 9 0 [.none,.none,(.row k2 (ai v2)),.none,.none,.none,(.row k3 (ai v3))],.t,.q] (y7 (jv h1) (bU ai h2 h3) (bU ai h4 h5) (nH h6) (bU ai h7 h8) (bU ai h9 dM) (ak gy))
theorem dw(a b:Ws)(c:Int)(k:Nat)(v:UInt32)(k1:Nat)(v1:UInt32)(k2:Nat)(v2:UInt32)(k3:Nat)(v3:UInt32)(h1:0≤c)(h2:c=(k:Int))(h3:a[k]? = some v)(h4:c=(k1:Int))(h5:b[k1]? = some v1)(h6:v.toNat≠v1.toNat)(h7:c=(k2:Int))(h8:a[k2]? = some v2)(h9:c=(k3:Int))(dM:b[k3]? = some v3)(gy:v3.toNat≤v2.toNat):aj a b c (vI 1) :=
 lD 150 [1,3,3,1,3,3,1] [.a,.q,.t,dr 9 0 [.none,.none,(.row k (ai v)),.none,.none,.none,(.row k1 (ai v1))],.t,dr 9 0 [.none,.none,(.row k2 (ai v2)),.none,.none,.none,(.row k3 (ai v3))],.f,.q] (y7 (jv h1) (bU ai h2 h3) (bU ai h4 h5) (nH h6) (bU ai h7 h8) (bU ai h9 dM) (ax gy))
theorem ji(a b:Ws)(c:Int)(k:Nat)(v:UInt32)(k1:Nat)(v1:UInt32){r:PV}(h1:0≤c)(h2:c=(k:Int))(h3:a[k]? = some v)(h4:c=(k1:Int))(h5:b[k1]? = some v1)(h6:v.toNat=v1.toNat)(h7:aw (c-1))(hL:aj a b (c-1) r):aj a b c r :=
 lG 138 [1,3,3,1,1] [.a,.q,.t,dr 9 0 [.none,.none,(.row k (ai v)),.none,.none,.none,(.row k1 (ai v1))],.f,.h 1 (iI (c-1)),.aP [0,1,5]] (y5 (jv h1) (bU ai h2 h3) (bU ai h4 h5) (gj h6) (aX h7)) hL
theorem oK(a b:Ws)(c:Int)(h1:c<0):aj a b c (vI 0) :=
 lD 129 [1] [.a,.q,.f,.q] (y1 (kL h1))
end jk
namespace rW
@[reducible] def fn:Func:=Tryz.f139
def bK:List gC:=focus [0,2,0,2,0,2,0,0,2,0,0] [.code (aA fn)]
def inv1(a b:List UInt32)(vh U7:Nat)(yB:List UInt32):St:=⟨[(0,(.pv (ag a))),(1,(.pv (ag b))),(5,(.row 11 0 a.length 1)),(6,(eU vh)),(13,(eI (a.length:Int))),(14,(eI (U7:Int)))],[(11,(.pure ((yB:List UInt32).map ai).flatten))]⟩
@[reducible] def aj(a b:List UInt32)(vh U7:Nat)(yB:List UInt32)(r:PV):Prop:=L bT fn bK (inv1 a b vh U7 yB) r
theorem e0(a b:Ws){r:PV}(h1:4*a.length≤140737488355328)(hL:aj a b 0 0 (List.replicate a.length (0:UInt32)) r):Cp 139 [ag a,ag b] r :=
 eG func139 93 [1,5] [.q,.ba [.o,(iI (a.length:Int)),(.app a.length ((List.replicate a.length (0:UInt32):Ws).map ai).flatten)],.q,.q,.aP [0,1,5,6,13,14]] (y2 (au ai a) (yy ai 0 4 a.length (Eq.refl (((a.length:Nat):Int):Int)) h1 rfl)) hL
theorem l10(a b:Ws)(c g:Nat)(i:Ws)(v:UInt32)(j d d1:Nat)(w:UInt32)(z:Nat){r:PV}(h1:g<a.length)(h2:a[g]? = some v)(h3:Cp 222 [ag b,(vI (g:Int))] (vU j))(h4:((v.toNat:Nat)-(j:Nat):Int)%18446744073709551616=(d:Int))(h5:((d:Nat)-(c:Nat):Int)%18446744073709551616=(d1:Int))(h6:d1%4294967296=w.toNat)(h7:g<i.length)(h8:d1/2^(min 63 64)=z)(h9:(g+1)<9223372036854775808)(hL:aj a b z (g+1) (i.set g w) r):aj a b c g i r :=
 lG 144 [1,3,1,1,1,1,1,2,2,1,1] [.a,.q,.t,.q,dr 11 1 [.none,.none,(.row g (ai v)),.none,iU v.toNat,.none,.none,(.pv (vU j)),iU d,.none,iU d1],.ba [.o,.o,.o,iW w,(.nat g),(.cells (.pure (((i.set g w):Ws).map ai).flatten))],.h 1 (iU z),.h 0 (iI (((g+1):Nat):Int)),.aP [0,1,5,6,13,14]] (FO (ak h1) (bU ai (Eq.refl (((g:Nat):Int):Int)) h2) (tM v) h3 (ir h4) (ir h5) (gd h6) (cj (Eq.refl (((g:Nat):Int):Int)) h1) (mm cx (i:Ws) w h7) (gE (k := .u64) h8) (aR h9)) hL
theorem dw(a b:Ws)(c d:Nat)(g i:Ws)(h1:a.length≤d)(h2:a.length=g.length)(h3:Cp 221 [ag g] (ag i)):aj a b c d g (ag i) :=
 lD 126 [1,3,1] [.a,.q,.f,.iZ 5 ((g:Ws).map ai),.h 1 (.pv (ag i))] (y3 (ax h1) (eR cx (g:Ws) h2) h3)
end rW
namespace E0
theorem e0(a:aI)(b:Bool)(c:Ws)(d:aI)(h1:Cp 135 [a.pv] (vB b))(h2:Cp 134 [a.pv] (ag c))(h3:Cp 136 [(vB (!b)),ag c] d.pv):Cp 169 [a.pv] d.pv :=
 eD func169 72 [1,1,1] [.q,dr 6 1 [.none,(.pv (vB b)),.none,.none,(.pv (ag c)),(.pv d.pv)]] (y3 h1 h2 h3)
end E0
namespace ky
@[reducible] def fn:Func:=Tryz.f173
def bK:List gC:=focus [0,2,0,2,0,0,2,0,0] [.code (aA fn)]
def inv1(b a:List UInt32)(kQ:Nat)(iC:List UInt32):St:=⟨[(1,(.pv (ag b))),(5,(.row 16 0 (a.length+b.length) 1)),(17,(.pv (ag a))),(18,(eI (a.length:Int))),(19,(eI (kQ:Int)))],[(16,(.pure ((iC:List UInt32).map ai).flatten))]⟩
@[reducible] def aj(b a:List UInt32)(kQ:Nat)(iC:List UInt32)(r:PV):Prop:=L bT fn bK (inv1 b a kQ iC) r
def qv:List gC:=focus [0,2,0,2,0,0,2,0,0,0,0,2,0,0,2,0,0,0,2,0,2,0,0,2,0,0] [.code (aA fn)]
def inv2(b a:List UInt32)(MW:Nat)(v:UInt32)(JU kQ U8:Nat)(iC:List UInt32):St:=⟨[(1,(.pv (ag b))),(5,(.row 16 0 (a.length+b.length) 1)),(6,(eI (MW:Int))),(7,(eW v)),(8,(eU JU)),(17,(.pv (ag a))),(18,(eI (a.length:Int))),(19,(eI (kQ:Int))),(24,(.pv (ag b))),(25,(eI (b.length:Int))),(26,(eI (U8:Int)))],[(16,(.pure ((iC:List UInt32).map ai).flatten))]⟩
@[reducible] def cz(b a:List UInt32)(MW:Nat)(v:UInt32)(JU kQ U8:Nat)(iC:List UInt32)(r:PV):Prop:=L bT fn qv (inv2 b a MW v JU kQ U8 iC) r
theorem e0(a b:Ws){r:PV}(h1:(a.length+b.length)<9223372036854775808)(h2:4*(a.length+b.length)≤140737488355328)(hL:aj b a 0 (List.replicate (a.length+b.length) (0:UInt32)) r):Cp 173 [ag a,ag b] r :=
 eG func173 87 [1,1,1,5,1] [.q,.ba [.o,(iI (a.length:Int)),.o,(iI (b.length:Int)),(iI (((a.length+b.length):Nat):Int)),(.app (a.length+b.length) ((List.replicate (a.length+b.length) (0:UInt32):Ws).map ai).flatten)],.h 1 (iI (a.length:Int)),.aP [1,5,17,18,19]] (y5 (au ai a) (au ai b) (aR h1) (yy ai 0 4 (a.length+b.length) (Eq.refl ((((a.length+b.length):Nat):Int):Int)) h2 rfl) (au ai a)) hL
theorem l10(b a:Ws)(c:Nat)(d:Ws)(v:UInt32){r:PV}(h1:c<a.length)(h2:a[c]? = some v)(hL:cz b a c v 0 c 0 d r):aj b a c d r :=
 lG 138 [1,3,1] [.a,.q,.t,.h 1 (.row c (ai v)),.q,.h 1 (iI (b.length:Int)),.aP [1,5,6,7,8,17,18,19,24,25,26]] (y3 (ak h1) (bU ai (Eq.refl (((c:Nat):Int):Int)) h2) (au ai b)) hL
theorem dw(b a:Ws)(c:Nat)(d g:Ws)(h1:a.length≤c)(h2:(a.length+b.length)=d.length)(h3:Cp 221 [ag d] (ag g)):aj b a c d (ag g) :=
 lD 120 [1,3,1] [.a,.q,.f,.iZ 5 ((d:Ws).map ai),.h 1 (.pv (ag g))] (y3 (ax h1) (eR cx (d:Ws) h2) h3)
theorem xl(b a:Ws)(c:Nat)(v:UInt32)(d g i:Nat)(j:Ws)(v1:UInt32)(p:Nat)(v2:UInt32)(s s1:Nat)(w:UInt32)(z:Nat){r:PV}(h1:i<b.length)(h2:b[i]? = some v1)(h3:(v.toNat*v1.toNat)%18446744073709551616=p)(h4:(c+i)<9223372036854775808)(h5:(c+i)<(a.length+b.length))(h6:j[(c+i)]? = some v2)(h7:(p+v2.toNat)%18446744073709551616=s)(h8:(d+s)%18446744073709551616=s1)(h9:s1%4294967296=w.toNat)(dM:(c+i)<j.length)(gy:s1/2^(min 32 64)=z)(j8:(i+1)<9223372036854775808)(hL:cz b a c v z g (i+1) (j.set (c+i) w) r):cz b a c v d g i j r :=
 lG 189 [1,3,1,1,1,1,2,1,1,1,1,1,1,2,2,1,1] [.a,.q,.t,.h 1 (.row i (ai v1)),.ba [.o,.o,iU v.toNat,.o,iU v1.toNat,iU p,.o,.o,.o,(iI (((c+i):Nat):Int)),(.nat (c+i)),(.ev (.pv (vW v2))),iU v2.toNat,iU s,iU s1],.ba [.o,.o,.o,(iI (((c+i):Nat):Int)),.o,iW w,(.nat (c+i)),(.cells (.pure (((j.set (c+i) w):Ws).map ai).flatten))],.h 1 (iU z),.h 0 (iI (((i+1):Nat):Int)),.aP [1,5,6,7,8,17,18,19,24,25,26]] (Pq (ak h1) (bU ai (Eq.refl (((i:Nat):Int):Int)) h2) (tM v) (tM v1) (sY h3) (aR h4) (cj (Eq.refl ((((c+i):Nat):Int):Int)) h5) (j5 (enc:=ai) (f:=fun a=>(vW a)) (fun _=>rfl) h6) (tM v2) (iP h7) (iP h8) (aR h4) (gd h9) (cj (Eq.refl ((((c+i):Nat):Int):Int)) h5) (mm cx (j:Ws) w dM) (gE (k := .u64) gy) (aR j8)) hL
theorem AR(b a:Ws)(c:Nat)(v:UInt32)(d g i:Nat)(j:Ws)(w:UInt32){r:PV}(h1:b.length≤i)(h2:(c+b.length)<9223372036854775808)(h3:d%4294967296=w.toNat)(h4:(c+b.length)<(a.length+b.length))(h5:(c+b.length)<j.length)(h6:(g+1)<9223372036854775808)(hL:aj b a (g+1) (j.set (c+b.length) w) r):cz b a c v d g i j r :=
 lG 174 [1,1,1,1,2,2,1] [.a,.q,.f,.ba [.o,.o,.o,(iI (b.length:Int)),(iI (((c+b.length):Nat):Int)),.o,iW w,(.nat (c+b.length)),(.cells (.pure (((j.set (c+b.length) w):Ws).map ai).flatten))],.h 0 (iI (((g+1):Nat):Int)),.aP [1,5,17,18,19]] (y7 (ax h1) (au ai b) (aR h2) (gd h3) (cj (Eq.refl ((((c+b.length):Nat):Int):Int)) h4) (mm cx (j:Ws) w h5) (aR h6)) hL
end ky
namespace rA
@[reducible] def fn:Func:=Tryz.f192
def bK:List gC:=focus [0,2,0,2,0,0,0] [.code (aA fn)]
def inv1(ZE ZF:List UInt32):St:=⟨[(4,(.ptr 4 0)),(5,(.pv (ag ZE))),(6,(.pv (ag ZF)))],[(4,(.lit [(eB false),(.pv (.list []))]))]⟩
@[reducible] def aj(ZE ZF:List UInt32)(r:PV):Prop:=L bT fn bK (inv1 ZE ZF) r
theorem e0(a b:aI)(c d:Ws){r:PV}(h1:Cp 134 [a.pv] (ag c))(h2:Cp 134 [b.pv] (ag d))(hL:aj c d r):Cp 192 [a.pv,b.pv] r :=
 eG func192 81 [1,1] [.q,dr 4 2 [.none,(.pv (ag c)),.none,(.pv (ag d))],.aP [4,5,6],.drop [3,2]] (y2 h1 h2) hL
theorem l10(b c d g:Ws){r:PV}(h1:0<c.length)(h2:Cp 219 [ag b,ag c] (.aB [ag d,ag g]))(hL:aj c g r):aj b c r :=
 lG 114 [1,1,1] [.a,.h 1 (iI (c.length:Int)),.t,.h 2 (.pv (.aB [ag d,ag g])),.q,.aP [4,5,6]] (y3 (au ai c) (ak h1) h2) hL
theorem dw(b c:Ws)(d:aI)(h1:c.length≤0)(h2:Cp 136 [vB false,ag b] d.pv):aj b c d.pv :=
 lD 114 [1,1,1] [.a,.h 1 (iI (c.length:Int)),.f,.h 1 (.pv d.pv)] (y3 (au ai c) (ax h1) h2)
end rA
namespace qK
@[reducible] def fn:Func:=Tryz.f214
def bK:List gC:=focus [0,2,0,2,0,2,0,0,2,0,0] [.code (aA fn)]
def inv1(a:List UInt32)(b:UInt32)(BS:Nat)(G8:Int)(yB:List UInt32):St:=⟨[(0,(.pv (ag a))),(1,(eW b)),(6,(.row 11 0 a.length 1)),(7,(eU BS)),(8,(eI G8))],[(11,(.pure ((yB:List UInt32).map ai).flatten))]⟩
@[reducible] def aj(a:List UInt32)(b:UInt32)(BS:Nat)(G8:Int)(yB:List UInt32)(r:PV):Prop:=L bT fn bK (inv1 a b BS G8 yB) r
theorem e0(a:Ws)(b:UInt32){r:PV}(h1:4*a.length≤140737488355328)(h2:aw ((a.length:Int)-1))(hL:aj a b 0 ((a.length:Int)-1) (List.replicate a.length (0:UInt32)) r):Cp 214 [ag a,vW b] r :=
 eG func214 93 [1,5,1,1] [.q,.ba [.o,(iI (a.length:Int)),(.app a.length ((List.replicate a.length (0:UInt32):Ws).map ai).flatten)],.q,.ba [.o,(iI (a.length:Int)),(iI ((a.length:Int)-1))],.aP [0,1,6,7,8]] (y4 (au ai a) (yy ai 0 4 a.length (Eq.refl (((a.length:Nat):Int):Int)) h1 rfl) (au ai a) (aX h2)) hL
theorem l10(a:Ws)(b:UInt32)(c:Nat)(d:Int)(g:Ws)(z k:Nat)(v:UInt32)(z1 q:Nat)(w:UInt32)(k1 m:Nat){r:PV}(h1:0≤d)(h2:(c*2^(min 32 64))%18446744073709551616=z)(h3:d=(k:Int))(h4:a[k]? = some v)(h5:(z%18446744073709551616) ||| (v.toNat%18446744073709551616)=z1)(h6:b.toNat≠0)(h7:(z1/b.toNat)%18446744073709551616=q)(h8:q%4294967296=w.toNat)(h9:d=(k1:Int))(dM:k1<a.length)(gy:k1<g.length)(j8:z1%b.toNat=m)(nK:aw (d-1))(hL:aj a b m (d-1) (g.set k1 w) r):aj a b c d g r :=
 lG 138 [1,1,3,1,1,1,1,1,2,2,1,1,1] [.a,.q,.t,.ba [.o,iU z,.o,.o,(.row k (ai v)),.o,iU v.toNat,iU z1],.ba [.o,.o,.o,.o,iU b.toNat,iU q,iW w,(.nat k1),(.cells (.pure (((g.set k1 w):Ws).map ai).flatten))],.ba [.o,.o,iU b.toNat,iU m],.h 1 (iI (d-1)),.aP [0,1,6,7,8]] (Fz (jv h1) (nG (k := .u64) h2) (bU ai h3 h4) (tM v) (sZ h5) (tM b) (GV h6 h7) (gd h8) (cj h9 dM) (mm cx (g:Ws) w gy) (tM b) (GW h6 j8) (aX nK)) hL
theorem dw(a:Ws)(b:UInt32)(c:Nat)(d:Int)(g i:Ws)(w:UInt32)(h1:d<0)(h2:a.length=g.length)(h3:Cp 221 [ag g] (ag i))(h4:c%4294967296=w.toNat):aj a b c d g (.aB [ag i,vW w]) :=
 lD 126 [1,3,1,1] [.a,.q,.f,.iZ 6 ((g:Ws).map ai),.ba [.o,(.pv (ag i)),.o,iW w]] (y4 (kL h1) (eR cx (g:Ws) h2) h3 (gd h4))
end qK
namespace dF
@[reducible] def fn:Func:=Tryz.f219
def bK:List gC:=focus [0,2,0,0,2,1,2,0,0,2,1,2,0,2,0,2,0,2,0,2,0,0,2,0,0] [.code (aA fn)]
def inv1(U9:Int)(up b:List UInt32)(n m:Nat)(v1 v2:UInt32)(MX:Int)(yC yD:List UInt32):St:=⟨[(8,(eI U9)),(9,(.pv (ag (up.take b.length)))),(10,(.row 55 0 n 1)),(11,(.row 61 0 m 1)),(12,(eU v1.toNat)),(13,(eU v2.toNat)),(14,(eI MX))],[(55,(.pure ((yC:List UInt32).map ai).flatten)),(61,(.pure ((yD:List UInt32).map ai).flatten))]⟩
@[reducible] def aj(U9:Int)(up b:List UInt32)(n m:Nat)(v1 v2:UInt32)(MX:Int)(yC yD:List UInt32)(r:PV):Prop:=L bT fn bK (inv1 U9 up b n m v1 v2 MX yC yD) r
def qv:List gC:=focus [0,2,0,0,2,1,2,0,0,2,1,2,0,2,0,2,0,2,0,2,0,0,2,0,0,0,0,0,2,0,2,0,0,0,2,0,2,0,2,0,0,0] [.code (aA fn)]
def inv2(U9:Int)(up b:List UInt32)(n m:Nat)(v1 v2:UInt32)(MX:Int)(l u G9 JV:Nat)(yC yD:List UInt32):St:=⟨[(8,(eI U9)),(9,(.pv (ag (up.take b.length)))),(10,(.row 55 0 n 1)),(11,(.row 61 0 m 1)),(12,(eU v1.toNat)),(13,(eU v2.toNat)),(14,(eI MX)),(15,(.row 55 (0+l*1) (u-l) 1)),(17,(eU G9)),(18,(eU JV))],[(55,(.pure ((yC:List UInt32).map ai).flatten)),(61,(.pure ((yD:List UInt32).map ai).flatten))]⟩
@[reducible] def cz(U9:Int)(up b:List UInt32)(n m:Nat)(v1 v2:UInt32)(MX:Int)(l u G9 JV:Nat)(yC yD:List UInt32)(r:PV):Prop:=L bT fn qv (inv2 U9 up b n m v1 v2 MX l u G9 JV yC yD) r
theorem e0(a b:Ws)(c:Int)(d:Ws)(h1:Cp 138 [ag a,ag b] (vI c))(h2:c<0)(h3:Cp 221 [ag a] (ag d)):Cp 219 [ag a,ag b] (.aB [(ag []),ag d]) :=
 eD func219 84 [1,1,1] [.q,.h 2 (.pv (vI c)),.t,.h 1 (.pv (ag d))] (y3 h1 (dJ h2) h3)
theorem e1(a b:Ws)(c:Int)(v:UInt32)(d:Ws)(g:UInt32)(i:Ws)(h1:Cp 138 [ag a,ag b] (vI c))(h2:0≤c)(h3:b.length=1)(h4:b[0]? = some v)(h5:Cp 214 [ag a,vW v] (.aB [ag d,vW g]))(h6:Cp 221 [(ag [g])] (ag i)):Cp 219 [ag a,ag b] (.aB [ag d,ag i]) :=
 eD func219 105 [1,1,1,1,3,1,3,1] [.q,.h 2 (.pv (vI c)),.f,.h 1 (iI (b.length:Int)),.t,.ba [.o,.o,(.row 0 (ai v)),.o,(.pv (.aB [ag d,vW g]))],.ba [.o,.o,(.ja 0 0 (([g]:Ws).map ai)),(.pv (ag i))]] (y8 h1 (bQ h2) (au ai b) (aL h3) (bU ai (Eq.refl (0:Int)) h4) h5 (fP cx ([g]:Ws)) h6)
theorem e2(a b:Ws)(c:Int)(k:Nat)(v:UInt32)(d:Int)(up z:Ws)(n m k1:Nat)(v1:UInt32)(k2:Nat)(v2:UInt32){r:PV}(h1:Cp 138 [ag a,ag b] (vI c))(h2:0≤c)(h3:b.length≠1)(h4:aw ((b.length:Int)-1))(h5:((b.length:Int)-1)=(k:Int))(h6:b[k]? = some v)(h7:Cp 269 [vW v] (vI d))(h8:Cp 270 [ag b,vI d] (ag up))(h9:b.length≤up.length)(dM:av bT 270 [.pv (ag a),.pv (vI d)] [] (.row 0 0 n 1) [(0,(.pure ((z:Ws).map ai).flatten))])(gy:aw ((n:Int)-(((up.take b.length).length:Nat):Int)))(j8:((n:Int)-(((up.take b.length).length:Nat):Int))=(m:Int))(nK:4*m≤140737488355328)(l9:aw ((((up.take b.length).length:Nat):Int)-1))(om:((((up.take b.length).length:Nat):Int)-1)=(k1:Int))(sR:(up.take b.length)[k1]? = some v1)(o5:aw ((((up.take b.length).length:Nat):Int)-2))(pT:((((up.take b.length).length:Nat):Int)-2)=(k2:Int))(oL:(up.take b.length)[k2]? = some v2)(xm:aw ((m:Int)-1))(hL:aj d up b n m v1 v2 ((m:Int)-1) z (List.replicate m (0:UInt32)) r):Cp 219 [ag a,ag b] r :=
 eG func219 135 [1,1,1,1,1,1,3,1,1,1,6,1,1,1,5,1,1,3,1,1,1,3,1,1] [.q,.h 2 (.pv (vI c)),.f,.h 1 (iI (b.length:Int)),.f,.ba [.o,.o,(iI (b.length:Int)),(iI ((b.length:Int)-1)),(.row k (ai v)),.o,(.pv (vI d))],dr 9 2 [.none,.none,(.pv (ag up)),.none,(iI (b.length:Int)),(.ja 0 b.length (((up.take b.length):Ws).map ai)),.none,.none,(.bI [] (some (0,55)) (.row 0 0 n 1) [(0,(.pure ((z:Ws).map ai).flatten))])],.ba [.o,.o,.o,(iI (((up.take b.length).length:Nat):Int)),(iI ((n:Int)-(((up.take b.length).length:Nat):Int))),(.app m ((List.replicate m (0:UInt32):Ws).map ai).flatten)],dr 15 1 [.none,.none,(iI (((up.take b.length).length:Nat):Int)),(iI ((((up.take b.length).length:Nat):Int)-1)),(.row k1 (ai v1)),.none,iU v1.toNat,.none,.none,(iI (((up.take b.length).length:Nat):Int)),(iI ((((up.take b.length).length:Nat):Int)-2)),(.row k2 (ai v2)),.none,iU v2.toNat],.h 2 (iI ((m:Int)-1)),.aP [8,9,10,11,12,13,14],.ord [55,61]] (Yj h1 (bQ h2) (au ai b) (aC h3) (au ai b) (aX h4) (bU ai h5 h6) h7 h8 (au ai b) (C3 cx (up:Ws) (Eq.refl (((b.length:Nat):Int):Int)) h9) dM (au ai (up.take b.length)) (aX gy) (yy ai 0 4 m j8 nK rfl) (au ai (up.take b.length)) (aX l9) (bU ai om sR) (tM v1) (au ai (up.take b.length)) (aX o5) (bU ai pT oL) (tM v2) (aX xm)) hL
theorem l10(c:Int)(up b:Ws)(n m:Nat)(v1 v2:UInt32)(d:Int)(g i:Ws)(l u:Nat)(v:UInt32)(z k:Nat)(v3:UInt32)(z1 q m1:Nat){r:PV}(h1:0≤d)(h2:aw (d+(((up.take b.length).length:Nat):Int)))(h3:aw ((d+(((up.take b.length).length:Nat):Int))+1))(h4:d=(l:Int))(h5:((d+(((up.take b.length).length:Nat):Int))+1)=(u:Int))(h6:l=0∨l<u)(h7:l≤u)(h8:u≤n)(h9:(up.take b.length).length<(u-l))(dM:g[(0+l*1)+((up.take b.length).length)]? = some v)(gy:(v.toNat*2^(min 32 64))%18446744073709551616=z)(j8:aw ((((up.take b.length).length:Nat):Int)-1))(nK:((((up.take b.length).length:Nat):Int)-1)=(k:Int))(l9:k<(u-l))(om:g[(0+l*1)+k]? = some v3)(sR:(z%18446744073709551616) ||| (v3.toNat%18446744073709551616)=z1)(o5:v1.toNat≠0)(pT:(z1/v1.toNat)%18446744073709551616=q)(oL:z1%v1.toNat=m1)(hL:cz c up b n m v1 v2 d l u q m1 g i r):aj c up b n m v1 v2 d g i r :=
 lG 186 [1,1,1,1,5,1,2,1,1,1,1,1,2,1,1,1,1,1] [.a,.q,.t,.ba [.o,.o,.o,.o,(iI (((up.take b.length).length:Nat):Int)),(iI (d+(((up.take b.length).length:Nat):Int))),(iI ((d+(((up.take b.length).length:Nat):Int))+1)),(.ja l u [])],dr 15 1 [.none,.none,(iI (((up.take b.length).length:Nat):Int)),(.nat ((up.take b.length).length)),(.ev (.pv (vW v))),iU v.toNat,iU z,.none,.none,(iI (((up.take b.length).length:Nat):Int)),(iI ((((up.take b.length).length:Nat):Int)-1)),(.nat k),(.ev (.pv (vW v3))),iU v3.toNat,iU z1],dr 7 1 [.none,.none,iU q,.none,.none,iU m1],.aP [8,9,10,11,12,13,14,15,17,18]] (PU (jv h1) (au ai (up.take b.length)) (xi h2) (xi h3) (Xk h4 h5 h6 h7 h8) (au ai (up.take b.length)) (cj (Eq.refl ((((up.take b.length).length:Nat):Int):Int)) h9) (BP (enc:=ai) (f:=fun a=>(vW a)) (fun _=>rfl) dM) (tM v) (nG (k := .u64) gy) (au ai (up.take b.length)) (aX j8) (cj nK l9) (BP (enc:=ai) (f:=fun a=>(vW a)) (fun _=>rfl) om) (tM v3) (sZ sR) (GV o5 pT) (GW o5 oL)) hL
theorem dw(c:Int)(up b:Ws)(n m:Nat)(v1 v2:UInt32)(d:Int)(g i j k:Ws)(h1:d<0)(h2:m=i.length)(h3:n=g.length)(h4:Cp 221 [ag i] (ag j))(h5:Cp 273 [ag g,vI c] (ag k)):aj c up b n m v1 v2 d g i (.aB [ag j,ag k]) :=
 lD 168 [1,3,3,1,1] [.a,.q,.f,.iZ 11 ((i:Ws).map ai),.iZ 10 ((g:Ws).map ai),.ba [.o,(.pv (ag j)),.o,.o,(.pv (ag k))]] (y5 (kL h1) (eR cx (i:Ws) h2) (eR cx (g:Ws) h3) h4 h5)
theorem xl(c:Int)(up b:Ws)(n m:Nat)(v1 v2:UInt32)(g:Int)(l u i j:Nat)(k p:Ws)(d s:Nat){r:PV}(h1:j<4294967296)(h2:4294967296≤i)(h3:((i:Nat)-(1:Nat):Int)%18446744073709551616=(d:Int))(h4:(j+v1.toNat)%18446744073709551616=s)(hL:cz c up b n m v1 v2 g l u d s k p r):cz c up b n m v1 v2 g l u i j k p r :=
 lG 219 [1,1,1,1,1,1,1,1,1,1,1,1,1,1,1,1,1,1,1,1,1,1] [.a,.ba [.o,.o,.o,.o,.o,.o,.skip,.skip,.skip,.skip,.skip,.skip,.skip,.skip,.skip,.skip,.skip,.skip,.skip,.skip,(.dec true),(.dec true)],.a,.h 1 (iU d),.h 2 (iU s),.aP [8,9,10,11,12,13,14,15,17,18]] (ZA (ak h1) (ak h1) (ak h1) (cP h2) (cP h2) (cP h2) (cP h2) (cP h2) (cP h2) (cP h2) (cP h2) (cP h2) (cP h2) (cP h2) (cP h2) (cP h2) (cP h2) (ak h1) (cP h2) (ak h1) (ir h3) (iP h4)) hL
theorem AR(c:Int)(up b:Ws)(n m:Nat)(v1 v2:UInt32)(g:Int)(l u i j:Nat)(q w:Ws)(p z k:Nat)(v:UInt32)(z1 d s:Nat){r:PV}(h1:j<4294967296)(h2:i<4294967296)(h3:(i*v2.toNat)%18446744073709551616=p)(h4:(j*2^(min 32 64))%18446744073709551616=z)(h5:aw ((((up.take b.length).length:Nat):Int)-2))(h6:((((up.take b.length).length:Nat):Int)-2)=(k:Int))(h7:k<(u-l))(h8:q[(0+l*1)+k]? = some v)(h9:(z%18446744073709551616) ||| (v.toNat%18446744073709551616)=z1)(dM:z1<p)(gy:((i:Nat)-(1:Nat):Int)%18446744073709551616=(d:Int))(j8:(j+v1.toNat)%18446744073709551616=s)(hL:cz c up b n m v1 v2 g l u d s q w r):cz c up b n m v1 v2 g l u i j q w r :=
 lG 219 [1,1,1,1,1,1,1,1,1,1,1,1,1,1,1,1,1,2,1,1,1,1,1,1,1,1,1,1,1,1,1] [.a,.ba [.o,.o,.o,.o,.o,.o,.o,.o,iU p,.o,iU z,.o,.o,(iI (((up.take b.length).length:Nat):Int)),(iI ((((up.take b.length).length:Nat):Int)-2)),(.nat k),(.ev (.pv (vW v))),iU v.toNat,iU z1,.o,(.dec false),(.dec true)],.t,.h 1 (iU d),.h 2 (iU s),.aP [8,9,10,11,12,13,14,15,17,18]] (y31 (ak h1) (ak h1) (ak h1) (cN h2) (cN h2) (cN h2) (sY h3) (cN h2) (cN h2) (nG (k := .u64) h4) (cN h2) (cN h2) (cN h2) (au ai (up.take b.length)) (cN h2) (aX h5) (cN h2) (cj h6 h7) (cN h2) (BP (enc:=ai) (f:=fun a=>(vW a)) (fun _=>rfl) h8) (cN h2) (tM v) (cN h2) (sZ h9) (cN h2) (ak h1) (cN h2) (ak h1) (ak dM) (ir gy) (iP j8)) hL
theorem Ol(c:Int)(up b:Ws)(n m:Nat)(v1 v2:UInt32)(g:Int)(l u i j:Nat)(q s:Ws)(p z k:Nat)(v:UInt32)(z1:Nat)(z2:Ws)(x:Bool)(d:Nat)(z3:Ws)(w:UInt32)(k1:Nat){r:PV}(h1:j<4294967296)(h2:i<4294967296)(h3:(i*v2.toNat)%18446744073709551616=p)(h4:(j*2^(min 32 64))%18446744073709551616=z)(h5:aw ((((up.take b.length).length:Nat):Int)-2))(h6:((((up.take b.length).length:Nat):Int)-2)=(k:Int))(h7:k<(u-l))(h8:q[(0+l*1)+k]? = some v)(h9:(z%18446744073709551616) ||| (v.toNat%18446744073709551616)=z1)(dM:p≤z1)(gy:av bT 271 [.row 100000 (0+l*1) (u-l) 1,.pv (ag (up.take b.length)),.pv (vU i)] [(100000,(.pure ((q:Ws).map ai).flatten))] (.pv (vB x)) [(100000,(.pure ((z2:Ws).map ai).flatten))])(j8:x=true)(nK:((i:Nat)-(1:Nat):Int)%18446744073709551616=(d:Int))(l9:av bT 272 [.row 100000 (0+l*1) (u-l) 1,.pv (ag (up.take b.length))] [(100000,(.pure ((z2:Ws).map ai).flatten))] (.pv (.aB [])) [(100000,(.pure ((z3:Ws).map ai).flatten))])(om:d%4294967296=w.toNat)(sR:g=(k1:Int))(o5:k1<m)(pT:k1<s.length)(oL:aw (g-1))(hL:aj c up b n m v1 v2 (g-1) z3 (s.set k1 w) r):cz c up b n m v1 v2 g l u i j q s r :=
 lG 243 [1,1,1,1,1,1,1,1,1,1,1,1,1,1,1,1,1,2,1,1,1,1,1,1,1,1,1,1,1,1,1,1,1,1,2,2,1] [.a,.ba [.o,.o,.o,.o,.o,.o,.o,.o,iU p,.o,iU z,.o,.o,(iI (((up.take b.length).length:Nat):Int)),(iI ((((up.take b.length).length:Nat):Int)-2)),(.nat k),(.ev (.pv (vW v))),iU v.toNat,iU z1,.o,(.dec false),(.dec true)],.f,.h 3 (.bI [(55,100000)] none (.pv (vB x)) [(100000,(.pure ((z2:Ws).map ai).flatten))]),.t,.h 1 (iU d),.h 2 (.bI [(55,100000)] none (.pv (.aB [])) [(100000,(.pure ((z3:Ws).map ai).flatten))]),.ba [.o,.o,.o,iW w,(.nat k1),(.cells (.pure (((s.set k1 w):Ws).map ai).flatten))],.h 1 (iI (g-1)),.aP [8,9,10,11,12,13,14]] (Xp (ak h1) (ak h1) (ak h1) (cN h2) (cN h2) (cN h2) (sY h3) (cN h2) (cN h2) (nG (k := .u64) h4) (cN h2) (cN h2) (cN h2) (au ai (up.take b.length)) (cN h2) (aX h5) (cN h2) (cj h6 h7) (cN h2) (BP (enc:=ai) (f:=fun a=>(vW a)) (fun _=>rfl) h8) (cN h2) (tM v) (cN h2) (sZ h9) (cN h2) (ak h1) (cN h2) (ak h1) (ax dM) gy j8 (ir nK) l9 (gd om) (cj sR o5) (mm cx (s:Ws) w pT) (aX oL)) hL
theorem l23(c:Int)(up b:Ws)(n m:Nat)(v1 v2:UInt32)(d:Int)(l u g i:Nat)(j q:Ws)(p z k:Nat)(v:UInt32)(z1:Nat)(z2:Ws)(s:Bool)(w:UInt32)(k1:Nat){r:PV}(h1:i<4294967296)(h2:g<4294967296)(h3:(g*v2.toNat)%18446744073709551616=p)(h4:(i*2^(min 32 64))%18446744073709551616=z)(h5:aw ((((up.take b.length).length:Nat):Int)-2))(h6:((((up.take b.length).length:Nat):Int)-2)=(k:Int))(h7:k<(u-l))(h8:j[(0+l*1)+k]? = some v)(h9:(z%18446744073709551616) ||| (v.toNat%18446744073709551616)=z1)(dM:p≤z1)(gy:av bT 271 [.row 100000 (0+l*1) (u-l) 1,.pv (ag (up.take b.length)),.pv (vU g)] [(100000,(.pure ((j:Ws).map ai).flatten))] (.pv (vB s)) [(100000,(.pure ((z2:Ws).map ai).flatten))])(j8:s=false)(nK:g%4294967296=w.toNat)(l9:d=(k1:Int))(om:k1<m)(sR:k1<q.length)(o5:aw (d-1))(hL:aj c up b n m v1 v2 (d-1) z2 (q.set k1 w) r):cz c up b n m v1 v2 d l u g i j q r :=
 lG 237 [1,1,1,1,1,1,1,1,1,1,1,1,1,1,1,1,1,2,1,1,1,1,1,1,1,1,1,1,1,1,1,1,2,2,1] [.a,.ba [.o,.o,.o,.o,.o,.o,.o,.o,iU p,.o,iU z,.o,.o,(iI (((up.take b.length).length:Nat):Int)),(iI ((((up.take b.length).length:Nat):Int)-2)),(.nat k),(.ev (.pv (vW v))),iU v.toNat,iU z1,.o,(.dec false),(.dec true)],.f,.h 3 (.bI [(55,100000)] none (.pv (vB s)) [(100000,(.pure ((z2:Ws).map ai).flatten))]),.f,.ba [.o,.o,.o,iW w,(.nat k1),(.cells (.pure (((q.set k1 w):Ws).map ai).flatten))],.h 1 (iI (d-1)),.aP [8,9,10,11,12,13,14]] (y35 (ak h1) (ak h1) (ak h1) (cN h2) (cN h2) (cN h2) (sY h3) (cN h2) (cN h2) (nG (k := .u64) h4) (cN h2) (cN h2) (cN h2) (au ai (up.take b.length)) (cN h2) (aX h5) (cN h2) (cj h6 h7) (cN h2) (BP (enc:=ai) (f:=fun a=>(vW a)) (fun _=>rfl) h8) (cN h2) (tM v) (cN h2) (sZ h9) (cN h2) (ak h1) (cN h2) (ak h1) (ax dM) gy j8 (gd nK) (cj l9 om) (mm cx (q:Ws) w sR) (aX o5)) hL
theorem l24(c:Int)(up b:Ws)(n m:Nat)(v1 v2:UInt32)(g:Int)(l u i j:Nat)(p q z:Ws)(s:Bool)(d:Nat)(z1:Ws)(w:UInt32)(k:Nat){r:PV}(h1:4294967296≤j)(h2:av bT 271 [.row 100000 (0+l*1) (u-l) 1,.pv (ag (up.take b.length)),.pv (vU i)] [(100000,(.pure ((p:Ws).map ai).flatten))] (.pv (vB s)) [(100000,(.pure ((z:Ws).map ai).flatten))])(h3:s=true)(h4:((i:Nat)-(1:Nat):Int)%18446744073709551616=(d:Int))(h5:av bT 272 [.row 100000 (0+l*1) (u-l) 1,.pv (ag (up.take b.length))] [(100000,(.pure ((z:Ws).map ai).flatten))] (.pv (.aB [])) [(100000,(.pure ((z1:Ws).map ai).flatten))])(h6:d%4294967296=w.toNat)(h7:g=(k:Int))(h8:k<m)(h9:k<q.length)(dM:aw (g-1))(hL:aj c up b n m v1 v2 (g-1) z1 (q.set k w) r):cz c up b n m v1 v2 g l u i j p q r :=
 lG 243 [1,1,1,1,1,1,1,1,1,1,2,2,1] [.a,.ba [.o,.o,.o,.skip,.skip,.skip,.skip,.skip,.skip,.skip,.skip,.skip,.skip,.skip,.skip,.skip,.skip,.skip,.skip,.skip,.skip,(.dec false)],.a,.h 3 (.bI [(55,100000)] none (.pv (vB s)) [(100000,(.pure ((z:Ws).map ai).flatten))]),.t,.h 1 (iU d),.h 2 (.bI [(55,100000)] none (.pv (.aB [])) [(100000,(.pure ((z1:Ws).map ai).flatten))]),.ba [.o,.o,.o,iW w,(.nat k),(.cells (.pure (((q.set k w):Ws).map ai).flatten))],.h 1 (iI (g-1)),.aP [8,9,10,11,12,13,14]] (Fz (ax h1) (ax h1) (ax h1) (ax h1) (ax h1) h2 h3 (ir h4) h5 (gd h6) (cj h7 h8) (mm cx (q:Ws) w h9) (aX dM)) hL
theorem l25(c:Int)(up b:Ws)(n m:Nat)(v1 v2:UInt32)(d:Int)(l u g i:Nat)(j p z:Ws)(q:Bool)(w:UInt32)(k:Nat){r:PV}(h1:4294967296≤i)(h2:av bT 271 [.row 100000 (0+l*1) (u-l) 1,.pv (ag (up.take b.length)),.pv (vU g)] [(100000,(.pure ((j:Ws).map ai).flatten))] (.pv (vB q)) [(100000,(.pure ((z:Ws).map ai).flatten))])(h3:q=false)(h4:g%4294967296=w.toNat)(h5:d=(k:Int))(h6:k<m)(h7:k<p.length)(h8:aw (d-1))(hL:aj c up b n m v1 v2 (d-1) z (p.set k w) r):cz c up b n m v1 v2 d l u g i j p r :=
 lG 237 [1,1,1,1,1,1,1,1,2,2,1] [.a,.ba [.o,.o,.o,.skip,.skip,.skip,.skip,.skip,.skip,.skip,.skip,.skip,.skip,.skip,.skip,.skip,.skip,.skip,.skip,.skip,.skip,(.dec false)],.a,.h 3 (.bI [(55,100000)] none (.pv (vB q)) [(100000,(.pure ((z:Ws).map ai).flatten))]),.f,.ba [.o,.o,.o,iW w,(.nat k),(.cells (.pure (((p.set k w):Ws).map ai).flatten))],.h 1 (iI (d-1)),.aP [8,9,10,11,12,13,14]] (FO (ax h1) (ax h1) (ax h1) (ax h1) (ax h1) h2 h3 (gd h4) (cj h5 h6) (mm cx (p:Ws) w h7) (aX h8)) hL
end dF
namespace xn
theorem e0(a:aI)(h1:a.fS.length=0):Cp 220 [a.pv] (vB (!a.neg)) :=
 eD func220 84 [1,1] [.q,.h 2 (iI (a.fS.length:Int)),.t,.q] (y2 (au ai a.fS) (aL h1))
theorem e1(a:aI)(k:Nat)(v:UInt32)(h1:a.fS.length≠0)(h2:aw ((a.fS.length:Int)-1))(h3:((a.fS.length:Int)-1)=(k:Int))(h4:a.fS[k]? = some v):Cp 220 [a.pv] (vB ((v.toNat:Int) != 0)) :=
 eD func220 87 [1,1,1,1,3] [.q,.h 2 (iI (a.fS.length:Int)),.f,.ba [.o,.o,.o,.o,(iI (a.fS.length:Int)),(iI ((a.fS.length:Int)-1)),(.row k (ai v))]] (y5 (au ai a.fS) (aC h1) (au ai a.fS) (aX h2) (bU ai h3 h4))
end xn
namespace qa
@[reducible] def fn:Func:=Tryz.f221
def bK:List gC:=focus [0,2,0,2,0,0,0] [.code (aA fn)]
def inv1(m:List UInt32)(Va:Int):St:=⟨[(0,(.pv (ag m))),(3,(eI Va))],[]⟩
@[reducible] def aj(m:List UInt32)(Va:Int)(r:PV):Prop:=L bT fn bK (inv1 m Va) r
theorem e0 (m : Ws) {r : PV}  (hL : aj m (m.length : Int) r) : Cp 221 [ag m] r :=
 eG func221 81 [1] [.q,.h 1 (iI (m.length:Int)),.aP [0,3]] (y1 (au ai m)) hL
theorem l10(m:Ws)(b:Int)(k:Nat)(v:UInt32){r:PV}(h1:0<b)(h2:aw (b-1))(h3:(b-1)=(k:Int))(h4:m[k]? = some v)(h5:v.toNat=0)(hL:aj m (b-1) r):aj m b r :=
 lG 108 [1,1,1,1,1,3,1,1,1,1,1] [.a,.ba [.o,.o,.o,.o,.o,(iI (b-1)),(.row k (ai v)),.o,.o,(.dec true)],.t,.h 1 (iI (b-1)),.aP [0,3]] (FO (dJ h1) (dJ h1) (dJ h1) (aX h2) (dJ h1) (bU ai h3 h4) (dJ h1) (dJ h1) (dJ h1) (aL h5) (aX h2)) hL
theorem ji(m:Ws)(b:Int)(k:Nat)(v:UInt32)(u:Nat)(h1:0<b)(h2:aw (b-1))(h3:(b-1)=(k:Int))(h4:m[k]? = some v)(h5:v.toNat≠0)(h6:b≠0)(h7:b=(u:Int))(h8:u≤m.length)(h9:(([]:Ws)++(m.take u):Ws).length*4≤140737488355328):aj m b (ag (m.take u)) :=
 lD 129 [1,1,1,1,1,3,1,1,1,1,1,6,6,3] [.a,.ba [.o,.o,.o,.o,.o,(iI (b-1)),(.row k (ai v)),.o,.o,(.dec true)],.f,.q,.f,.ba [.o,.o,.o,(.ja 0 u (((m.take u):Ws).map ai)),(.app ((m.take u):Ws).length (((m.take u):Ws).map ai).flatten)],.iZ 2 (((m.take u):Ws).map ai)] (QZ (dJ h1) (dJ h1) (dJ h1) (aX h2) (dJ h1) (bU ai h3 h4) (dJ h1) (dJ h1) (dJ h1) (aC h5) (aN h6) (C3 cx (m:Ws) h7 h8) (s6 cx ([]:Ws) ((m.take u):Ws) 4 (Eq.refl ([]:Ws).length) h9 rfl) (eR cx ((m.take u):Ws) (Eq.refl ((m.take u):Ws).length)))
theorem oK(m:Ws)(b:Int)(h1:b≤0)(h2:b=0):aj m b (ag []) :=
 lD 126 [1,1,1,1,1,1,1,1] [.a,.ba [.o,.o,.o,.skip,.skip,.skip,.skip,.skip,.skip,(.dec false)],.a,.q,.t,.q] (y8 (bQ h1) (bQ h1) (bQ h1) (bQ h1) (bQ h1) (bQ h1) (bQ h1) (aF h2))
end qa
namespace yE
theorem e0(m:Ws)(i:Int)(k:Nat)(v:UInt32)(h1:i<(m.length:Int))(h2:i=(k:Int))(h3:m[k]? = some v):Cp 222 [ag m,vI i] (vU v.toNat) :=
 eD func222 84 [1,1,3,1] [.q,.h 2 (iI (m.length:Int)),.t,.ba [.o,.o,(.row k (ai v)),.o,iU v.toNat]] (y4 (au ai m) (dJ h1) (bU ai h2 h3) (tM v))
theorem e1(m:Ws)(i:Int)(h1:(m.length:Int)≤i):Cp 222 [ag m,vI i] (vU 0) :=
 eD func222 87 [1,1] [.q,.h 2 (iI (m.length:Int)),.f,.q] (y2 (au ai m) (bQ h1))
end yE
namespace qL
theorem e0(x:UInt32)(a:Int)(h1:Cp 292 [vW x] (vI a))(h2:aw (32-a)):Cp 269 [vW x] (vI (32-a)) :=
 eD func269 72 [1,1] [.q,.ba [.o,(.pv (vI a)),(iI (32-a))]] (y2 h1 (aX h2))
end qL
namespace vi
@[reducible] def fn:Func:=Tryz.f270
def bK:List gC:=focus [0,2,0,2,0,0,2,0,0] [.code (aA fn)]
def inv1(n:Int)(a:List UInt32)(BT:Nat)(yF:List UInt32):St:=⟨[(1,(eI n)),(5,(.row 12 0 (a.length+1) 1)),(13,(.pv (ag a))),(14,(eI (a.length:Int))),(15,(eI (BT:Int)))],[(12,(.pure ((yF:List UInt32).map ai).flatten))]⟩
@[reducible] def aj(n:Int)(a:List UInt32)(BT:Nat)(yF:List UInt32)(r:PV):Prop:=L bT fn bK (inv1 n a BT yF) r
theorem e0(a:Ws)(n:Int){r:PV}(h1:(a.length+1)<9223372036854775808)(h2:4*(a.length+1)≤140737488355328)(hL:aj n a 0 (List.replicate (a.length+1) (0:UInt32)) r):Cp 270 [ag a,vI n] r :=
 eG func270 87 [1,1,5,1] [.q,.ba [.o,(iI (a.length:Int)),(iI (((a.length+1):Nat):Int)),(.app (a.length+1) ((List.replicate (a.length+1) (0:UInt32):Ws).map ai).flatten)],.h 1 (iI (a.length:Int)),.aP [1,5,13,14,15]] (y4 (au ai a) (aR h1) (yy ai 0 4 (a.length+1) (Eq.refl ((((a.length+1):Nat):Int):Int)) h2 rfl) (au ai a)) hL
theorem l10(n:Int)(a:Ws)(b:Nat)(c:Ws)(v:UInt32)(k z:Nat)(v1 w z1:UInt32)(z2:Nat)(w1:UInt32){r:PV}(h1:b<a.length)(h2:a[b]? = some v)(h3:n=(k:Int))(h4:(v.toNat*2^(min k 64))%18446744073709551616=z)(h5:b<(a.length+1))(h6:c[b]? = some v1)(h7:z%4294967296=w.toNat)(h8:(v1.toNat%4294967296) ||| (w.toNat%4294967296)=z1.toNat)(h9:b<c.length)(dM:(b+1)<9223372036854775808)(gy:z/2^(min 32 64)=z2)(j8:z2%4294967296=w1.toNat)(nK:(b+1)<(a.length+1))(l9:(b+1)<(c.set b z1).length)(hL:aj n a (b+1) ((c.set b z1).set (b+1) w1) r):aj n a b c r :=
 lG 138 [1,3,1,1,2,1,1,1,2,2,1,1,1,2,2,1] [.a,.q,.t,.h 1 (.row b (ai v)),.ba [.o,iU v.toNat,.o,iU z],.ba [.o,.o,(.nat b),(.ev (.pv (vW v1))),.o,iW w,iW z1,(.nat b),(.cells (.pure (((c.set b z1):Ws).map ai).flatten))],.ba [.o,.o,(iI (((b+1):Nat):Int)),.o,iU z2,iW w1,(.nat (b+1)),(.cells (.pure ((((c.set b z1).set (b+1) w1):Ws).map ai).flatten))],.h 0 (iI (((b+1):Nat):Int)),.aP [1,5,13,14,15]] (Cz (ak h1) (bU ai (Eq.refl (((b:Nat):Int):Int)) h2) (tM v) (S1 h3 (nG (k := .i64) h4)) (cj (Eq.refl (((b:Nat):Int):Int)) h5) (j5 (enc:=ai) (f:=fun a=>(vW a)) (fun _=>rfl) h6) (gd h7) (AP h8) (cj (Eq.refl (((b:Nat):Int):Int)) h5) (mm cx (c:Ws) z1 h9) (aR dM) (gE (k := .u64) gy) (gd j8) (cj (Eq.refl ((((b+1):Nat):Int):Int)) nK) (mm cx ((c.set b z1):Ws) w1 l9) (aR dM)) hL
theorem dw(n:Int)(a:Ws)(b:Nat)(c:Ws)(h1:a.length≤b)(h2:(a.length+1)=c.length):aj n a b c (ag c) :=
 lD 120 [1,3] [.a,.q,.f,.q,.iZ 4 ((c:Ws).map ai)] (y2 (ax h1) (eR cx (c:Ws) h2))
end vi
namespace tP
@[reducible] def fn:Func:=Tryz.f270
def bK:List gC:=focus [0,2,0,2,0,0,2,0,0] [.code (aA fn)]
def inv1(n:Int)(a:List UInt32)(BT:Nat)(yF:List UInt32):St:=⟨[(1,(eI n)),(5,(.row 12 0 (a.length+1) 1)),(13,(.pv (ag a))),(14,(eI (a.length:Int))),(15,(eI (BT:Int)))],[(12,(.pure ((yF:List UInt32).map ai).flatten))]⟩
@[reducible] def aj(n:Int)(a:List UInt32)(BT:Nat)(yF:List UInt32)(sin:cq)(r:EV)(sout:cq):Prop:=LX bT fn bK (inv1 n a BT yF) sin r sout
theorem e0(a:Ws)(n:Int){r:EV}{sout:cq}(h1:(a.length+1)<9223372036854775808)(h2:4*(a.length+1)≤140737488355328)(hL:aj n a 0 (List.replicate (a.length+1) (0:UInt32)) [] r sout):av bT 270 [(.pv (ag a)),eI n] [] r sout :=
 QY func270 87 [1,1,5,1] [.q,.ba [.o,(iI (a.length:Int)),(iI (((a.length+1):Nat):Int)),(.app (a.length+1) ((List.replicate (a.length+1) (0:UInt32):Ws).map ai).flatten)],.h 1 (iI (a.length:Int)),.aP [1,5,13,14,15]] (y4 (au ai a) (aR h1) (yy ai 0 4 (a.length+1) (Eq.refl ((((a.length+1):Nat):Int):Int)) h2 rfl) (au ai a)) hL
theorem l10(n:Int)(a:Ws)(b:Nat)(c:Ws)(v:UInt32)(k z:Nat)(v1 w z1:UInt32)(z2:Nat)(w1:UInt32){r:EV}{sout:cq}{sin:cq}(hs:sin.all (fun p=>Nat.ble fn.ntmps p.1)=true)(h1:b<a.length)(h2:a[b]? = some v)(h3:n=(k:Int))(h4:(v.toNat*2^(min k 64))%18446744073709551616=z)(h5:b<(a.length+1))(h6:c[b]? = some v1)(h7:z%4294967296=w.toNat)(h8:(v1.toNat%4294967296) ||| (w.toNat%4294967296)=z1.toNat)(h9:b<c.length)(dM:(b+1)<9223372036854775808)(gy:z/2^(min 32 64)=z2)(j8:z2%4294967296=w1.toNat)(nK:(b+1)<(a.length+1))(l9:(b+1)<(c.set b z1).length)(hL:aj n a (b+1) ((c.set b z1).set (b+1) w1) sin r sout):aj n a b c sin r sout :=
 Po 138 [1,3,1,1,2,1,1,1,2,2,1,1,1,2,2,1] [.a,.q,.t,.h 1 (.row b (ai v)),.ba [.o,iU v.toNat,.o,iU z],.ba [.o,.o,(.nat b),(.ev (.pv (vW v1))),.o,iW w,iW z1,(.nat b),(.cells (.pure (((c.set b z1):Ws).map ai).flatten))],.ba [.o,.o,(iI (((b+1):Nat):Int)),.o,iU z2,iW w1,(.nat (b+1)),(.cells (.pure ((((c.set b z1).set (b+1) w1):Ws).map ai).flatten))],.h 0 (iI (((b+1):Nat):Int)),.aP [1,5,13,14,15]] hs (Cz (ak h1) (bU ai (Eq.refl (((b:Nat):Int):Int)) h2) (tM v) (S1 h3 (nG (k := .i64) h4)) (cj (Eq.refl (((b:Nat):Int):Int)) h5) (j5 (enc:=ai) (f:=fun a=>(vW a)) (fun _=>rfl) h6) (gd h7) (AP h8) (cj (Eq.refl (((b:Nat):Int):Int)) h5) (mm cx (c:Ws) z1 h9) (aR dM) (gE (k := .u64) gy) (gd j8) (cj (Eq.refl ((((b+1):Nat):Int):Int)) nK) (mm cx ((c.set b z1):Ws) w1 l9) (aR dM)) hL
theorem dw(n:Int)(a:Ws)(b:Nat)(c:Ws){sin:cq}(hs:sin.all (fun p=>Nat.ble fn.ntmps p.1)=true)(hi:sin.all (fun p=>Cw p.1||(cq.get [(0,(.pure (((c.take (a.length+1)):Ws).map ai).flatten))] p.1).isSome)=true)(h1:a.length≤b):aj n a b c sin (.row 0 0 (a.length+1) 1) [(0,(.pure (((c.take (a.length+1)):Ws).map ai).flatten))] :=
 Kv 120 [1,1] [.a,.q,.f,.q,.l7 12 0,.cut 0 ((a.length+1)*1) (((c.take (a.length+1)):Ws).map ai).flatten,.ord [0]] hs hi (y2 (ax h1) (Bs cx (c:Ws) (a.length+1)))
end tP
namespace pk
@[reducible] def fn:Func:=Tryz.f271
def bK:List gC:=focus [0,2,0,2,0,0,2,0,0] [.code (aA fn)]
def inv1(off len:Nat)(v:List UInt32)(n yG Ha Hb:Nat)(dN:List UInt32):St:=⟨[(0,(.row 100000 off len 1)),(1,(.pv (ag v))),(2,(eU n)),(7,(eU yG)),(8,(eU Ha)),(12,(eI (len:Int))),(13,(eI (Hb:Int)))],[(100000,(.pure ((dN:List UInt32).map ai).flatten))]⟩
@[reducible] def aj(off len:Nat)(v:List UInt32)(n yG Ha Hb:Nat)(dN:List UInt32)(sin:cq)(r:EV)(sout:cq):Prop:=LX bT fn bK (inv1 off len v n yG Ha Hb dN) sin r sout
theorem e0 (u : Ws) (a b : Nat) (v : Ws) (n : Nat) {r : EV} {sout : cq}  (hL : aj a b v n 0 0 0 u [(100000, (.pure ((u : Ws).map ai).flatten))] r sout) : av bT 271 [(.row 100000 a b 1), (.pv (ag v)), eU n] [(100000, (.pure ((u : Ws).map ai).flatten))] r sout :=
 QY func271 87 [] [.q,.q,.q,.aP [0,1,2,7,8,12,13]] True.intro hL
theorem l10(b c:Nat)(v:Ws)(n g i j:Nat)(l:Ws)(m p s:Nat)(v1 w:UInt32)(d d1:Nat)(w1:UInt32)(z z1:Nat){r:EV}{sout:cq}{sin:cq}(hs:sin.all (fun p=>Nat.ble fn.ntmps p.1)=true)(h1:j<c)(h2:Cp 222 [ag v,(vI (j:Int))] (vU m))(h3:(n*m)%18446744073709551616=p)(h4:(g+p)%18446744073709551616=s)(h5:l[b+j]? = some v1)(h6:s%4294967296=w.toNat)(h7:((v1.toNat:Nat)-(w.toNat:Nat):Int)%18446744073709551616=(d:Int))(h8:((d:Nat)-(i:Nat):Int)%18446744073709551616=(d1:Int))(h9:d1%4294967296=w1.toNat)(dM:(b+j)<l.length)(gy:d1/2^(min 63 64)=z)(j8:s/2^(min 32 64)=z1)(nK:(j+1)<9223372036854775808)(hL:aj b c v n z1 z (j+1) (l.set (b+j) w1) sin r sout):aj b c v n g i j l sin r sout :=
 Po 150 [1,1,1,1,2,1,1,1,1,1,1,1,2,2,1,1,1] [.a,.q,.t,.q,.ba [.o,.o,.o,.o,(.pv (vU m)),iU p,iU s],.ba [.o,.o,(.nat j),(.ev (.pv (vW v1))),iU v1.toNat,.o,iW w,iU w.toNat,iU d,.o,iU d1],.ba [.o,.o,.o,iW w1,(.nat j),(.cells (.pure (((l.set (b+j) w1):Ws).map ai).flatten))],.h 1 (iU z),.h 1 (iU z1),.h 0 (iI (((j+1):Nat):Int)),.aP [0,1,2,7,8,12,13]] hs (Pq (ak h1) h2 (sY h3) (iP h4) (cj (Eq.refl (((j:Nat):Int):Int)) h1) (BP (enc:=ai) (f:=fun a=>(vW a)) (fun _=>rfl) h5) (tM v1) (gd h6) (tM w) (ir h7) (ir h8) (gd h9) (cj (Eq.refl (((j:Nat):Int):Int)) h1) (QX cx (l:Ws) w1 b j dM) (gE (k := .u64) gy) (gE (k := .u64) j8) (aR nK)) hL
theorem dw(b c:Nat)(v:Ws)(n d g i:Nat)(j:Ws){sin:cq}(hs:sin.all (fun p=>Nat.ble fn.ntmps p.1)=true)(hi:sin.all (fun p=>Cw p.1||(cq.get [(100000,(.pure ((j:Ws).map ai).flatten))] p.1).isSome)=true)(h1:c≤i):aj b c v n d g i j sin (.pv (vB ((g:Int)==1))) [(100000,(.pure ((j:Ws).map ai).flatten))] :=
 Kv 120 [1] [.a,.q,.f,.q,.ord [100000]] hs hi (y1 (ax h1))
end pk
namespace rX
@[reducible] def fn:Func:=Tryz.f272
def bK:List gC:=focus [0,2,0,2,0,0] [.code (aA fn)]
def inv1(off len:Nat)(v:List UInt32)(JW uE:Nat)(dN:List UInt32):St:=⟨[(0,(.row 100000 off len 1)),(1,(.pv (ag v))),(4,(eU JW)),(7,(eI (len:Int))),(8,(eI (uE:Int)))],[(100000,(.pure ((dN:List UInt32).map ai).flatten))]⟩
@[reducible] def aj(off len:Nat)(v:List UInt32)(JW uE:Nat)(dN:List UInt32)(sin:cq)(r:EV)(sout:cq):Prop:=LX bT fn bK (inv1 off len v JW uE dN) sin r sout
theorem e0 (u : Ws) (a b : Nat) (v : Ws) {r : EV} {sout : cq}  (hL : aj a b v 0 0 u [(100000, (.pure ((u : Ws).map ai).flatten))] r sout) : av bT 272 [(.row 100000 a b 1), (.pv (ag v))] [(100000, (.pure ((u : Ws).map ai).flatten))] r sout :=
 QY func272 78 [] [.q,.q,.aP [0,1,4,7,8]] True.intro hL
theorem l10(b c:Nat)(v:Ws)(d g:Nat)(i:Ws)(v1:UInt32)(j s s1:Nat)(w:UInt32)(z:Nat){r:EV}{sout:cq}{sin:cq}(hs:sin.all (fun p=>Nat.ble fn.ntmps p.1)=true)(h1:g<c)(h2:i[b+g]? = some v1)(h3:Cp 222 [ag v,(vI (g:Int))] (vU j))(h4:(v1.toNat+j)%18446744073709551616=s)(h5:(d+s)%18446744073709551616=s1)(h6:s1%4294967296=w.toNat)(h7:(b+g)<i.length)(h8:s1/2^(min 32 64)=z)(h9:(g+1)<9223372036854775808)(hL:aj b c v z (g+1) (i.set (b+g) w) sin r sout):aj b c v d g i sin r sout :=
 Po 129 [1,2,1,1,1,1,1,1,2,2,1,1] [.a,.q,.t,.q,dr 11 1 [.none,.none,.none,(.nat g),(.ev (.pv (vW v1))),iU v1.toNat,.none,.none,(.pv (vU j)),iU s,iU s1],.ba [.o,.o,.o,iW w,(.nat g),(.cells (.pure (((i.set (b+g) w):Ws).map ai).flatten))],.h 1 (iU z),.h 0 (iI (((g+1):Nat):Int)),.aP [0,1,4,7,8]] hs (Pp (ak h1) (cj (Eq.refl (((g:Nat):Int):Int)) h1) (BP (enc:=ai) (f:=fun a=>(vW a)) (fun _=>rfl) h2) (tM v1) h3 (iP h4) (iP h5) (gd h6) (cj (Eq.refl (((g:Nat):Int):Int)) h1) (QX cx (i:Ws) w b g h7) (gE (k := .u64) h8) (aR h9)) hL
theorem dw(b c:Nat)(v:Ws)(d g:Nat)(i:Ws){sin:cq}(hs:sin.all (fun p=>Nat.ble fn.ntmps p.1)=true)(hi:sin.all (fun p=>Cw p.1||(cq.get [(100000,(.pure ((i:Ws).map ai).flatten))] p.1).isSome)=true)(h1:c≤g):aj b c v d g i sin (.pv (.aB [])) [(100000,(.pure ((i:Ws).map ai).flatten))] :=
 Kv 105 [1] [.a,.q,.f,.ord [100000]] hs hi (y1 (ax h1))
end rX
namespace rY
@[reducible] def fn:Func:=Tryz.f273
def bK:List gC:=focus [0,2,0,2,0,0,2,0,0] [.code (aA fn)]
def inv1(a:List UInt32)(n:Int)(pn:Nat)(nL:List UInt32):St:=⟨[(0,(.pv (ag a))),(1,(eI n)),(5,(.row 9 0 a.length 1)),(11,(eI (a.length:Int))),(12,(eI (pn:Int)))],[(9,(.pure ((nL:List UInt32).map ai).flatten))]⟩
@[reducible] def aj(a:List UInt32)(n:Int)(pn:Nat)(nL:List UInt32)(r:PV):Prop:=L bT fn bK (inv1 a n pn nL) r
theorem e0(a:Ws)(n:Int){r:PV}(h1:4*a.length≤140737488355328)(hL:aj a n 0 (List.replicate a.length (0:UInt32)) r):Cp 273 [ag a,vI n] r :=
 eG func273 87 [1,5,1] [.q,.ba [.o,(iI (a.length:Int)),(.app a.length ((List.replicate a.length (0:UInt32):Ws).map ai).flatten)],.h 1 (iI (a.length:Int)),.aP [0,1,5,11,12]] (y3 (au ai a) (yy ai 0 4 a.length (Eq.refl (((a.length:Nat):Int):Int)) h1 rfl) (au ai a)) hL
theorem l10(a:Ws)(n:Int)(b:Nat)(c:Ws)(v:UInt32)(d z z1 k z2:Nat)(w:UInt32){r:PV}(h1:b<a.length)(h2:a[b]? = some v)(h3:(b+1)<9223372036854775808)(h4:Cp 222 [ag a,(vI (((b+1):Nat):Int))] (vU d))(h5:(d*2^(min 32 64))%18446744073709551616=z)(h6:(v.toNat%18446744073709551616) ||| (z%18446744073709551616)=z1)(h7:n=(k:Int))(h8:z1/2^(min k 64)=z2)(h9:z2%4294967296=w.toNat)(dM:b<c.length)(hL:aj a n (b+1) (c.set b w) r):aj a n b c r :=
 lG 126 [1,3,1,1,1,1,1,1,1,2,2,1] [.a,.q,.t,.q,dr 17 1 [.none,.none,.none,.none,(.row b (ai v)),.none,iU v.toNat,.none,.none,(iI (((b+1):Nat):Int)),(.pv (vU d)),iU z,iU z1,.none,iU z2,iW w,(.nat b),(.cells (.pure (((c.set b w):Ws).map ai).flatten))],.h 0 (iI (((b+1):Nat):Int)),.aP [0,1,5,11,12]] (Pp (ak h1) (bU ai (Eq.refl (((b:Nat):Int):Int)) h2) (tM v) (aR h3) h4 (nG (k := .u64) h5) (sZ h6) (S1 h7 (gE (k := .i64) h8)) (gd h9) (cj (Eq.refl (((b:Nat):Int):Int)) h1) (mm cx (c:Ws) w dM) (aR h3)) hL
theorem dw(a:Ws)(n:Int)(b:Nat)(c d:Ws)(h1:a.length≤b)(h2:a.length=c.length)(h3:Cp 221 [ag c] (ag d)):aj a n b c (ag d) :=
 lD 120 [1,3,1] [.a,.q,.f,.iZ 5 ((c:Ws).map ai),.h 1 (.pv (ag d))] (y3 (ax h1) (eR cx (c:Ws) h2) h3)
end rY
namespace oo
theorem e0(x z z1:UInt32)(m b:Nat)(h1:65536≤x.toNat)(h2:x.toNat/2^(min 16 32)=z.toNat)(h3:256≤z.toNat)(h4:z.toNat/2^(min 8 32)=z1.toNat)(h5:z1.toNat%256=m)(h6:((ByteArray.mk #[0,1,2,2,3,3,3,3,4,4,4,4,4,4,4,4,5,5,5,5,5,5,5,5,5,5,5,5,5,5,5,5,6,6,6,6,6,6,6,6,6,6,6,6,6,6,6,6,6,6,6,6,6,6,6,6,6,6,6,6,6,6,6,6,7,7,7,7,7,7,7,7,7,7,7,7,7,7,7,7,7,7,7,7,7,7,7,7,7,7,7,7,7,7,7,7,7,7,7,7,7,7,7,7,7,7,7,7,7,7,7,7,7,7,7,7,7,7,7,7,7,7,7,7,7,7,7,7,8,8,8,8,8,8,8,8,8,8,8,8,8,8,8,8,8,8,8,8,8,8,8,8,8,8,8,8,8,8,8,8,8,8,8,8,8,8,8,8,8,8,8,8,8,8,8,8,8,8,8,8,8,8,8,8,8,8,8,8,8,8,8,8,8,8,8,8,8,8,8,8,8,8,8,8,8,8,8,8,8,8,8,8,8,8,8,8,8,8,8,8,8,8,8,8,8,8,8,8,8,8,8,8,8,8,8,8,8,8,8,8,8,8,8,8,8,8,8,8,8,8,8,8,8,8,8,8]).data.toList[m]?).map (fun b=>(b.toNat:Int))=some (b:Int))(h7:b<9223372036854775808)(h8:(24+b)<9223372036854775808):Cp 292 [vW x] (vI (((24+b):Nat):Int)) :=
 eD func292 114 [1,1,1,1,1,2,1,1] [.q,.q,.t,.h 1 (iW z),.q,.q,.t,.h 1 (iW z1),.q,.ba [.o,.o,(.pv (.int .u8 (m:Int))),(.row m [.int .u8 (b:Int)]),(iI (b:Int)),(iI (((24+b):Nat):Int))]] (y8 (cP h1) (q9 (k := .u64) h2) (cP h3) (q9 (k := .u64) h4) (JR h5) (cj (Eq.refl (((m:Nat):Int):Int)) h6) (tF h7) (aR h8))
theorem e1(x z:UInt32)(m b:Nat)(h1:65536≤x.toNat)(h2:x.toNat/2^(min 16 32)=z.toNat)(h3:z.toNat<256)(h4:z.toNat%256=m)(h5:((ByteArray.mk #[0,1,2,2,3,3,3,3,4,4,4,4,4,4,4,4,5,5,5,5,5,5,5,5,5,5,5,5,5,5,5,5,6,6,6,6,6,6,6,6,6,6,6,6,6,6,6,6,6,6,6,6,6,6,6,6,6,6,6,6,6,6,6,6,7,7,7,7,7,7,7,7,7,7,7,7,7,7,7,7,7,7,7,7,7,7,7,7,7,7,7,7,7,7,7,7,7,7,7,7,7,7,7,7,7,7,7,7,7,7,7,7,7,7,7,7,7,7,7,7,7,7,7,7,7,7,7,7,8,8,8,8,8,8,8,8,8,8,8,8,8,8,8,8,8,8,8,8,8,8,8,8,8,8,8,8,8,8,8,8,8,8,8,8,8,8,8,8,8,8,8,8,8,8,8,8,8,8,8,8,8,8,8,8,8,8,8,8,8,8,8,8,8,8,8,8,8,8,8,8,8,8,8,8,8,8,8,8,8,8,8,8,8,8,8,8,8,8,8,8,8,8,8,8,8,8,8,8,8,8,8,8,8,8,8,8,8,8,8,8,8,8,8,8,8,8,8,8,8,8,8,8,8,8,8,8]).data.toList[m]?).map (fun b=>(b.toNat:Int))=some (b:Int))(h6:b<9223372036854775808)(h7:(16+b)<9223372036854775808):Cp 292 [vW x] (vI (((16+b):Nat):Int)) :=
 eD func292 108 [1,1,1,1,2,1,1] [.q,.q,.t,.h 1 (iW z),.q,.q,.f,.ba [.o,.o,(.pv (.int .u8 (m:Int))),(.row m [.int .u8 (b:Int)]),(iI (b:Int)),(iI (((16+b):Nat):Int))]] (y7 (cP h1) (q9 (k := .u64) h2) (cN h3) (JR h4) (cj (Eq.refl (((m:Nat):Int):Int)) h5) (tF h6) (aR h7))
theorem e2(x z:UInt32)(m b:Nat)(h1:x.toNat<65536)(h2:256≤x.toNat)(h3:x.toNat/2^(min 8 32)=z.toNat)(h4:z.toNat%256=m)(h5:((ByteArray.mk #[0,1,2,2,3,3,3,3,4,4,4,4,4,4,4,4,5,5,5,5,5,5,5,5,5,5,5,5,5,5,5,5,6,6,6,6,6,6,6,6,6,6,6,6,6,6,6,6,6,6,6,6,6,6,6,6,6,6,6,6,6,6,6,6,7,7,7,7,7,7,7,7,7,7,7,7,7,7,7,7,7,7,7,7,7,7,7,7,7,7,7,7,7,7,7,7,7,7,7,7,7,7,7,7,7,7,7,7,7,7,7,7,7,7,7,7,7,7,7,7,7,7,7,7,7,7,7,7,8,8,8,8,8,8,8,8,8,8,8,8,8,8,8,8,8,8,8,8,8,8,8,8,8,8,8,8,8,8,8,8,8,8,8,8,8,8,8,8,8,8,8,8,8,8,8,8,8,8,8,8,8,8,8,8,8,8,8,8,8,8,8,8,8,8,8,8,8,8,8,8,8,8,8,8,8,8,8,8,8,8,8,8,8,8,8,8,8,8,8,8,8,8,8,8,8,8,8,8,8,8,8,8,8,8,8,8,8,8,8,8,8,8,8,8,8,8,8,8,8,8,8,8,8,8,8,8]).data.toList[m]?).map (fun b=>(b.toNat:Int))=some (b:Int))(h6:b<9223372036854775808)(h7:(8+b)<9223372036854775808):Cp 292 [vW x] (vI (((8+b):Nat):Int)) :=
 eD func292 108 [1,1,1,1,2,1,1] [.q,.q,.f,.q,.t,.h 1 (iW z),.q,.ba [.o,.o,(.pv (.int .u8 (m:Int))),(.row m [.int .u8 (b:Int)]),(iI (b:Int)),(iI (((8+b):Nat):Int))]] (y7 (cN h1) (cP h2) (q9 (k := .u64) h3) (JR h4) (cj (Eq.refl (((m:Nat):Int):Int)) h5) (tF h6) (aR h7))
theorem e3(x:UInt32)(m b:Nat)(h1:x.toNat<65536)(h2:x.toNat<256)(h3:x.toNat%256=m)(h4:((ByteArray.mk #[0,1,2,2,3,3,3,3,4,4,4,4,4,4,4,4,5,5,5,5,5,5,5,5,5,5,5,5,5,5,5,5,6,6,6,6,6,6,6,6,6,6,6,6,6,6,6,6,6,6,6,6,6,6,6,6,6,6,6,6,6,6,6,6,7,7,7,7,7,7,7,7,7,7,7,7,7,7,7,7,7,7,7,7,7,7,7,7,7,7,7,7,7,7,7,7,7,7,7,7,7,7,7,7,7,7,7,7,7,7,7,7,7,7,7,7,7,7,7,7,7,7,7,7,7,7,7,7,8,8,8,8,8,8,8,8,8,8,8,8,8,8,8,8,8,8,8,8,8,8,8,8,8,8,8,8,8,8,8,8,8,8,8,8,8,8,8,8,8,8,8,8,8,8,8,8,8,8,8,8,8,8,8,8,8,8,8,8,8,8,8,8,8,8,8,8,8,8,8,8,8,8,8,8,8,8,8,8,8,8,8,8,8,8,8,8,8,8,8,8,8,8,8,8,8,8,8,8,8,8,8,8,8,8,8,8,8,8,8,8,8,8,8,8,8,8,8,8,8,8,8,8,8,8,8,8]).data.toList[m]?).map (fun b=>(b.toNat:Int))=some (b:Int))(h5:b<9223372036854775808)(h6:(0+b)<9223372036854775808):Cp 292 [vW x] (vI (((0+b):Nat):Int)) :=
 eD func292 102 [1,1,1,2,1,1] [.q,.q,.f,.q,.f,.ba [.o,.o,(.pv (.int .u8 (m:Int))),(.row m [.int .u8 (b:Int)]),(iI (b:Int)),(iI (((0+b):Nat):Int))]] (y6 (cN h1) (cN h2) (JR h3) (cj (Eq.refl (((m:Nat):Int):Int)) h4) (tF h5) (aR h6))
end oo
end Go.Proofs.YtllmkadmohkbfaaGreatDoor.Sym.Path
end
