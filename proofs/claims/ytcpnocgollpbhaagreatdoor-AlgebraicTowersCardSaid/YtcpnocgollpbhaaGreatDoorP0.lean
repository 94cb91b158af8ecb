/- Lemmas for the statements of this seat. -/
import Derived.Test.YtcpnocgollpbhaaGreatDoorT0
noncomputable section
namespace Go.Proofs.YtcpnocgollpbhaaGreatDoor.Sym.Path
open Go Tryz
set_option maxRecDepth 20000
set_option linter.unusedVariables false
namespace oc
theorem e0(a b:az)(c d:Int)(h1:Cp 103 [a.pv] (vI c))(h2:Cp 103 [b.pv] (vI d))(h3:c≠d)(h4:c<d):Cp 53 [a.pv,b.pv] (vI (-1)) :=
 eD func53 [] [.q,dr 4 2 [.none,(.pv (vI c)),.none,(.pv (vI d))],.q,.t,.q,.t,.q] (y4 h1 h2 (kg h3) (bA h4))
theorem e1(a b:az)(c d:Int)(h1:Cp 103 [a.pv] (vI c))(h2:Cp 103 [b.pv] (vI d))(h3:c≠d)(h4:d≤c):Cp 53 [a.pv,b.pv] (vI 1) :=
 eD func53 [] [.q,dr 4 2 [.none,(.pv (vI c)),.none,(.pv (vI d))],.q,.t,.q,.f,.q] (y4 h1 h2 (kg h3) (bm h4))
theorem e2(a b:az)(c d:Int)(g i:Ws)(j:Int)(k:Bool)(h1:Cp 103 [a.pv] (vI c))(h2:Cp 103 [b.pv] (vI d))(h3:c=d)(h4:Cp 105 [a.pv] (af g))(h5:Cp 105 [b.pv] (af i))(h6:Cp 104 [af g,af i] (vI j))(h7:Cp 106 [a.pv] (vB k))(h8:k=true)(h9:ay (-j)):Cp 53 [a.pv,b.pv] (vI (-j)) :=
 eD func53 [] [.q,dr 4 2 [.none,(.pv (vI c)),.none,(.pv (vI d))],.q,.f,dr 5 1 [.none,(.pv (af g)),.none,(.pv (af i)),(.pv (vI j))],.h 1 (.pv (vB k)),.t,.h 1 (iI (-j))] (y9 h1 h2 (gr h3) h4 h5 h6 h7 h8 (De h9))
theorem e3(a b:az)(c d:Int)(g i:Ws)(j:Int)(k:Bool)(h1:Cp 103 [a.pv] (vI c))(h2:Cp 103 [b.pv] (vI d))(h3:c=d)(h4:Cp 105 [a.pv] (af g))(h5:Cp 105 [b.pv] (af i))(h6:Cp 104 [af g,af i] (vI j))(h7:Cp 106 [a.pv] (vB k))(h8:k=false):Cp 53 [a.pv,b.pv] (vI j) :=
 eD func53 [] [.q,dr 4 2 [.none,(.pv (vI c)),.none,(.pv (vI d))],.q,.f,dr 5 1 [.none,(.pv (af g)),.none,(.pv (af i)),(.pv (vI j))],.h 1 (.pv (vB k)),.f,.q] (y8 h1 h2 (gr h3) h4 h5 h6 h7 h8)
end oc
namespace AY
theorem e0(a b:az)(c d:Bool)(g i j:Ws)(k:az)(h1:Cp 106 [a.pv] (vB c))(h2:Cp 106 [b.pv] (vB d))(h3:Cp 105 [a.pv] (af g))(h4:Cp 105 [b.pv] (af i))(h5:Cp 108 [af g,af i] (af j))(h6:Cp 107 [(vB (!(c==d))),af j] k.pv):Cp 54 [a.pv,b.pv] k.pv :=
 eD func54 [] [.q,dr 11 1 [.none,(.pv (vB c)),.none,(.pv (vB d)),.none,.none,(.pv (af g)),.none,(.pv (af i)),(.pv (af j)),(.pv k.pv)]] (y6 h1 h2 h3 h4 h5 h6)
end AY
namespace xd
theorem e0(n:Int)(m m1:Nat)(w:UInt32)(z:Nat)(w1:UInt32)(a:az)(h1:n%18446744073709551616=(m:Int))(h2:n<0)(h3:(0-(m:Int))%18446744073709551616=(m1:Int))(h4:m1%4294967296=w.toNat)(h5:m1/2^(min 32 64)=z)(h6:z%4294967296=w1.toNat)(h7:Cp 107 [(vB (decide (n<0))),(af [w,w1])] a.pv):Cp 56 [vI n] a.pv :=
 eD func56 [1,1,1,1,1,1,3] [.q,.h 1 (iU m),.q,.t,.h 1 (iU m1),.aR [.o,.o,.o,iW w,.o,iU z,iW w1,(.fj 0 0 (([w,w1]:Ws).map aj)),(.pv a.pv)]] (y8 (Gy h1) (bA h2) (Df h3) (cL h4) (cS (k := .u64) h5) (cL h6) (kV bc ([w,w1]:Ws)) h7)
theorem e1(n:Int)(m:Nat)(w:UInt32)(z:Nat)(w1:UInt32)(a:az)(h1:n%18446744073709551616=(m:Int))(h2:0≤n)(h3:m%4294967296=w.toNat)(h4:m/2^(min 32 64)=z)(h5:z%4294967296=w1.toNat)(h6:Cp 107 [(vB (decide (n<0))),(af [w,w1])] a.pv):Cp 56 [vI n] a.pv :=
 eD func56 [1,1,1,1,1,3] [.q,.h 1 (iU m),.q,.f,.aR [.o,.o,.o,iW w,.o,iU z,iW w1,(.fj 0 0 (([w,w1]:Ws).map aj)),(.pv a.pv)]] (y7 (Gy h1) (bm h2) (cL h3) (cS (k := .u64) h4) (cL h5) (kV bc ([w,w1]:Ws)) h6)
end xd
namespace qU
theorem e0(a b:az)(c d:Ws)(g i j:Bool)(k:Ws)(l:az)(h1:Cp 105 [a.pv] (af c))(h2:Cp 105 [b.pv] (af d))(h3:Cp 106 [a.pv] (vB g))(h4:Cp 106 [b.pv] (vB i))(h5:g=i)(h6:Cp 106 [a.pv] (vB j))(h7:Cp 140 [af c,af d] (af k))(h8:Cp 107 [vB j,af k] l.pv):Cp 74 [a.pv,b.pv] l.pv :=
 eD func74 [] [.q,dr 4 2 [.none,(.pv (af c)),.none,(.pv (af d))],dr 5 1 [.none,(.pv (vB g)),.none,(.pv (vB i))],.t,.aR [.o,(.pv (vB j)),.o,.o,(.pv (af k)),(.pv l.pv)]] (y8 h1 h2 h3 h4 (qR h5) h6 h7 h8)
theorem e1(a b:az)(c d:Ws)(g i:Bool)(j:Int)(k:Bool)(l:Ws)(m:az)(h1:Cp 105 [a.pv] (af c))(h2:Cp 105 [b.pv] (af d))(h3:Cp 106 [a.pv] (vB g))(h4:Cp 106 [b.pv] (vB i))(h5:g≠i)(h6:Cp 104 [af c,af d] (vI j))(h7:0≤j)(h8:Cp 106 [a.pv] (vB k))(h9:Cp 141 [af c,af d] (af l))(bQ:Cp 107 [vB k,af l] m.pv):Cp 74 [a.pv,b.pv] m.pv :=
 eD func74 [] [.q,dr 4 2 [.none,(.pv (af c)),.none,(.pv (af d))],dr 5 1 [.none,(.pv (vB g)),.none,(.pv (vB i))],.f,.h 2 (.pv (vI j)),.t,.aR [.o,(.pv (vB k)),.o,.o,(.pv (af l)),(.pv m.pv)]] (JT h1 h2 h3 h4 (wz h5) h6 (bg h7) h8 h9 bQ)
theorem e2(a b:az)(c d:Ws)(g i:Bool)(j:Int)(k:Bool)(l:Ws)(m:az)(h1:Cp 105 [a.pv] (af c))(h2:Cp 105 [b.pv] (af d))(h3:Cp 106 [a.pv] (vB g))(h4:Cp 106 [b.pv] (vB i))(h5:g≠i)(h6:Cp 104 [af c,af d] (vI j))(h7:j<0)(h8:Cp 106 [b.pv] (vB k))(h9:Cp 141 [af d,af c] (af l))(bQ:Cp 107 [vB k,af l] m.pv):Cp 74 [a.pv,b.pv] m.pv :=
 eD func74 [] [.q,dr 4 2 [.none,(.pv (af c)),.none,(.pv (af d))],dr 5 1 [.none,(.pv (vB g)),.none,(.pv (vB i))],.f,.h 2 (.pv (vI j)),.f,.aR [.o,(.pv (vB k)),.o,.o,(.pv (af l)),(.pv m.pv)]] (JT h1 h2 h3 h4 (wz h5) h6 (fc h7) h8 h9 bQ)
end qU
namespace jm
@[reducible] def fn:Func:=Tryz.f76
def aY:List dJ:=focus [0,2,0,2,0,0,2,1,2,0,2,0,0,0] [.code (aL fn)]
def inv1(m_3:List UInt32)(GB:List ByteArray)(a:az):St:=⟨[(1,(.ptr 1 0)),(3,(.pv (af m_3))),(4,(.pv (bB kE GB)))],[(1,(.lit [(eB a.neg),(.pv (af a.cJ))]))]⟩
@[reducible] def ah(m_3:List UInt32)(GB:List ByteArray)(a:az)(r:PV):Prop:=L bu fn aY (inv1 m_3 GB a) r
theorem e0(a:az)(b:Ws)(h1:Cp 105 [a.pv] (af b))(h2:b.length=0):Cp 76 [a.pv] (.str (ByteArray.mk #[48])) :=
 eD func76 [] [.q,.h 1 (.pv (af b)),.h 1 (iL b),.t,.q] (y3 h1 (an aj b) (aM h2))
theorem e1(a:az)(b:Ws){r:PV}(h1:Cp 105 [a.pv] (af b))(h2:b.length≠0)(hL:ah b [] a r):Cp 76 [a.pv] r :=
 eG func76 [] [.q,.h 1 (.pv (af b)),.h 1 (iL b),.f,.q,.aG [1,3,4]] (y3 h1 (an aj b) (aB h2)) hL
theorem cB(b:Ws)(c:List ByteArray)(a:az)(d:Ws)(g:UInt32)(i:ByteArray){r:PV}(h1:0<b.length)(h2:Cp 143 [af b,(vW (1000000000:UInt32))] (.aF [af d,vW g]))(h3:Cp 144 [(vI (g.toNat:Int))] (.str i))(h4:d.length≤0)(h5:(([i]++c):List ByteArray).length*16≤140737488355328)(hL:ah d ([i]++c) a r):ah b c a r :=
 lG [1,1,1,1,1,1,1,6,3] [.a,.h 1 (iL b),.t,.q,.h 1 (.pv (.aF [af d,vW g])),.aR [.o,(iI (g.toNat:Int)),(.pv (.str i))],.h 1 (iL d),.f,.h 3 (.app (([i]++c):List ByteArray).length ((([i]++c):List ByteArray).map kE).flatten),.dH 4 ((([i]++c):List ByteArray).map kE),.aG [1,3,4]] (y9 (an aj b) (ai h1) h2 (Xs g) h3 (an aj d) (ar h4) (iw Pn ([i]:List ByteArray) (c:List ByteArray) 16 (Eq.refl ([i]:List ByteArray).length) h5 rfl) (bU Pn (([i]++c):List ByteArray) (Eq.refl (([i]++c):List ByteArray).length))) hL
theorem jT(b:Ws)(c:List ByteArray)(a:az)(d:ByteArray)(g:Bool)(h1:b.length≤0)(h2:Cp 146 [bB kE c,(.str (ByteArray.mk #[]))] (.str d))(h3:Cp 106 [a.pv] (vB g))(h4:g=true)(h5:(ByteArray.mk #[45]).size+d.size<9223372036854775808):ah b c a (.str ((ByteArray.mk #[45])++d)) :=
 lD [] [.a,.h 1 (iL b),.f,.h 1 (.pv (.str d)),.h 1 (.pv (vB g)),.t,.h 1 (.pv (.str ((ByteArray.mk #[45])++d))),.q] (y6 (an aj b) (ar h1) h2 h3 h4 (yi h5))
theorem tN(b:Ws)(c:List ByteArray)(a:az)(d:ByteArray)(g:Bool)(h1:b.length≤0)(h2:Cp 146 [bB kE c,(.str (ByteArray.mk #[]))] (.str d))(h3:Cp 106 [a.pv] (vB g))(h4:g=false):ah b c a (.str d) :=
 lD [] [.a,.h 1 (iL b),.f,.h 1 (.pv (.str d)),.h 1 (.pv (vB g)),.f,.q] (y5 (an aj b) (ar h1) h2 h3 h4)
end jm
namespace o7
theorem e0(a:az)(b:Ws)(h1:Cp 105 [a.pv] (af b))(h2:b.length=0):Cp 103 [a.pv] (vI 0) :=
 eD func103 [] [.q,.aR [.o,(.pv (af b)),(iL b)],.t,.q] (y3 h1 (an aj b) (aM h2))
theorem e1(a:az)(b:Ws)(h1:Cp 105 [a.pv] (af b))(h2:b.length≠0)(h3:a.neg=true):Cp 103 [a.pv] (vI (-1)) :=
 eD func103 [] [.q,.aR [.o,(.pv (af b)),(iL b)],.f,.q,.t,.q] (y4 h1 (an aj b) (aB h2) h3)
theorem e2(a:az)(b:Ws)(h1:Cp 105 [a.pv] (af b))(h2:b.length≠0)(h3:a.neg=false):Cp 103 [a.pv] (vI 1) :=
 eD func103 [] [.q,.aR [.o,(.pv (af b)),(iL b)],.f,.q,.f,.q] (y4 h1 (an aj b) (aB h2) h3)
end o7
namespace ec
@[reducible] def fn:Func:=Tryz.f104
def aY:List dJ:=focus [0,2,0,0,2,1,2,0,0,2,0,0] [.code (aL fn)]
def inv1(a b:List UInt32)(Dp:Int):St:=⟨[(0,(.pv (af a))),(1,(.pv (af b))),(5,(eI Dp))],[]⟩
@[reducible] def ah(a b:List UInt32)(Dp:Int)(r:PV):Prop:=L bu fn aY (inv1 a b Dp) r
theorem e0(a b:Ws)(h1:a.length≠b.length)(h2:a.length<b.length):Cp 104 [af a,af b] (vI (-1)) :=
 eD func104 [] [.q,.aR [.o,(iL a),.o,(iL b)],.t,.aR [.o,(iL a),.o,(iL b)],.t,.q] (y6 (an aj a) (an aj b) (dj h1) (an aj a) (an aj b) (ai h2))
theorem e1(a b:Ws)(h1:a.length≠b.length)(h2:b.length≤a.length):Cp 104 [af a,af b] (vI 1) :=
 eD func104 [] [.q,.aR [.o,(iL a),.o,(iL b)],.t,.aR [.o,(iL a),.o,(iL b)],.f,.q] (y6 (an aj a) (an aj b) (dj h1) (an aj a) (an aj b) (ar h2))
theorem e2(a b:Ws){r:PV}(h1:a.length=b.length)(h2:ay ((a.length:Int)-1))(hL:ah a b ((a.length:Int)-1) r):Cp 104 [af a,af b] r :=
 eG func104 [] [.q,.aR [.o,(iL a),.o,(iL b)],.f,.aR [.o,(iL a),(iI ((a.length:Int)-1))],.aG [0,1,5]] (y5 (an aj a) (an aj b) (dk h1) (an aj a) (aQ h2)) hL
theorem l10(a b:Ws)(c:Int)(k:Nat)(v:UInt32)(k1:Nat)(v1:UInt32)(k2:Nat)(v2:UInt32)(k3:Nat)(v3:UInt32)(h1:0≤c)(h2:c=(k:Int))(h3:a[k]? = some v)(h4:c=(k1:Int))(h5:b[k1]? = some v1)(h6:v.toNat≠v1.toNat)(h7:c=(k2:Int))(h8:a[k2]? = some v2)(h9:c=(k3:Int))(bQ:b[k3]? = some v3)(dU:v2.toNat<v3.toNat):ah a b c (vI (-1)) :=
 lD [1,3,3,1,3,3] [.a,.q,.t,dr 9 0 [.none,.none,(.row k (aj v)),.none,.none,.none,(.row k1 (aj v1))],.t,dr 9 0 [.none,.none,(.row k2 (aj v2)),.none,.none,.none,(.row k3 (aj v3))],.t,.q] (y7 (bg h1) (ba aj h2 h3) (ba aj h4 h5) (dj h6) (ba aj h7 h8) (ba aj h9 bQ) (ai dU))
theorem cB(a b:Ws)(c:Int)(k:Nat)(v:UInt32)(k1:Nat)(v1:UInt32)(k2:Nat)(v2:UInt32)(k3:Nat)(v3:UInt32)(h1:0≤c)(h2:c=(k:Int))(h3:a[k]? = some v)(h4:c=(k1:Int))(h5:b[k1]? = some v1)(h6:v.toNat≠v1.toNat)(h7:c=(k2:Int))(h8:a[k2]? = some v2)(h9:c=(k3:Int))(bQ:b[k3]? = some v3)(dU:v3.toNat≤v2.toNat):ah a b c (vI 1) :=
 lD [1,3,3,1,3,3] [.a,.q,.t,dr 9 0 [.none,.none,(.row k (aj v)),.none,.none,.none,(.row k1 (aj v1))],.t,dr 9 0 [.none,.none,(.row k2 (aj v2)),.none,.none,.none,(.row k3 (aj v3))],.f,.q] (y7 (bg h1) (ba aj h2 h3) (ba aj h4 h5) (dj h6) (ba aj h7 h8) (ba aj h9 bQ) (ar dU))
theorem jT(a b:Ws)(c:Int)(k:Nat)(v:UInt32)(k1:Nat)(v1:UInt32){r:PV}(h1:0≤c)(h2:c=(k:Int))(h3:a[k]? = some v)(h4:c=(k1:Int))(h5:b[k1]? = some v1)(h6:v.toNat=v1.toNat)(h7:ay (c-1))(hL:ah a b (c-1) r):ah a b c r :=
 lG [1,3,3] [.a,.q,.t,dr 9 0 [.none,.none,(.row k (aj v)),.none,.none,.none,(.row k1 (aj v1))],.f,.h 1 (iI (c-1)),.aG [0,1,5]] (y5 (bg h1) (ba aj h2 h3) (ba aj h4 h5) (dk h6) (aQ h7)) hL
theorem tN(a b:Ws)(c:Int)(h1:c<0):ah a b c (vI 0) :=
 lD [] [.a,.q,.f,.q] (y1 (fc h1))
end ec
namespace uD
theorem e0(a:az)(b:Bool)(h1:Cp 171 [a.pv] (vB b))(h2:b=false):Cp 105 [a.pv] (af []) :=
 eD func105 [] [.q,.h 1 (.pv (vB b)),.t,.q] (y2 h1 (dm h2))
theorem e1(a:az)(b:Bool)(h1:Cp 171 [a.pv] (vB b))(h2:b=true):Cp 105 [a.pv] (af a.cJ) :=
 eD func105 [] [.q,.h 1 (.pv (vB b)),.f,.q] (y2 h1 (bw h2))
end uD
namespace uE
theorem e0(a:az)(b:Bool)(h1:Cp 171 [a.pv] (vB b))(h2:b=true):Cp 106 [a.pv] (vB a.neg) :=
 eD func106 [] [.q,.aR [.o,(.pv (vB b)),.o,.o,.o,(.dec true)]] (y4 h1 h2 h2 h2)
theorem e1(a:az)(b:Bool)(h1:Cp 171 [a.pv] (vB b))(h2:b=false):Cp 106 [a.pv] (vB false) :=
 eD func106 [] [.q,.aR [.o,(.pv (vB b)),.o,.skip,.skip,(.dec false)]] (y4 h1 h2 h2 h2)
end uE
namespace rQ
theorem e0(a:Bool)(m b:Ws)(h1:Cp 172 [af m] (af b))(h2:a=true):Cp 107 [vB a,af m] ((⟨(decide ((b.length:Int)>0)),b⟩:az).pv) :=
 eD func107 [] [.q,.h 1 (.pv (af b)),.aR [.o,.o,.o,(iL b),.o,(.dec true)]] (y6 h1 h2 h2 (an aj b) h2 h2)
theorem e1(a:Bool)(m b:Ws)(h1:Cp 172 [af m] (af b))(h2:a=false):Cp 107 [vB a,af m] ((⟨false,b⟩:az).pv) :=
 eD func107 [] [.q,.h 1 (.pv (af b)),.aR [.o,.o,.skip,.skip,.skip,(.dec false)]] (y5 h1 h2 h2 h2 h2)
end rQ
namespace fJ
@[reducible] def fn:Func:=Tryz.f108
def aY:List dJ:=focus [0,2,0,2,0,0,2,0,0] [.code (aL fn)]
def inv1(b a:List UInt32)(pP:Nat)(gY:List UInt32):St:=⟨[(1,(.pv (af b))),(5,(.row 16 0 (a.length+b.length) 1)),(17,(.pv (af a))),(18,(eI (a.length:Int))),(19,(eI (pP:Int)))],[(16,(.pure ((gY:List UInt32).map aj).flatten))]⟩
@[reducible] def ah(b a:List UInt32)(pP:Nat)(gY:List UInt32)(r:PV):Prop:=L bu fn aY (inv1 b a pP gY) r
def kZ:List dJ:=focus [0,2,0,2,0,0,2,0,0,0,0,2,0,0,2,0,0,0,2,0,2,0,0,2,0,0] [.code (aL fn)]
def inv2(b a:List UInt32)(Px:Nat)(v:UInt32)(GC pP Dq:Nat)(gY:List UInt32):St:=⟨[(1,(.pv (af b))),(5,(.row 16 0 (a.length+b.length) 1)),(6,(eI (Px:Int))),(7,(eW v)),(8,(eU GC)),(17,(.pv (af a))),(18,(eI (a.length:Int))),(19,(eI (pP:Int))),(24,(.pv (af b))),(25,(eI (b.length:Int))),(26,(eI (Dq:Int)))],[(16,(.pure ((gY:List UInt32).map aj).flatten))]⟩
@[reducible] def a8(b a:List UInt32)(Px:Nat)(v:UInt32)(GC pP Dq:Nat)(gY:List UInt32)(r:PV):Prop:=L bu fn kZ (inv2 b a Px v GC pP Dq gY) r
theorem e0(a b:Ws){r:PV}(h1:(a.length+b.length)<9223372036854775808)(h2:4*(a.length+b.length)≤140737488355328)(hL:ah b a 0 (List.replicate (a.length+b.length) (0:UInt32)) r):Cp 108 [af a,af b] r :=
 eG func108 [1,1,1,5] [.q,.aR [.o,(iL a),.o,(iL b),(iI (((a.length+b.length):Nat):Int)),(.app (a.length+b.length) ((List.replicate (a.length+b.length) (0:UInt32):Ws).map aj).flatten)],.h 1 (iL a),.aG [1,5,17,18,19]] (y5 (an aj a) (an aj b) (aJ h1) (sj aj 0 4 (a.length+b.length) (rN (a.length+b.length)) h2 rfl) (an aj a)) hL
theorem l10(b a:Ws)(c:Nat)(d:Ws)(v:UInt32){r:PV}(h1:c<a.length)(h2:a[c]? = some v)(hL:a8 b a c v 0 c 0 d r):ah b a c d r :=
 lG [1,3] [.a,.q,.t,.h 1 (.row c (aj v)),.q,.h 1 (iL b),.aG [1,5,6,7,8,17,18,19,24,25,26]] (y3 (ai h1) (ba aj (rN c) h2) (an aj b)) hL
theorem cB(b a:Ws)(c:Nat)(d g:Ws)(h1:a.length≤c)(h2:(a.length+b.length)=d.length)(h3:Cp 172 [af d] (af g)):ah b a c d (af g) :=
 lD [1,3] [.a,.q,.f,.dH 5 ((d:Ws).map aj),.h 1 (.pv (af g))] (y3 (ar h1) (bU bc (d:Ws) h2) h3)
theorem uF(b a:Ws)(c:Nat)(v:UInt32)(d g i:Nat)(j:Ws)(v1:UInt32)(p:Nat)(v2:UInt32)(s s1:Nat)(w:UInt32)(z:Nat){r:PV}(h1:i<b.length)(h2:b[i]? = some v1)(h3:(v.toNat*v1.toNat)%18446744073709551616=p)(h4:(c+i)<9223372036854775808)(h5:(c+i)<(a.length+b.length))(h6:j[(c+i)]? = some v2)(h7:(p+v2.toNat)%18446744073709551616=s)(h8:(d+s)%18446744073709551616=s1)(h9:s1%4294967296=w.toNat)(bQ:(c+i)<j.length)(dU:s1/2^(min 32 64)=z)(fP:(i+1)<9223372036854775808)(hL:a8 b a c v z g (i+1) (j.set (c+i) w) r):a8 b a c v d g i j r :=
 lG [1,3,1,1,1,1,2,1,1,1,1,1,1,2,2] [.a,.q,.t,.h 1 (.row i (aj v1)),.aR [.o,.o,iU v.toNat,.o,iU v1.toNat,iU p,.o,.o,.o,(iI (((c+i):Nat):Int)),(.nat (c+i)),(.ev (.pv (vW v2))),iU v2.toNat,iU s,iU s1],.aR [.o,.o,.o,(iI (((c+i):Nat):Int)),.o,iW w,(.nat (c+i)),(.cells (.pure (((j.set (c+i) w):Ws).map aj).flatten))],.h 1 (iU z),.h 0 (iI (((i+1):Nat):Int)),.aG [1,5,6,7,8,17,18,19,24,25,26]] (Ny (ai h1) (ba aj (rN i) h2) (n8 v) (n8 v1) (nF h3) (aJ h4) (cj (rN (c+i)) h5) (fK (enc:=aj) (f:=fun a=>(vW a)) (fun _=>rfl) h6) (n8 v2) (dM h7) (dM h8) (aJ h4) (cL h9) (cj (rN (c+i)) h5) (gu bc (j:Ws) w bQ) (cS (k := .u64) dU) (aJ fP)) hL
theorem xe(b a:Ws)(c:Nat)(v:UInt32)(d g i:Nat)(j:Ws)(w:UInt32){r:PV}(h1:b.length≤i)(h2:(c+b.length)<9223372036854775808)(h3:d%4294967296=w.toNat)(h4:(c+b.length)<(a.length+b.length))(h5:(c+b.length)<j.length)(h6:(g+1)<9223372036854775808)(hL:ah b a (g+1) (j.set (c+b.length) w) r):a8 b a c v d g i j r :=
 lG [1,1,1,1,2,2] [.a,.q,.f,.aR [.o,.o,.o,(iL b),(iI (((c+b.length):Nat):Int)),.o,iW w,(.nat (c+b.length)),(.cells (.pure (((j.set (c+b.length) w):Ws).map aj).flatten))],.h 0 (iI (((g+1):Nat):Int)),.aG [1,5,17,18,19]] (y7 (ar h1) (an aj b) (aJ h2) (cL h3) (cj (rN (c+b.length)) h4) (gu bc (j:Ws) w h5) (aJ h6)) hL
end fJ
namespace AZ
theorem e0(a:az)(b:Bool)(c:Ws)(d:az)(h1:Cp 106 [a.pv] (vB b))(h2:Cp 105 [a.pv] (af c))(h3:Cp 107 [(vB (!b)),af c] d.pv):Cp 109 [a.pv] d.pv :=
 eD func109 [] [.q,dr 6 1 [.none,(.pv (vB b)),.none,.none,(.pv (af c)),(.pv d.pv)]] (y3 h1 h2 h3)
end AZ
namespace l9
@[reducible] def fn:Func:=Tryz.f110
def aY:List dJ:=focus [0,2,0,2,0,0,0] [.code (aL fn)]
def inv1(x_5 y_6:List UInt32):St:=⟨[(4,(.ptr 4 0)),(5,(.pv (af x_5))),(6,(.pv (af y_6)))],[(4,(.lit [(eB false),(.pv (.list []))]))]⟩
@[reducible] def ah(x_5 y_6:List UInt32)(r:PV):Prop:=L bu fn aY (inv1 x_5 y_6) r
theorem e0(a b:az)(c d:Ws){r:PV}(h1:Cp 105 [a.pv] (af c))(h2:Cp 105 [b.pv] (af d))(hL:ah c d r):Cp 110 [a.pv,b.pv] r :=
 eG func110 [] [.q,dr 4 2 [.none,(.pv (af c)),.none,(.pv (af d))],.aG [4,5,6],.drop [3,2]] (y2 h1 h2) hL
theorem l10(b c d g:Ws){r:PV}(h1:0<c.length)(h2:Cp 173 [af b,af c] (.aF [af d,af g]))(hL:ah c g r):ah b c r :=
 lG [] [.a,.h 1 (iL c),.t,.h 2 (.pv (.aF [af d,af g])),.q,.aG [4,5,6]] (y3 (an aj c) (ai h1) h2) hL
theorem cB(b c:Ws)(d:az)(h1:c.length≤0)(h2:Cp 107 [vB false,af b] d.pv):ah b c d.pv :=
 lD [] [.a,.h 1 (iL c),.f,.h 1 (.pv d.pv)] (y3 (an aj c) (ar h1) h2)
end l9
namespace qV
theorem e1(a b:az)(c d g i:Ws)(j:Bool)(k l:Ws)(m n:Bool)(p s:az)(h1:Cp 105 [b.pv] (af c))(h2:c.length≠0)(h3:Cp 105 [a.pv] (af d))(h4:Cp 173 [af d,af c] (.aF [af g,af i]))(h5:Cp 106 [a.pv] (vB j))(h6:j=true)(h7:0<i.length)(h8:Cp 140 [af g,(af [(1:UInt32)])] (af k))(h9:Cp 141 [af c,af i] (af l))(bQ:Cp 106 [a.pv] (vB m))(dU:Cp 106 [b.pv] (vB n))(fP:Cp 107 [(vB (!(m==n))),af k] p.pv)(k7:Cp 107 [vB false,af l] s.pv):Cp 111 [a.pv,b.pv] (.aF [p.pv,s.pv,.aC]) :=
 eD func111 [1,1,1,1,1,1,1,1,1,1,1,1,3] [.q,.h 1 (.pv (af c)),.h 1 (iL c),.f,.aR [.o,(.pv (af d)),.o,(.pv (.aF [af g,af i]))],.aR [.o,(.pv (vB j)),.o,.o,(iL i),.o,(.dec true)],.t,.aR [.o,(.fj 0 0 (([(1:UInt32)]:Ws).map aj)),(.pv (af k)),.o,.o,(.pv (af l))],dr 9 3 [.none,(.pv (vB m)),.none,(.pv (vB n)),.none,.none,(.pv p.pv),.none,(.pv s.pv)]] (YT h1 (an aj c) (aB h2) h3 h4 h5 h6 h6 (an aj i) h6 h6 (ai h7) (kV bc ([(1:UInt32)]:Ws)) h8 h9 bQ dU fP k7)
theorem e2(a b:az)(c d g i:Ws)(j k l:Bool)(m n:az)(h1:Cp 105 [b.pv] (af c))(h2:c.length≠0)(h3:Cp 105 [a.pv] (af d))(h4:Cp 173 [af d,af c] (.aF [af g,af i]))(h5:Cp 106 [a.pv] (vB j))(h6:j=true)(h7:i.length≤0)(h8:Cp 106 [a.pv] (vB k))(h9:Cp 106 [b.pv] (vB l))(bQ:Cp 107 [(vB (!(k==l))),af g] m.pv)(dU:Cp 107 [vB false,af i] n.pv):Cp 111 [a.pv,b.pv] (.aF [m.pv,n.pv,.aC]) :=
 eD func111 [] [.q,.h 1 (.pv (af c)),.h 1 (iL c),.f,.aR [.o,(.pv (af d)),.o,(.pv (.aF [af g,af i]))],.aR [.o,(.pv (vB j)),.o,.o,(iL i),.o,(.dec true)],.f,dr 9 3 [.none,(.pv (vB k)),.none,(.pv (vB l)),.none,.none,(.pv m.pv),.none,(.pv n.pv)]] (HM h1 (an aj c) (aB h2) h3 h4 h5 h6 h6 (an aj i) h6 h6 (ar h7) h8 h9 bQ dU)
theorem e3(a b:az)(c d g i:Ws)(j k l:Bool)(m n:az)(h1:Cp 105 [b.pv] (af c))(h2:c.length≠0)(h3:Cp 105 [a.pv] (af d))(h4:Cp 173 [af d,af c] (.aF [af g,af i]))(h5:Cp 106 [a.pv] (vB j))(h6:j=false)(h7:Cp 106 [a.pv] (vB k))(h8:Cp 106 [b.pv] (vB l))(h9:Cp 107 [(vB (!(k==l))),af g] m.pv)(bQ:Cp 107 [vB false,af i] n.pv):Cp 111 [a.pv,b.pv] (.aF [m.pv,n.pv,.aC]) :=
 eD func111 [] [.q,.h 1 (.pv (af c)),.h 1 (iL c),.f,.aR [.o,(.pv (af d)),.o,(.pv (.aF [af g,af i]))],.aR [.o,(.pv (vB j)),.o,.skip,.skip,.skip,(.dec false)],.a,dr 9 3 [.none,(.pv (vB k)),.none,(.pv (vB l)),.none,.none,(.pv m.pv),.none,(.pv n.pv)]] (Nv h1 (an aj c) (aB h2) h3 h4 h5 h6 h6 h6 h6 h7 h8 h9 bQ)
end qV
namespace A4
theorem e0(a b c d:az)(h1:Cp 109 [b.pv] c.pv)(h2:Cp 74 [a.pv,c.pv] d.pv):Cp 137 [a.pv,b.pv] d.pv :=
 eD func137 [] [.q,dr 4 1 [.none,.none,(.pv c.pv),(.pv d.pv)]] (y2 h1 h2)
end A4
namespace mH
@[reducible] def fn:Func:=Tryz.f140
def aY:List dJ:=focus [0,2,0,2,0,2,0,0,2,0,0] [.code (aL fn)]
def inv1(a b:List UInt32)(s5 KF:Nat)(jn:List UInt32):St:=⟨[(0,(.pv (af a))),(1,(.pv (af b))),(5,(.row 14 0 ((max a.length b.length)+1) 1)),(6,(eU s5)),(16,(eI ((((max a.length b.length)+1):Nat):Int))),(17,(eI (KF:Int)))],[(14,(.pure ((jn:List UInt32).map aj).flatten))]⟩
@[reducible] def ah(a b:List UInt32)(s5 KF:Nat)(jn:List UInt32)(r:PV):Prop:=L bu fn aY (inv1 a b s5 KF jn) r
theorem e0(a b:Ws){r:PV}(h1:((max a.length b.length)+1)<9223372036854775808)(h2:4*((max a.length b.length)+1)≤140737488355328)(hL:ah a b 0 0 (List.replicate ((max a.length b.length)+1) (0:UInt32)) r):Cp 140 [af a,af b] r :=
 eG func140 [1,1,1,1,5] [.q,.aR [.o,(iL a),.o,(iL b),(iI (((max a.length b.length):Nat):Int)),(iI ((((max a.length b.length)+1):Nat):Int)),(.app ((max a.length b.length)+1) ((List.replicate ((max a.length b.length)+1) (0:UInt32):Ws).map aj).flatten)],.q,.q,.aG [0,1,5,6,16,17]] (y5 (an aj a) (an aj b) (oK a.length b.length) (aJ h1) (sj aj 0 4 ((max a.length b.length)+1) (Eq.refl (((((max a.length b.length)+1):Nat):Int):Int)) h2 rfl)) hL
theorem l10(a b:Ws)(c d:Nat)(g:Ws)(i j s s1:Nat)(w:UInt32)(z:Nat){r:PV}(h1:d<((max a.length b.length)+1))(h2:Cp 189 [af a,(vI (d:Int))] (vU i))(h3:Cp 189 [af b,(vI (d:Int))] (vU j))(h4:(i+j)%18446744073709551616=s)(h5:(c+s)%18446744073709551616=s1)(h6:s1%4294967296=w.toNat)(h7:d<g.length)(h8:s1/2^(min 32 64)=z)(h9:(d+1)<9223372036854775808)(hL:ah a b z (d+1) (g.set d w) r):ah a b c d g r :=
 lG [1,1,1,1,1,1,2,2] [.a,.q,.t,.q,.aR [.o,.o,.o,(.pv (vU i)),.o,.o,(.pv (vU j)),iU s,iU s1],.aR [.o,.o,.o,iW w,(.nat d),(.cells (.pure (((g.set d w):Ws).map aj).flatten))],.h 1 (iU z),.h 0 (iI (((d+1):Nat):Int)),.aG [0,1,5,6,16,17]] (JT (ai h1) h2 h3 (dM h4) (dM h5) (cL h6) (cj (rN d) h1) (gu bc (g:Ws) w h7) (cS (k := .u64) h8) (aJ h9)) hL
theorem cB(a b:Ws)(c d:Nat)(g i:Ws)(h1:((max a.length b.length)+1)≤d)(h2:((max a.length b.length)+1)=g.length)(h3:Cp 172 [af g] (af i)):ah a b c d g (af i) :=
 lD [1,3] [.a,.q,.f,.dH 5 ((g:Ws).map aj),.h 1 (.pv (af i))] (y3 (ar h1) (bU bc (g:Ws) h2) h3)
end mH
namespace mI
@[reducible] def fn:Func:=Tryz.f141
def aY:List dJ:=focus [0,2,0,2,0,2,0,0,2,0,0] [.code (aL fn)]
def inv1(a b:List UInt32)(pQ U6:Nat)(s6:List UInt32):St:=⟨[(0,(.pv (af a))),(1,(.pv (af b))),(5,(.row 11 0 a.length 1)),(6,(eU pQ)),(13,(eI (a.length:Int))),(14,(eI (U6:Int)))],[(11,(.pure ((s6:List UInt32).map aj).flatten))]⟩
@[reducible] def ah(a b:List UInt32)(pQ U6:Nat)(s6:List UInt32)(r:PV):Prop:=L bu fn aY (inv1 a b pQ U6 s6) r
theorem e0(a b:Ws){r:PV}(h1:4*a.length≤140737488355328)(hL:ah a b 0 0 (List.replicate a.length (0:UInt32)) r):Cp 141 [af a,af b] r :=
 eG func141 [1,5] [.q,.aR [.o,(iL a),(.app a.length ((List.replicate a.length (0:UInt32):Ws).map aj).flatten)],.q,.q,.aG [0,1,5,6,13,14]] (y2 (an aj a) (sj aj 0 4 a.length (rN a.length) h1 rfl)) hL
theorem l10(a b:Ws)(c g:Nat)(i:Ws)(v:UInt32)(j d d1:Nat)(w:UInt32)(z:Nat){r:PV}(h1:g<a.length)(h2:a[g]? = some v)(h3:Cp 189 [af b,(vI (g:Int))] (vU j))(h4:((v.toNat:Nat)-(j:Nat):Int)%18446744073709551616=(d:Int))(h5:((d:Nat)-(c:Nat):Int)%18446744073709551616=(d1:Int))(h6:d1%4294967296=w.toNat)(h7:g<i.length)(h8:d1/2^(min 63 64)=z)(h9:(g+1)<9223372036854775808)(hL:ah a b z (g+1) (i.set g w) r):ah a b c g i r :=
 lG [1,3,1,1,1,1,1,2,2] [.a,.q,.t,.q,dr 11 1 [.none,.none,(.row g (aj v)),.none,iU v.toNat,.none,.none,(.pv (vU j)),iU d,.none,iU d1],.aR [.o,.o,.o,iW w,(.nat g),(.cells (.pure (((i.set g w):Ws).map aj).flatten))],.h 1 (iU z),.h 0 (iI (((g+1):Nat):Int)),.aG [0,1,5,6,13,14]] (EK (ai h1) (ba aj (rN g) h2) (n8 v) h3 (dB h4) (dB h5) (cL h6) (cj (rN g) h1) (gu bc (i:Ws) w h7) (cS (k := .u64) h8) (aJ h9)) hL
theorem cB(a b:Ws)(c d:Nat)(g i:Ws)(h1:a.length≤d)(h2:a.length=g.length)(h3:Cp 172 [af g] (af i)):ah a b c d g (af i) :=
 lD [1,3] [.a,.q,.f,.dH 5 ((g:Ws).map aj),.h 1 (.pv (af i))] (y3 (ar h1) (bU bc (g:Ws) h2) h3)
end mI
namespace lx
@[reducible] def fn:Func:=Tryz.f143
def aY:List dJ:=focus [0,2,0,2,0,2,0,0,2,0,0] [.code (aL fn)]
def inv1(a:List UInt32)(b:UInt32)(xf:Nat)(Dr:Int)(s6:List UInt32):St:=⟨[(0,(.pv (af a))),(1,(eW b)),(6,(.row 11 0 a.length 1)),(7,(eU xf)),(8,(eI Dr))],[(11,(.pure ((s6:List UInt32).map aj).flatten))]⟩
@[reducible] def ah(a:List UInt32)(b:UInt32)(xf:Nat)(Dr:Int)(s6:List UInt32)(r:PV):Prop:=L bu fn aY (inv1 a b xf Dr s6) r
theorem e0(a:Ws)(b:UInt32){r:PV}(h1:4*a.length≤140737488355328)(h2:ay ((a.length:Int)-1))(hL:ah a b 0 ((a.length:Int)-1) (List.replicate a.length (0:UInt32)) r):Cp 143 [af a,vW b] r :=
 eG func143 [1,5] [.q,.aR [.o,(iL a),(.app a.length ((List.replicate a.length (0:UInt32):Ws).map aj).flatten)],.q,.aR [.o,(iL a),(iI ((a.length:Int)-1))],.aG [0,1,6,7,8]] (y4 (an aj a) (sj aj 0 4 a.length (rN a.length) h1 rfl) (an aj a) (aQ h2)) hL
theorem l10(a:Ws)(b:UInt32)(c:Nat)(d:Int)(g:Ws)(z k:Nat)(v:UInt32)(z1 q:Nat)(w:UInt32)(k1 m:Nat){r:PV}(h1:0≤d)(h2:(c*2^(min 32 64))%18446744073709551616=z)(h3:d=(k:Int))(h4:a[k]? = some v)(h5:(z%18446744073709551616) ||| (v.toNat%18446744073709551616)=z1)(h6:b.toNat≠0)(h7:(z1/b.toNat)%18446744073709551616=q)(h8:q%4294967296=w.toNat)(h9:d=(k1:Int))(bQ:k1<a.length)(dU:k1<g.length)(fP:z1%b.toNat=m)(k7:ay (d-1))(hL:ah a b m (d-1) (g.set k1 w) r):ah a b c d g r :=
 lG [1,1,3,1,1,1,1,1,2,2] [.a,.q,.t,.aR [.o,iU z,.o,.o,(.row k (aj v)),.o,iU v.toNat,iU z1],.aR [.o,.o,.o,.o,iU b.toNat,iU q,iW w,(.nat k1),(.cells (.pure (((g.set k1 w):Ws).map aj).flatten))],.aR [.o,.o,iU b.toNat,iU m],.h 1 (iI (d-1)),.aG [0,1,6,7,8]] (IG (bg h1) (jk (k := .u64) h2) (ba aj h3 h4) (n8 v) (nG h5) (n8 b) (Db h6 h7) (cL h8) (cj h9 bQ) (gu bc (g:Ws) w dU) (n8 b) (Dc h6 fP) (aQ k7)) hL
theorem cB(a:Ws)(b:UInt32)(c:Nat)(d:Int)(g i:Ws)(w:UInt32)(h1:d<0)(h2:a.length=g.length)(h3:Cp 172 [af g] (af i))(h4:c%4294967296=w.toNat):ah a b c d g (.aF [af i,vW w]) :=
 lD [1,3] [.a,.q,.f,.dH 6 ((g:Ws).map aj),.aR [.o,(.pv (af i)),.o,iW w]] (y4 (fc h1) (bU bc (g:Ws) h2) h3 (cL h4))
end lx
namespace rR
theorem e0(a:az)(h1:a.cJ.length=0):Cp 171 [a.pv] (vB (!a.neg)) :=
 eD func171 [] [.q,.h 2 (iL a.cJ),.t,.q] (y2 (an aj a.cJ) (aM h1))
theorem e1(a:az)(k:Nat)(v:UInt32)(h1:a.cJ.length≠0)(h2:ay ((a.cJ.length:Int)-1))(h3:((a.cJ.length:Int)-1)=(k:Int))(h4:a.cJ[k]? = some v):Cp 171 [a.pv] (vB ((v.toNat:Int) != 0)) :=
 eD func171 [1,1,1,1,3] [.q,.h 2 (iL a.cJ),.f,.aR [.o,.o,.o,.o,(iL a.cJ),(iI ((a.cJ.length:Int)-1)),(.row k (aj v))]] (y5 (an aj a.cJ) (aB h1) (an aj a.cJ) (aQ h2) (ba aj h3 h4))
end rR
namespace kG
@[reducible] def fn:Func:=Tryz.f172
def aY:List dJ:=focus [0,2,0,2,0,0,0] [.code (aL fn)]
def inv1(m:List UInt32)(U7:Int):St:=⟨[(0,(.pv (af m))),(3,(eI U7))],[]⟩
@[reducible] def ah(m:List UInt32)(U7:Int)(r:PV):Prop:=L bu fn aY (inv1 m U7) r
theorem e0 (m : Ws) {r : PV}  (hL : ah m (m.length : Int) r) : Cp 172 [af m] r :=
 eG func172 [] [.q,.h 1 (iL m),.aG [0,3]] (y1 (an aj m)) hL
theorem l10(m:Ws)(b:Int)(k:Nat)(v:UInt32){r:PV}(h1:0<b)(h2:ay (b-1))(h3:(b-1)=(k:Int))(h4:m[k]? = some v)(h5:v.toNat=0)(hL:ah m (b-1) r):ah m b r :=
 lG [1,1,1,1,1,3] [.a,.aR [.o,.o,.o,.o,.o,(iI (b-1)),(.row k (aj v)),.o,.o,(.dec true)],.t,.h 1 (iI (b-1)),.aG [0,3]] (EK (bA h1) (bA h1) (bA h1) (aQ h2) (bA h1) (ba aj h3 h4) (bA h1) (bA h1) (bA h1) (aM h5) (aQ h2)) hL
theorem jT(m:Ws)(b:Int)(k:Nat)(v:UInt32)(u:Nat)(h1:0<b)(h2:ay (b-1))(h3:(b-1)=(k:Int))(h4:m[k]? = some v)(h5:v.toNat≠0)(h6:b≠0)(h7:b=(u:Int))(h8:u≤m.length)(h9:(([]:Ws)++(m.take u):Ws).length*4≤140737488355328):ah m b (af (m.take u)) :=
 lD [1,1,1,1,1,3,1,1,1,1,1,6,6,3] [.a,.aR [.o,.o,.o,.o,.o,(iI (b-1)),(.row k (aj v)),.o,.o,(.dec true)],.f,.q,.f,.aR [.o,.o,.o,(.fj 0 u (((m.take u):Ws).map aj)),(.app ((m.take u):Ws).length (((m.take u):Ws).map aj).flatten)],.dH 2 (((m.take u):Ws).map aj)] (Nv (bA h1) (bA h1) (bA h1) (aQ h2) (bA h1) (ba aj h3 h4) (bA h1) (bA h1) (bA h1) (aB h5) (bf h6) (fY bc (m:Ws) h7 h8) (iw bc ([]:Ws) ((m.take u):Ws) 4 (Eq.refl ([]:Ws).length) h9 rfl) (bU bc ((m.take u):Ws) (Eq.refl ((m.take u):Ws).length)))
theorem tN(m:Ws)(b:Int)(h1:b≤0)(h2:b=0):ah m b (af []) :=
 lD [] [.a,.aR [.o,.o,.o,.skip,.skip,.skip,.skip,.skip,.skip,(.dec false)],.a,.q,.t,.q] (y8 (bm h1) (bm h1) (bm h1) (bm h1) (bm h1) (bm h1) (bm h1) (aU h2))
end kG
namespace bE
@[reducible] def fn:Func:=Tryz.f173
def aY:List dJ:=focus [0,2,0,0,2,1,2,0,0,2,1,2,0,2,0,2,0,2,0,2,0,0,2,0,0] [.code (aL fn)]
def inv1(U8:Int)(up b:List UInt32)(n m:Nat)(v1 v2:UInt32)(KG:Int)(s7 s8:List UInt32):St:=⟨[(8,(eI U8)),(9,(.pv (af (up.take b.length)))),(10,(.row 55 0 n 1)),(11,(.row 61 0 m 1)),(12,(eU v1.toNat)),(13,(eU v2.toNat)),(14,(eI KG))],[(55,(.pure ((s7:List UInt32).map aj).flatten)),(61,(.pure ((s8:List UInt32).map aj).flatten))]⟩
@[reducible] def ah(U8:Int)(up b:List UInt32)(n m:Nat)(v1 v2:UInt32)(KG:Int)(s7 s8:List UInt32)(r:PV):Prop:=L bu fn aY (inv1 U8 up b n m v1 v2 KG s7 s8) r
def kZ:List dJ:=focus [0,2,0,0,2,1,2,0,0,2,1,2,0,2,0,2,0,2,0,2,0,0,2,0,0,0,0,0,2,0,2,0,0,0,2,0,2,0,2,0,0,0] [.code (aL fn)]
def inv2(U8:Int)(up b:List UInt32)(n m:Nat)(v1 v2:UInt32)(KG:Int)(l u Ds GD:Nat)(s7 s8:List UInt32):St:=⟨[(8,(eI U8)),(9,(.pv (af (up.take b.length)))),(10,(.row 55 0 n 1)),(11,(.row 61 0 m 1)),(12,(eU v1.toNat)),(13,(eU v2.toNat)),(14,(eI KG)),(15,(.row 55 (0+l*1) (u-l) 1)),(17,(eU Ds)),(18,(eU GD))],[(55,(.pure ((s7:List UInt32).map aj).flatten)),(61,(.pure ((s8:List UInt32).map aj).flatten))]⟩
@[reducible] def a8(U8:Int)(up b:List UInt32)(n m:Nat)(v1 v2:UInt32)(KG:Int)(l u Ds GD:Nat)(s7 s8:List UInt32)(r:PV):Prop:=L bu fn kZ (inv2 U8 up b n m v1 v2 KG l u Ds GD s7 s8) r
theorem e0(a b:Ws)(c:Int)(d:Ws)(h1:Cp 104 [af a,af b] (vI c))(h2:c<0)(h3:Cp 172 [af a] (af d)):Cp 173 [af a,af b] (.aF [(af []),af d]) :=
 eD func173 [] [.q,.h 2 (.pv (vI c)),.t,.h 1 (.pv (af d))] (y3 h1 (bA h2) h3)
theorem e1(a b:Ws)(c:Int)(v:UInt32)(d:Ws)(g:UInt32)(i:Ws)(h1:Cp 104 [af a,af b] (vI c))(h2:0≤c)(h3:b.length=1)(h4:b[0]? = some v)(h5:Cp 143 [af a,vW v] (.aF [af d,vW g]))(h6:Cp 172 [(af [g])] (af i)):Cp 173 [af a,af b] (.aF [af d,af i]) :=
 eD func173 [1,1,1,1,3,1,3] [.q,.h 2 (.pv (vI c)),.f,.h 1 (iL b),.t,.aR [.o,.o,(.row 0 (aj v)),.o,(.pv (.aF [af d,vW g]))],.aR [.o,.o,(.fj 0 0 (([g]:Ws).map aj)),(.pv (af i))]] (y8 h1 (bm h2) (an aj b) (aM h3) (ba aj (Eq.refl (0:Int)) h4) h5 (kV bc ([g]:Ws)) h6)
theorem e2(a b:Ws)(c:Int)(k:Nat)(v:UInt32)(d:Int)(up z:Ws)(n m k1:Nat)(v1:UInt32)(k2:Nat)(v2:UInt32){r:PV}(h1:Cp 104 [af a,af b] (vI c))(h2:0≤c)(h3:b.length≠1)(h4:ay ((b.length:Int)-1))(h5:((b.length:Int)-1)=(k:Int))(h6:b[k]? = some v)(h7:Cp 218 [vW v] (vI d))(h8:Cp 219 [af b,vI d] (af up))(h9:b.length≤up.length)(bQ:au bu 219 [.pv (af a),.pv (vI d)] [] (.row 0 0 n 1) [(0,(pW z))])(dU:ay ((n:Int)-(((up.take b.length).length:Nat):Int)))(fP:((n:Int)-(((up.take b.length).length:Nat):Int))=(m:Int))(k7:4*m≤140737488355328)(oS:ay ((((up.take b.length).length:Nat):Int)-1))(nz:((((up.take b.length).length:Nat):Int)-1)=(k1:Int))(wU:(up.take b.length)[k1]? = some v1)(zv:ay ((((up.take b.length).length:Nat):Int)-2))(HN:((((up.take b.length).length:Nat):Int)-2)=(k2:Int))(EL:(up.take b.length)[k2]? = some v2)(Nz:ay ((m:Int)-1))(hL:ah d up b n m v1 v2 ((m:Int)-1) z (List.replicate m (0:UInt32)) r):Cp 173 [af a,af b] r :=
 eG func173 [1,1,1,1,1,1,3,1,1,1,6,1,1,1,5,1,1,3,1,1,1,3] [.q,.h 2 (.pv (vI c)),.f,.h 1 (iL b),.f,.aR [.o,.o,(iL b),(iI ((b.length:Int)-1)),(.row k (aj v)),.o,(.pv (vI d))],dr 9 2 [.none,.none,(.pv (af up)),.none,(iL b),(.fj 0 b.length (((up.take b.length):Ws).map aj)),.none,.none,(.bJ [] (some (0,55)) (.row 0 0 n 1) [(0,(pW z))])],.aR [.o,.o,.o,(iI (((up.take b.length).length:Nat):Int)),(iI ((n:Int)-(((up.take b.length).length:Nat):Int))),(.app m ((List.replicate m (0:UInt32):Ws).map aj).flatten)],dr 15 1 [.none,.none,(iI (((up.take b.length).length:Nat):Int)),(iI ((((up.take b.length).length:Nat):Int)-1)),(.row k1 (aj v1)),.none,iU v1.toNat,.none,.none,(iI (((up.take b.length).length:Nat):Int)),(iI ((((up.take b.length).length:Nat):Int)-2)),(.row k2 (aj v2)),.none,iU v2.toNat],.h 2 (iI ((m:Int)-1)),.aG [8,9,10,11,12,13,14],.ord [55,61]] (Xx h1 (bm h2) (an aj b) (aB h3) (an aj b) (aQ h4) (ba aj h5 h6) h7 h8 (an aj b) (fY bc (up:Ws) (rN b.length) h9) bQ (an aj (up.take b.length)) (aQ dU) (sj aj 0 4 m fP k7 rfl) (an aj (up.take b.length)) (aQ oS) (ba aj nz wU) (n8 v1) (an aj (up.take b.length)) (aQ zv) (ba aj HN EL) (n8 v2) (aQ Nz)) hL
theorem l10(c:Int)(up b:Ws)(n m:Nat)(v1 v2:UInt32)(d:Int)(g i:Ws)(l u:Nat)(v:UInt32)(z k:Nat)(v3:UInt32)(z1 q m1:Nat){r:PV}(h1:0≤d)(h2:ay (d+(((up.take b.length).length:Nat):Int)))(h3:ay ((d+(((up.take b.length).length:Nat):Int))+1))(h4:d=(l:Int))(h5:((d+(((up.take b.length).length:Nat):Int))+1)=(u:Int))(h6:l=0∨l<u)(h7:l≤u)(h8:u≤n)(h9:(up.take b.length).length<(u-l))(bQ:g[(0+l*1)+((up.take b.length).length)]? = some v)(dU:(v.toNat*2^(min 32 64))%18446744073709551616=z)(fP:ay ((((up.take b.length).length:Nat):Int)-1))(k7:((((up.take b.length).length:Nat):Int)-1)=(k:Int))(oS:k<(u-l))(nz:g[(0+l*1)+k]? = some v3)(wU:(z%18446744073709551616) ||| (v3.toNat%18446744073709551616)=z1)(zv:v1.toNat≠0)(HN:(z1/v1.toNat)%18446744073709551616=q)(EL:z1%v1.toNat=m1)(hL:a8 c up b n m v1 v2 d l u q m1 g i r):ah c up b n m v1 v2 d g i r :=
 lG [1,1,1,1,5,1,2,1,1,1,1,1,2] [.a,.q,.t,.aR [.o,.o,.o,.o,(iI (((up.take b.length).length:Nat):Int)),(iI (d+(((up.take b.length).length:Nat):Int))),(iI ((d+(((up.take b.length).length:Nat):Int))+1)),(.fj l u [])],dr 15 1 [.none,.none,(iI (((up.take b.length).length:Nat):Int)),(.nat ((up.take b.length).length)),(.ev (.pv (vW v))),iU v.toNat,iU z,.none,.none,(iI (((up.take b.length).length:Nat):Int)),(iI ((((up.take b.length).length:Nat):Int)-1)),(.nat k),(.ev (.pv (vW v3))),iU v3.toNat,iU z1],dr 7 1 [.none,.none,iU q,.none,.none,iU m1],.aG [8,9,10,11,12,13,14,15,17,18]] (U3 (bg h1) (an aj (up.take b.length)) (rO h2) (rO h3) (Xv h4 h5 h6 h7 h8) (an aj (up.take b.length)) (cj (Eq.refl ((((up.take b.length).length:Nat):Int):Int)) h9) (xb (enc:=aj) (f:=fun a=>(vW a)) (fun _=>rfl) bQ) (n8 v) (jk (k := .u64) dU) (an aj (up.take b.length)) (aQ fP) (cj k7 oS) (xb (enc:=aj) (f:=fun a=>(vW a)) (fun _=>rfl) nz) (n8 v3) (nG wU) (Db zv HN) (Dc zv EL)) hL
theorem cB(c:Int)(up b:Ws)(n m:Nat)(v1 v2:UInt32)(d:Int)(g i j k:Ws)(h1:d<0)(h2:m=i.length)(h3:n=g.length)(h4:Cp 172 [af i] (af j))(h5:Cp 222 [af g,vI c] (af k)):ah c up b n m v1 v2 d g i (.aF [af j,af k]) :=
 lD [1,3,3] [.a,.q,.f,.dH 11 ((i:Ws).map aj),.dH 10 ((g:Ws).map aj),.aR [.o,(.pv (af j)),.o,.o,(.pv (af k))]] (y5 (fc h1) (bU bc (i:Ws) h2) (bU bc (g:Ws) h3) h4 h5)
theorem uF(c:Int)(up b:Ws)(n m:Nat)(v1 v2:UInt32)(g:Int)(l u i j:Nat)(k p:Ws)(d s:Nat){r:PV}(h1:j<4294967296)(h2:4294967296≤i)(h3:((i:Nat)-(1:Nat):Int)%18446744073709551616=(d:Int))(h4:(j+v1.toNat)%18446744073709551616=s)(hL:a8 c up b n m v1 v2 g l u d s k p r):a8 c up b n m v1 v2 g l u i j k p r :=
 lG [] [.a,.aR [.o,.o,.o,.o,.o,.o,.skip,.skip,.skip,.skip,.skip,.skip,.skip,.skip,.skip,.skip,.skip,.skip,.skip,.skip,(.dec true),(.dec true)],.a,.h 1 (iU d),.h 2 (iU s),.aG [8,9,10,11,12,13,14,15,17,18]] (y22 (ai h1) (ai h1) (ai h1) (cI h2) (cI h2) (cI h2) (cI h2) (cI h2) (cI h2) (cI h2) (cI h2) (cI h2) (cI h2) (cI h2) (cI h2) (cI h2) (cI h2) (ai h1) (cI h2) (ai h1) (dB h3) (dM h4)) hL
theorem xe(c:Int)(up b:Ws)(n m:Nat)(v1 v2:UInt32)(g:Int)(l u i j:Nat)(q w:Ws)(p z k:Nat)(v:UInt32)(z1 d s:Nat){r:PV}(h1:j<4294967296)(h2:i<4294967296)(h3:(i*v2.toNat)%18446744073709551616=p)(h4:(j*2^(min 32 64))%18446744073709551616=z)(h5:ay ((((up.take b.length).length:Nat):Int)-2))(h6:((((up.take b.length).length:Nat):Int)-2)=(k:Int))(h7:k<(u-l))(h8:q[(0+l*1)+k]? = some v)(h9:(z%18446744073709551616) ||| (v.toNat%18446744073709551616)=z1)(bQ:z1<p)(dU:((i:Nat)-(1:Nat):Int)%18446744073709551616=(d:Int))(fP:(j+v1.toNat)%18446744073709551616=s)(hL:a8 c up b n m v1 v2 g l u d s q w r):a8 c up b n m v1 v2 g l u i j q w r :=
 lG [1,1,1,1,1,1,1,1,1,1,1,1,1,1,1,1,1,2] [.a,.aR [.o,.o,.o,.o,.o,.o,.o,.o,iU p,.o,iU z,.o,.o,(iI (((up.take b.length).length:Nat):Int)),(iI ((((up.take b.length).length:Nat):Int)-2)),(.nat k),(.ev (.pv (vW v))),iU v.toNat,iU z1,.o,(.dec false),(.dec true)],.t,.h 1 (iU d),.h 2 (iU s),.aG [8,9,10,11,12,13,14,15,17,18]] (y31 (ai h1) (ai h1) (ai h1) (bn h2) (bn h2) (bn h2) (nF h3) (bn h2) (bn h2) (jk (k := .u64) h4) (bn h2) (bn h2) (bn h2) (an aj (up.take b.length)) (bn h2) (aQ h5) (bn h2) (cj h6 h7) (bn h2) (xb (enc:=aj) (f:=fun a=>(vW a)) (fun _=>rfl) h8) (bn h2) (n8 v) (bn h2) (nG h9) (bn h2) (ai h1) (bn h2) (ai h1) (ai bQ) (dB dU) (dM fP)) hL
theorem Py(c:Int)(up b:Ws)(n m:Nat)(v1 v2:UInt32)(g:Int)(l u i j:Nat)(q s:Ws)(p z k:Nat)(v:UInt32)(z1:Nat)(z2:Ws)(x:Bool)(d:Nat)(z3:Ws)(w:UInt32)(k1:Nat){r:PV}(h1:j<4294967296)(h2:i<4294967296)(h3:(i*v2.toNat)%18446744073709551616=p)(h4:(j*2^(min 32 64))%18446744073709551616=z)(h5:ay ((((up.take b.length).length:Nat):Int)-2))(h6:((((up.take b.length).length:Nat):Int)-2)=(k:Int))(h7:k<(u-l))(h8:q[(0+l*1)+k]? = some v)(h9:(z%18446744073709551616) ||| (v.toNat%18446744073709551616)=z1)(bQ:p≤z1)(dU:au bu 220 [.row 100000 (0+l*1) (u-l) 1,.pv (af (up.take b.length)),.pv (vU i)] [(100000,(pW q))] (.pv (vB x)) [(100000,(pW z2))])(fP:x=true)(k7:((i:Nat)-(1:Nat):Int)%18446744073709551616=(d:Int))(oS:au bu 221 [.row 100000 (0+l*1) (u-l) 1,.pv (af (up.take b.length))] [(100000,(pW z2))] (.pv (.aF [])) [(100000,(pW z3))])(nz:d%4294967296=w.toNat)(wU:g=(k1:Int))(zv:k1<m)(HN:k1<s.length)(EL:ay (g-1))(hL:ah c up b n m v1 v2 (g-1) z3 (s.set k1 w) r):a8 c up b n m v1 v2 g l u i j q s r :=
 lG [1,1,1,1,1,1,1,1,1,1,1,1,1,1,1,1,1,2,1,1,1,1,1,1,1,1,1,1,1,1,1,1,1,1,2,2] [.a,.aR [.o,.o,.o,.o,.o,.o,.o,.o,iU p,.o,iU z,.o,.o,(iI (((up.take b.length).length:Nat):Int)),(iI ((((up.take b.length).length:Nat):Int)-2)),(.nat k),(.ev (.pv (vW v))),iU v.toNat,iU z1,.o,(.dec false),(.dec true)],.f,.h 3 (.bJ [(55,100000)] none (.pv (vB x)) [(100000,(pW z2))]),.t,.h 1 (iU d),.h 2 (.bJ [(55,100000)] none (.pv (.aF [])) [(100000,(pW z3))]),.aR [.o,.o,.o,iW w,(.nat k1),(.cells (.pure (((s.set k1 w):Ws).map aj).flatten))],.h 1 (iI (g-1)),.aG [8,9,10,11,12,13,14]] (y37 (ai h1) (ai h1) (ai h1) (bn h2) (bn h2) (bn h2) (nF h3) (bn h2) (bn h2) (jk (k := .u64) h4) (bn h2) (bn h2) (bn h2) (an aj (up.take b.length)) (bn h2) (aQ h5) (bn h2) (cj h6 h7) (bn h2) (xb (enc:=aj) (f:=fun a=>(vW a)) (fun _=>rfl) h8) (bn h2) (n8 v) (bn h2) (nG h9) (bn h2) (ai h1) (bn h2) (ai h1) (ar bQ) dU fP (dB k7) oS (cL nz) (cj wU zv) (gu bc (s:Ws) w HN) (aQ EL)) hL
theorem l23(c:Int)(up b:Ws)(n m:Nat)(v1 v2:UInt32)(d:Int)(l u g i:Nat)(j q:Ws)(p z k:Nat)(v:UInt32)(z1:Nat)(z2:Ws)(s:Bool)(w:UInt32)(k1:Nat){r:PV}(h1:i<4294967296)(h2:g<4294967296)(h3:(g*v2.toNat)%18446744073709551616=p)(h4:(i*2^(min 32 64))%18446744073709551616=z)(h5:ay ((((up.take b.length).length:Nat):Int)-2))(h6:((((up.take b.length).length:Nat):Int)-2)=(k:Int))(h7:k<(u-l))(h8:j[(0+l*1)+k]? = some v)(h9:(z%18446744073709551616) ||| (v.toNat%18446744073709551616)=z1)(bQ:p≤z1)(dU:au bu 220 [.row 100000 (0+l*1) (u-l) 1,.pv (af (up.take b.length)),.pv (vU g)] [(100000,(pW j))] (.pv (vB s)) [(100000,(pW z2))])(fP:s=false)(k7:g%4294967296=w.toNat)(oS:d=(k1:Int))(nz:k1<m)(wU:k1<q.length)(zv:ay (d-1))(hL:ah c up b n m v1 v2 (d-1) z2 (q.set k1 w) r):a8 c up b n m v1 v2 d l u g i j q r :=
 lG [1,1,1,1,1,1,1,1,1,1,1,1,1,1,1,1,1,2,1,1,1,1,1,1,1,1,1,1,1,1,1,1,2,2] [.a,.aR [.o,.o,.o,.o,.o,.o,.o,.o,iU p,.o,iU z,.o,.o,(iI (((up.take b.length).length:Nat):Int)),(iI ((((up.take b.length).length:Nat):Int)-2)),(.nat k),(.ev (.pv (vW v))),iU v.toNat,iU z1,.o,(.dec false),(.dec true)],.f,.h 3 (.bJ [(55,100000)] none (.pv (vB s)) [(100000,(pW z2))]),.f,.aR [.o,.o,.o,iW w,(.nat k1),(.cells (.pure (((q.set k1 w):Ws).map aj).flatten))],.h 1 (iI (d-1)),.aG [8,9,10,11,12,13,14]] (y35 (ai h1) (ai h1) (ai h1) (bn h2) (bn h2) (bn h2) (nF h3) (bn h2) (bn h2) (jk (k := .u64) h4) (bn h2) (bn h2) (bn h2) (an aj (up.take b.length)) (bn h2) (aQ h5) (bn h2) (cj h6 h7) (bn h2) (xb (enc:=aj) (f:=fun a=>(vW a)) (fun _=>rfl) h8) (bn h2) (n8 v) (bn h2) (nG h9) (bn h2) (ai h1) (bn h2) (ai h1) (ar bQ) dU fP (cL k7) (cj oS nz) (gu bc (q:Ws) w wU) (aQ zv)) hL
theorem l24(c:Int)(up b:Ws)(n m:Nat)(v1 v2:UInt32)(g:Int)(l u i j:Nat)(p q z:Ws)(s:Bool)(d:Nat)(z1:Ws)(w:UInt32)(k:Nat){r:PV}(h1:4294967296≤j)(h2:au bu 220 [.row 100000 (0+l*1) (u-l) 1,.pv (af (up.take b.length)),.pv (vU i)] [(100000,(pW p))] (.pv (vB s)) [(100000,(pW z))])(h3:s=true)(h4:((i:Nat)-(1:Nat):Int)%18446744073709551616=(d:Int))(h5:au bu 221 [.row 100000 (0+l*1) (u-l) 1,.pv (af (up.take b.length))] [(100000,(pW z))] (.pv (.aF [])) [(100000,(pW z1))])(h6:d%4294967296=w.toNat)(h7:g=(k:Int))(h8:k<m)(h9:k<q.length)(bQ:ay (g-1))(hL:ah c up b n m v1 v2 (g-1) z1 (q.set k w) r):a8 c up b n m v1 v2 g l u i j p q r :=
 lG [1,1,1,1,1,1,1,1,1,1,2,2] [.a,.aR [.o,.o,.o,.skip,.skip,.skip,.skip,.skip,.skip,.skip,.skip,.skip,.skip,.skip,.skip,.skip,.skip,.skip,.skip,.skip,.skip,(.dec false)],.a,.h 3 (.bJ [(55,100000)] none (.pv (vB s)) [(100000,(pW z))]),.t,.h 1 (iU d),.h 2 (.bJ [(55,100000)] none (.pv (.aF [])) [(100000,(pW z1))]),.aR [.o,.o,.o,iW w,(.nat k),(.cells (.pure (((q.set k w):Ws).map aj).flatten))],.h 1 (iI (g-1)),.aG [8,9,10,11,12,13,14]] (IG (ar h1) (ar h1) (ar h1) (ar h1) (ar h1) h2 h3 (dB h4) h5 (cL h6) (cj h7 h8) (gu bc (q:Ws) w h9) (aQ bQ)) hL
theorem l25(c:Int)(up b:Ws)(n m:Nat)(v1 v2:UInt32)(d:Int)(l u g i:Nat)(j p z:Ws)(q:Bool)(w:UInt32)(k:Nat){r:PV}(h1:4294967296≤i)(h2:au bu 220 [.row 100000 (0+l*1) (u-l) 1,.pv (af (up.take b.length)),.pv (vU g)] [(100000,(pW j))] (.pv (vB q)) [(100000,(pW z))])(h3:q=false)(h4:g%4294967296=w.toNat)(h5:d=(k:Int))(h6:k<m)(h7:k<p.length)(h8:ay (d-1))(hL:ah c up b n m v1 v2 (d-1) z (p.set k w) r):a8 c up b n m v1 v2 d l u g i j p r :=
 lG [1,1,1,1,1,1,1,1,2,2] [.a,.aR [.o,.o,.o,.skip,.skip,.skip,.skip,.skip,.skip,.skip,.skip,.skip,.skip,.skip,.skip,.skip,.skip,.skip,.skip,.skip,.skip,(.dec false)],.a,.h 3 (.bJ [(55,100000)] none (.pv (vB q)) [(100000,(pW z))]),.f,.aR [.o,.o,.o,iW w,(.nat k),(.cells (.pure (((p.set k w):Ws).map aj).flatten))],.h 1 (iI (d-1)),.aG [8,9,10,11,12,13,14]] (EK (ar h1) (ar h1) (ar h1) (ar h1) (ar h1) h2 h3 (cL h4) (cj h5 h6) (gu bc (p:Ws) w h7) (aQ h8)) hL
end bE
namespace s9
theorem e0(m:Ws)(i:Int)(k:Nat)(v:UInt32)(h1:i<(m.length:Int))(h2:i=(k:Int))(h3:m[k]? = some v):Cp 189 [af m,vI i] (vU v.toNat) :=
 eD func189 [1,1,3] [.q,.h 2 (iL m),.t,.aR [.o,.o,(.row k (aj v)),.o,iU v.toNat]] (y4 (an aj m) (bA h1) (ba aj h2 h3) (n8 v))
theorem e1(m:Ws)(i:Int)(h1:(m.length:Int)≤i):Cp 189 [af m,vI i] (vU 0) :=
 eD func189 [] [.q,.h 2 (iL m),.f,.q] (y2 (an aj m) (bm h1))
end s9
namespace ly
theorem e0(x:UInt32)(a:Int)(h1:Cp 238 [vW x] (vI a))(h2:ay (32-a)):Cp 218 [vW x] (vI (32-a)) :=
 eD func218 [] [.q,.aR [.o,(.pv (vI a)),(iI (32-a))]] (y2 h1 (aQ h2))
end ly
namespace pR
@[reducible] def fn:Func:=Tryz.f219
def aY:List dJ:=focus [0,2,0,2,0,0,2,0,0] [.code (aL fn)]
def inv1(n:Int)(a:List UInt32)(xg:Nat)(ta:List UInt32):St:=⟨[(1,(eI n)),(5,(.row 12 0 (a.length+1) 1)),(13,(.pv (af a))),(14,(eI (a.length:Int))),(15,(eI (xg:Int)))],[(12,(.pure ((ta:List UInt32).map aj).flatten))]⟩
@[reducible] def ah(n:Int)(a:List UInt32)(xg:Nat)(ta:List UInt32)(r:PV):Prop:=L bu fn aY (inv1 n a xg ta) r
theorem e0(a:Ws)(n:Int){r:PV}(h1:(a.length+1)<9223372036854775808)(h2:4*(a.length+1)≤140737488355328)(hL:ah n a 0 (List.replicate (a.length+1) (0:UInt32)) r):Cp 219 [af a,vI n] r :=
 eG func219 [1,1,5] [.q,.aR [.o,(iL a),(iI (((a.length+1):Nat):Int)),(.app (a.length+1) ((List.replicate (a.length+1) (0:UInt32):Ws).map aj).flatten)],.h 1 (iL a),.aG [1,5,13,14,15]] (y4 (an aj a) (aJ h1) (sj aj 0 4 (a.length+1) (rN (a.length+1)) h2 rfl) (an aj a)) hL
theorem l10(n:Int)(a:Ws)(b:Nat)(c:Ws)(v:UInt32)(k z:Nat)(v1 w z1:UInt32)(z2:Nat)(w1:UInt32){r:PV}(h1:b<a.length)(h2:a[b]? = some v)(h3:n=(k:Int))(h4:(v.toNat*2^(min k 64))%18446744073709551616=z)(h5:b<(a.length+1))(h6:c[b]? = some v1)(h7:z%4294967296=w.toNat)(h8:(v1.toNat%4294967296) ||| (w.toNat%4294967296)=z1.toNat)(h9:b<c.length)(bQ:(b+1)<9223372036854775808)(dU:z/2^(min 32 64)=z2)(fP:z2%4294967296=w1.toNat)(k7:(b+1)<(a.length+1))(oS:(b+1)<(c.set b z1).length)(hL:ah n a (b+1) ((c.set b z1).set (b+1) w1) r):ah n a b c r :=
 lG [1,3,1,1,2,1,1,1,2,2,1,1,1,2,2] [.a,.q,.t,.h 1 (.row b (aj v)),.aR [.o,iU v.toNat,.o,iU z],.aR [.o,.o,(.nat b),(.ev (.pv (vW v1))),.o,iW w,iW z1,(.nat b),(.cells (.pure (((c.set b z1):Ws).map aj).flatten))],.aR [.o,.o,(iI (((b+1):Nat):Int)),.o,iU z2,iW w1,(.nat (b+1)),(.cells (.pure ((((c.set b z1).set (b+1) w1):Ws).map aj).flatten))],.h 0 (iI (((b+1):Nat):Int)),.aG [1,5,13,14,15]] (HM (ai h1) (ba aj (rN b) h2) (n8 v) (Ns h3 (jk (k := .i64) h4)) (cj (rN b) h5) (fK (enc:=aj) (f:=fun a=>(vW a)) (fun _=>rfl) h6) (cL h7) (vt h8) (cj (rN b) h5) (gu bc (c:Ws) z1 h9) (aJ bQ) (cS (k := .u64) dU) (cL fP) (cj (rN (b+1)) k7) (gu bc ((c.set b z1):Ws) w1 oS) (aJ bQ)) hL
theorem cB(n:Int)(a:Ws)(b:Nat)(c:Ws)(h1:a.length≤b)(h2:(a.length+1)=c.length):ah n a b c (af c) :=
 lD [1,3] [.a,.q,.f,.q,.dH 4 ((c:Ws).map aj)] (y2 (ar h1) (bU bc (c:Ws) h2))
end pR
namespace od
@[reducible] def fn:Func:=Tryz.f219
def aY:List dJ:=focus [0,2,0,2,0,0,2,0,0] [.code (aL fn)]
def inv1(n:Int)(a:List UInt32)(xg:Nat)(ta:List UInt32):St:=⟨[(1,(eI n)),(5,(.row 12 0 (a.length+1) 1)),(13,(.pv (af a))),(14,(eI (a.length:Int))),(15,(eI (xg:Int)))],[(12,(.pure ((ta:List UInt32).map aj).flatten))]⟩
@[reducible] def ah(n:Int)(a:List UInt32)(xg:Nat)(ta:List UInt32)(sin:aT)(r:EV)(sout:aT):Prop:=LX bu fn aY (inv1 n a xg ta) sin r sout
theorem e0(a:Ws)(n:Int){r:EV}{sout:aT}(h1:(a.length+1)<9223372036854775808)(h2:4*(a.length+1)≤140737488355328)(hL:ah n a 0 (List.replicate (a.length+1) (0:UInt32)) [] r sout):au bu 219 [(.pv (af a)),eI n] [] r sout :=
 Nu func219 [1,1,5] [.q,.aR [.o,(iL a),(iI (((a.length+1):Nat):Int)),(.app (a.length+1) ((List.replicate (a.length+1) (0:UInt32):Ws).map aj).flatten)],.h 1 (iL a),.aG [1,5,13,14,15]] (y4 (an aj a) (aJ h1) (sj aj 0 4 (a.length+1) (rN (a.length+1)) h2 rfl) (an aj a)) hL
theorem l10(n:Int)(a:Ws)(b:Nat)(c:Ws)(v:UInt32)(k z:Nat)(v1 w z1:UInt32)(z2:Nat)(w1:UInt32){r:EV}{sout:aT}{sin:aT}(hs:jR fn sin)(h1:b<a.length)(h2:a[b]? = some v)(h3:n=(k:Int))(h4:(v.toNat*2^(min k 64))%18446744073709551616=z)(h5:b<(a.length+1))(h6:c[b]? = some v1)(h7:z%4294967296=w.toNat)(h8:(v1.toNat%4294967296) ||| (w.toNat%4294967296)=z1.toNat)(h9:b<c.length)(bQ:(b+1)<9223372036854775808)(dU:z/2^(min 32 64)=z2)(fP:z2%4294967296=w1.toNat)(k7:(b+1)<(a.length+1))(oS:(b+1)<(c.set b z1).length)(hL:ah n a (b+1) ((c.set b z1).set (b+1) w1) sin r sout):ah n a b c sin r sout :=
 IE [1,3,1,1,2,1,1,1,2,2,1,1,1,2,2] [.a,.q,.t,.h 1 (.row b (aj v)),.aR [.o,iU v.toNat,.o,iU z],.aR [.o,.o,(.nat b),(.ev (.pv (vW v1))),.o,iW w,iW z1,(.nat b),(.cells (.pure (((c.set b z1):Ws).map aj).flatten))],.aR [.o,.o,(iI (((b+1):Nat):Int)),.o,iU z2,iW w1,(.nat (b+1)),(.cells (.pure ((((c.set b z1).set (b+1) w1):Ws).map aj).flatten))],.h 0 (iI (((b+1):Nat):Int)),.aG [1,5,13,14,15]] hs (HM (ai h1) (ba aj (rN b) h2) (n8 v) (Ns h3 (jk (k := .i64) h4)) (cj (rN b) h5) (fK (enc:=aj) (f:=fun a=>(vW a)) (fun _=>rfl) h6) (cL h7) (vt h8) (cj (rN b) h5) (gu bc (c:Ws) z1 h9) (aJ bQ) (cS (k := .u64) dU) (cL fP) (cj (rN (b+1)) k7) (gu bc ((c.set b z1):Ws) w1 oS) (aJ bQ)) hL
theorem cB(n:Int)(a:Ws)(b:Nat)(c:Ws){sin:aT}(hs:jR fn sin)(hi:sin.all (fun p=>wo p.1||(aT.get [(0,(.pure (((c.take (a.length+1)):Ws).map aj).flatten))] p.1).isSome)=true)(h1:a.length≤b):ah n a b c sin (.row 0 0 (a.length+1) 1) [(0,(.pure (((c.take (a.length+1)):Ws).map aj).flatten))] :=
 Fj [] [.a,.q,.f,.q,.pn 12 0,.cut 0 ((a.length+1)*1) (((c.take (a.length+1)):Ws).map aj).flatten,.ord [0]] hs hi (y2 (ar h1) (uz bc (c:Ws) (a.length+1)))
end od
namespace kj
@[reducible] def fn:Func:=Tryz.f220
def aY:List dJ:=focus [0,2,0,2,0,0,2,0,0] [.code (aL fn)]
def inv1(off len:Nat)(v:List UInt32)(n tc Dt Du:Nat)(bG:List UInt32):St:=⟨[(0,(.row 100000 off len 1)),(1,(.pv (af v))),(2,(eU n)),(7,(eU tc)),(8,(eU Dt)),(12,(eI (len:Int))),(13,(eI (Du:Int)))],[(100000,(.pure ((bG:List UInt32).map aj).flatten))]⟩
@[reducible] def ah(off len:Nat)(v:List UInt32)(n tc Dt Du:Nat)(bG:List UInt32)(sin:aT)(r:EV)(sout:aT):Prop:=LX bu fn aY (inv1 off len v n tc Dt Du bG) sin r sout
theorem e0 (u : Ws) (a b : Nat) (v : Ws) (n : Nat) {r : EV} {sout : aT}  (hL : ah a b v n 0 0 0 u [(100000, (pW u))] r sout) : au bu 220 [(.row 100000 a b 1), (.pv (af v)), eU n] [(100000, (pW u))] r sout :=
 Nu func220 [] [.q,.q,.q,.aG [0,1,2,7,8,12,13]] True.intro hL
theorem l10(b c:Nat)(v:Ws)(n g i j:Nat)(l:Ws)(m p s:Nat)(v1 w:UInt32)(d d1:Nat)(w1:UInt32)(z z1:Nat){r:EV}{sout:aT}{sin:aT}(hs:jR fn sin)(h1:j<c)(h2:Cp 189 [af v,(vI (j:Int))] (vU m))(h3:(n*m)%18446744073709551616=p)(h4:(g+p)%18446744073709551616=s)(h5:l[b+j]? = some v1)(h6:s%4294967296=w.toNat)(h7:((v1.toNat:Nat)-(w.toNat:Nat):Int)%18446744073709551616=(d:Int))(h8:((d:Nat)-(i:Nat):Int)%18446744073709551616=(d1:Int))(h9:d1%4294967296=w1.toNat)(bQ:(b+j)<l.length)(dU:d1/2^(min 63 64)=z)(fP:s/2^(min 32 64)=z1)(k7:(j+1)<9223372036854775808)(hL:ah b c v n z1 z (j+1) (l.set (b+j) w1) sin r sout):ah b c v n g i j l sin r sout :=
 IE [1,1,1,1,2,1,1,1,1,1,1,1,2,2] [.a,.q,.t,.q,.aR [.o,.o,.o,.o,(.pv (vU m)),iU p,iU s],.aR [.o,.o,(.nat j),(.ev (.pv (vW v1))),iU v1.toNat,.o,iW w,iU w.toNat,iU d,.o,iU d1],.aR [.o,.o,.o,iW w1,(.nat j),(.cells (.pure (((l.set (b+j) w1):Ws).map aj).flatten))],.h 1 (iU z),.h 1 (iU z1),.h 0 (iI (((j+1):Nat):Int)),.aG [0,1,2,7,8,12,13]] hs (Ny (ai h1) h2 (nF h3) (dM h4) (cj (rN j) h1) (xb (enc:=aj) (f:=fun a=>(vW a)) (fun _=>rfl) h5) (n8 v1) (cL h6) (n8 w) (dB h7) (dB h8) (cL h9) (cj (rN j) h1) (Ps bc (l:Ws) w1 b j bQ) (cS (k := .u64) dU) (cS (k := .u64) fP) (aJ k7)) hL
theorem cB(b c:Nat)(v:Ws)(n d g i:Nat)(j:Ws){sin:aT}(hs:jR fn sin)(hi:sin.all (fun p=>wo p.1||(aT.get [(100000,(pW j))] p.1).isSome)=true)(h1:c≤i):ah b c v n d g i j sin (.pv (vB ((g:Int)==1))) [(100000,(pW j))] :=
 Fj [] [.a,.q,.f,.q,.ord [100000]] hs hi (y1 (ar h1))
end kj
namespace mJ
@[reducible] def fn:Func:=Tryz.f221
def aY:List dJ:=focus [0,2,0,2,0,0] [.code (aL fn)]
def inv1(off len:Nat)(v:List UInt32)(GF tW:Nat)(bG:List UInt32):St:=⟨[(0,(.row 100000 off len 1)),(1,(.pv (af v))),(4,(eU GF)),(7,(eI (len:Int))),(8,(eI (tW:Int)))],[(100000,(.pure ((bG:List UInt32).map aj).flatten))]⟩
@[reducible] def ah(off len:Nat)(v:List UInt32)(GF tW:Nat)(bG:List UInt32)(sin:aT)(r:EV)(sout:aT):Prop:=LX bu fn aY (inv1 off len v GF tW bG) sin r sout
theorem e0 (u : Ws) (a b : Nat) (v : Ws) {r : EV} {sout : aT}  (hL : ah a b v 0 0 u [(100000, (pW u))] r sout) : au bu 221 [(.row 100000 a b 1), (.pv (af v))] [(100000, (pW u))] r sout :=
 Nu func221 [] [.q,.q,.aG [0,1,4,7,8]] True.intro hL
theorem l10(b c:Nat)(v:Ws)(d g:Nat)(i:Ws)(v1:UInt32)(j s s1:Nat)(w:UInt32)(z:Nat){r:EV}{sout:aT}{sin:aT}(hs:jR fn sin)(h1:g<c)(h2:i[b+g]? = some v1)(h3:Cp 189 [af v,(vI (g:Int))] (vU j))(h4:(v1.toNat+j)%18446744073709551616=s)(h5:(d+s)%18446744073709551616=s1)(h6:s1%4294967296=w.toNat)(h7:(b+g)<i.length)(h8:s1/2^(min 32 64)=z)(h9:(g+1)<9223372036854775808)(hL:ah b c v z (g+1) (i.set (b+g) w) sin r sout):ah b c v d g i sin r sout :=
 IE [1,2,1,1,1,1,1,1,2,2] [.a,.q,.t,.q,dr 11 1 [.none,.none,.none,(.nat g),(.ev (.pv (vW v1))),iU v1.toNat,.none,.none,(.pv (vU j)),iU s,iU s1],.aR [.o,.o,.o,iW w,(.nat g),(.cells (.pure (((i.set (b+g) w):Ws).map aj).flatten))],.h 1 (iU z),.h 0 (iI (((g+1):Nat):Int)),.aG [0,1,4,7,8]] hs (IF (ai h1) (cj (rN g) h1) (xb (enc:=aj) (f:=fun a=>(vW a)) (fun _=>rfl) h2) (n8 v1) h3 (dM h4) (dM h5) (cL h6) (cj (rN g) h1) (Ps bc (i:Ws) w b g h7) (cS (k := .u64) h8) (aJ h9)) hL
theorem cB(b c:Nat)(v:Ws)(d g:Nat)(i:Ws){sin:aT}(hs:jR fn sin)(hi:sin.all (fun p=>wo p.1||(aT.get [(100000,(pW i))] p.1).isSome)=true)(h1:c≤g):ah b c v d g i sin (.pv (.aF [])) [(100000,(pW i))] :=
 Fj [] [.a,.q,.f,.ord [100000]] hs hi (y1 (ar h1))
end mJ
namespace mK
@[reducible] def fn:Func:=Tryz.f222
def aY:List dJ:=focus [0,2,0,2,0,0,2,0,0] [.code (aL fn)]
def inv1(a:List UInt32)(n:Int)(rS:Nat)(jo:List UInt32):St:=⟨[(0,(.pv (af a))),(1,(eI n)),(5,(.row 9 0 a.length 1)),(11,(eI (a.length:Int))),(12,(eI (rS:Int)))],[(9,(.pure ((jo:List UInt32).map aj).flatten))]⟩
@[reducible] def ah(a:List UInt32)(n:Int)(rS:Nat)(jo:List UInt32)(r:PV):Prop:=L bu fn aY (inv1 a n rS jo) r
theorem e0(a:Ws)(n:Int){r:PV}(h1:4*a.length≤140737488355328)(hL:ah a n 0 (List.replicate a.length (0:UInt32)) r):Cp 222 [af a,vI n] r :=
 eG func222 [1,5] [.q,.aR [.o,(iL a),(.app a.length ((List.replicate a.length (0:UInt32):Ws).map aj).flatten)],.h 1 (iL a),.aG [0,1,5,11,12]] (y3 (an aj a) (sj aj 0 4 a.length (rN a.length) h1 rfl) (an aj a)) hL
theorem l10(a:Ws)(n:Int)(b:Nat)(c:Ws)(v:UInt32)(d z z1 k z2:Nat)(w:UInt32){r:PV}(h1:b<a.length)(h2:a[b]? = some v)(h3:(b+1)<9223372036854775808)(h4:Cp 189 [af a,(vI (((b+1):Nat):Int))] (vU d))(h5:(d*2^(min 32 64))%18446744073709551616=z)(h6:(v.toNat%18446744073709551616) ||| (z%18446744073709551616)=z1)(h7:n=(k:Int))(h8:z1/2^(min k 64)=z2)(h9:z2%4294967296=w.toNat)(bQ:b<c.length)(hL:ah a n (b+1) (c.set b w) r):ah a n b c r :=
 lG [1,3,1,1,1,1,1,1,1,2,2] [.a,.q,.t,.q,dr 17 1 [.none,.none,.none,.none,(.row b (aj v)),.none,iU v.toNat,.none,.none,(iI (((b+1):Nat):Int)),(.pv (vU d)),iU z,iU z1,.none,iU z2,iW w,(.nat b),(.cells (.pure (((c.set b w):Ws).map aj).flatten))],.h 0 (iI (((b+1):Nat):Int)),.aG [0,1,5,11,12]] (IF (ai h1) (ba aj (rN b) h2) (n8 v) (aJ h3) h4 (jk (k := .u64) h5) (nG h6) (Ns h7 (cS (k := .i64) h8)) (cL h9) (cj (rN b) h1) (gu bc (c:Ws) w bQ) (aJ h3)) hL
theorem cB(a:Ws)(n:Int)(b:Nat)(c d:Ws)(h1:a.length≤b)(h2:a.length=c.length)(h3:Cp 172 [af c] (af d)):ah a n b c (af d) :=
 lD [1,3] [.a,.q,.f,.dH 5 ((c:Ws).map aj),.h 1 (.pv (af d))] (y3 (ar h1) (bU bc (c:Ws) h2) h3)
end mK
namespace jG
theorem e0(x z z1:UInt32)(m b:Nat)(h1:65536≤x.toNat)(h2:x.toNat/2^(min 16 32)=z.toNat)(h3:256≤z.toNat)(h4:z.toNat/2^(min 8 32)=z1.toNat)(h5:z1.toNat%256=m)(h6:((ByteArray.mk #[0,1,2,2,3,3,3,3,4,4,4,4,4,4,4,4,5,5,5,5,5,5,5,5,5,5,5,5,5,5,5,5,6,6,6,6,6,6,6,6,6,6,6,6,6,6,6,6,6,6,6,6,6,6,6,6,6,6,6,6,6,6,6,6,7,7,7,7,7,7,7,7,7,7,7,7,7,7,7,7,7,7,7,7,7,7,7,7,7,7,7,7,7,7,7,7,7,7,7,7,7,7,7,7,7,7,7,7,7,7,7,7,7,7,7,7,7,7,7,7,7,7,7,7,7,7,7,7,8,8,8,8,8,8,8,8,8,8,8,8,8,8,8,8,8,8,8,8,8,8,8,8,8,8,8,8,8,8,8,8,8,8,8,8,8,8,8,8,8,8,8,8,8,8,8,8,8,8,8,8,8,8,8,8,8,8,8,8,8,8,8,8,8,8,8,8,8,8,8,8,8,8,8,8,8,8,8,8,8,8,8,8,8,8,8,8,8,8,8,8,8,8,8,8,8,8,8,8,8,8,8,8,8,8,8,8,8,8,8,8,8,8,8,8,8,8,8,8,8,8,8,8,8,8,8,8]).data.toList[m]?).map (fun b=>(b.toNat:Int))=some (b:Int))(h7:b<9223372036854775808)(h8:(24+b)<9223372036854775808):Cp 238 [vW x] (vI (((24+b):Nat):Int)) :=
 eD func238 [1,1,1,1,1,2] [.q,.q,.t,.h 1 (iW z),.q,.q,.t,.h 1 (iW z1),.q,.aR [.o,.o,(.pv (.int .u8 (m:Int))),(.row m [.int .u8 (b:Int)]),(iI (b:Int)),(iI (((24+b):Nat):Int))]] (y8 (cI h1) (lQ (k := .u64) h2) (cI h3) (lQ (k := .u64) h4) (Gz h5) (cj (rN m) h6) (BP h7) (aJ h8))
theorem e1(x z:UInt32)(m b:Nat)(h1:65536≤x.toNat)(h2:x.toNat/2^(min 16 32)=z.toNat)(h3:z.toNat<256)(h4:z.toNat%256=m)(h5:((ByteArray.mk #[0,1,2,2,3,3,3,3,4,4,4,4,4,4,4,4,5,5,5,5,5,5,5,5,5,5,5,5,5,5,5,5,6,6,6,6,6,6,6,6,6,6,6,6,6,6,6,6,6,6,6,6,6,6,6,6,6,6,6,6,6,6,6,6,7,7,7,7,7,7,7,7,7,7,7,7,7,7,7,7,7,7,7,7,7,7,7,7,7,7,7,7,7,7,7,7,7,7,7,7,7,7,7,7,7,7,7,7,7,7,7,7,7,7,7,7,7,7,7,7,7,7,7,7,7,7,7,7,8,8,8,8,8,8,8,8,8,8,8,8,8,8,8,8,8,8,8,8,8,8,8,8,8,8,8,8,8,8,8,8,8,8,8,8,8,8,8,8,8,8,8,8,8,8,8,8,8,8,8,8,8,8,8,8,8,8,8,8,8,8,8,8,8,8,8,8,8,8,8,8,8,8,8,8,8,8,8,8,8,8,8,8,8,8,8,8,8,8,8,8,8,8,8,8,8,8,8,8,8,8,8,8,8,8,8,8,8,8,8,8,8,8,8,8,8,8,8,8,8,8,8,8,8,8,8,8]).data.toList[m]?).map (fun b=>(b.toNat:Int))=some (b:Int))(h6:b<9223372036854775808)(h7:(16+b)<9223372036854775808):Cp 238 [vW x] (vI (((16+b):Nat):Int)) :=
 eD func238 [1,1,1,1,2] [.q,.q,.t,.h 1 (iW z),.q,.q,.f,.aR [.o,.o,(.pv (.int .u8 (m:Int))),(.row m [.int .u8 (b:Int)]),(iI (b:Int)),(iI (((16+b):Nat):Int))]] (y7 (cI h1) (lQ (k := .u64) h2) (bn h3) (Gz h4) (cj (rN m) h5) (BP h6) (aJ h7))
theorem e2(x z:UInt32)(m b:Nat)(h1:x.toNat<65536)(h2:256≤x.toNat)(h3:x.toNat/2^(min 8 32)=z.toNat)(h4:z.toNat%256=m)(h5:((ByteArray.mk #[0,1,2,2,3,3,3,3,4,4,4,4,4,4,4,4,5,5,5,5,5,5,5,5,5,5,5,5,5,5,5,5,6,6,6,6,6,6,6,6,6,6,6,6,6,6,6,6,6,6,6,6,6,6,6,6,6,6,6,6,6,6,6,6,7,7,7,7,7,7,7,7,7,7,7,7,7,7,7,7,7,7,7,7,7,7,7,7,7,7,7,7,7,7,7,7,7,7,7,7,7,7,7,7,7,7,7,7,7,7,7,7,7,7,7,7,7,7,7,7,7,7,7,7,7,7,7,7,8,8,8,8,8,8,8,8,8,8,8,8,8,8,8,8,8,8,8,8,8,8,8,8,8,8,8,8,8,8,8,8,8,8,8,8,8,8,8,8,8,8,8,8,8,8,8,8,8,8,8,8,8,8,8,8,8,8,8,8,8,8,8,8,8,8,8,8,8,8,8,8,8,8,8,8,8,8,8,8,8,8,8,8,8,8,8,8,8,8,8,8,8,8,8,8,8,8,8,8,8,8,8,8,8,8,8,8,8,8,8,8,8,8,8,8,8,8,8,8,8,8,8,8,8,8,8,8]).data.toList[m]?).map (fun b=>(b.toNat:Int))=some (b:Int))(h6:b<9223372036854775808)(h7:(8+b)<9223372036854775808):Cp 238 [vW x] (vI (((8+b):Nat):Int)) :=
 eD func238 [1,1,1,1,2] [.q,.q,.f,.q,.t,.h 1 (iW z),.q,.aR [.o,.o,(.pv (.int .u8 (m:Int))),(.row m [.int .u8 (b:Int)]),(iI (b:Int)),(iI (((8+b):Nat):Int))]] (y7 (bn h1) (cI h2) (lQ (k := .u64) h3) (Gz h4) (cj (rN m) h5) (BP h6) (aJ h7))
theorem e3(x:UInt32)(m b:Nat)(h1:x.toNat<65536)(h2:x.toNat<256)(h3:x.toNat%256=m)(h4:((ByteArray.mk #[0,1,2,2,3,3,3,3,4,4,4,4,4,4,4,4,5,5,5,5,5,5,5,5,5,5,5,5,5,5,5,5,6,6,6,6,6,6,6,6,6,6,6,6,6,6,6,6,6,6,6,6,6,6,6,6,6,6,6,6,6,6,6,6,7,7,7,7,7,7,7,7,7,7,7,7,7,7,7,7,7,7,7,7,7,7,7,7,7,7,7,7,7,7,7,7,7,7,7,7,7,7,7,7,7,7,7,7,7,7,7,7,7,7,7,7,7,7,7,7,7,7,7,7,7,7,7,7,8,8,8,8,8,8,8,8,8,8,8,8,8,8,8,8,8,8,8,8,8,8,8,8,8,8,8,8,8,8,8,8,8,8,8,8,8,8,8,8,8,8,8,8,8,8,8,8,8,8,8,8,8,8,8,8,8,8,8,8,8,8,8,8,8,8,8,8,8,8,8,8,8,8,8,8,8,8,8,8,8,8,8,8,8,8,8,8,8,8,8,8,8,8,8,8,8,8,8,8,8,8,8,8,8,8,8,8,8,8,8,8,8,8,8,8,8,8,8,8,8,8,8,8,8,8,8,8]).data.toList[m]?).map (fun b=>(b.toNat:Int))=some (b:Int))(h5:b<9223372036854775808)(h6:(0+b)<9223372036854775808):Cp 238 [vW x] (vI (((0+b):Nat):Int)) :=
 eD func238 [1,1,1,2] [.q,.q,.f,.q,.f,.aR [.o,.o,(.pv (.int .u8 (m:Int))),(.row m [.int .u8 (b:Int)]),(iI (b:Int)),(iI (((0+b):Nat):Int))]] (y6 (bn h1) (bn h2) (Gz h3) (cj (rN m) h4) (BP h5) (aJ h6))
end jG
end Go.Proofs.YtcpnocgollpbhaaGreatDoor.Sym.Path
end
