/- Lemmas for the statements of this seat. -/
import Derived.Test.YtcpnocgollpbhaaGreatDoorT0
noncomputable section
namespace Go.Proofs.YtcpnocgollpbhaaGreatDoor.Sym.Path
open Go Tryz
set_option maxRecDepth 20000
set_option linter.unusedVariables false
namespace nP
theorem e0(a b:av)(c d:Int)(h1:Cp 103 [a.pv] (vI c))(h2:Cp 103 [b.pv] (vI d))(h3:c≠d)(h4:c<d):Cp 53 [a.pv,b.pv] (vI (-1)) :=
 eD func53 [] [.q,dr 4 2 [.none,(.pv (vI c)),.none,(.pv (vI d))],.q,.t,.q,.t,.q] (y4 h1 h2 (gG h3) (br h4))
theorem e1(a b:av)(c d:Int)(h1:Cp 103 [a.pv] (vI c))(h2:Cp 103 [b.pv] (vI d))(h3:c≠d)(h4:d≤c):Cp 53 [a.pv,b.pv] (vI 1) :=
 eD func53 [] [.q,dr 4 2 [.none,(.pv (vI c)),.none,(.pv (vI d))],.q,.t,.q,.f,.q] (y4 h1 h2 (gG h3) (bu h4))
theorem e2(a b:av)(c d:Int)(g i:Ws)(j:Int)(k:Bool)(h1:Cp 103 [a.pv] (vI c))(h2:Cp 103 [b.pv] (vI d))(h3:c=d)(h4:Cp 105 [a.pv] (af g))(h5:Cp 105 [b.pv] (af i))(h6:Cp 104 [af g,af i] (vI j))(h7:Cp 106 [a.pv] (vB k))(h8:k=true)(h9:az (-j)):Cp 53 [a.pv,b.pv] (vI (-j)) :=
 eD func53 [] [.q,dr 4 2 [.none,(.pv (vI c)),.none,(.pv (vI d))],.q,.f,dr 5 1 [.none,(.pv (af g)),.none,(.pv (af i)),(.pv (vI j))],.h 1 (.pv (vB k)),.t,.h 1 (iI (-j))] (y9 h1 h2 (cR h3) h4 h5 h6 h7 h8 (JS h9))
theorem e3(a b:av)(c d:Int)(g i:Ws)(j:Int)(k:Bool)(h1:Cp 103 [a.pv] (vI c))(h2:Cp 103 [b.pv] (vI d))(h3:c=d)(h4:Cp 105 [a.pv] (af g))(h5:Cp 105 [b.pv] (af i))(h6:Cp 104 [af g,af i] (vI j))(h7:Cp 106 [a.pv] (vB k))(h8:k=false):Cp 53 [a.pv,b.pv] (vI j) :=
 eD func53 [] [.q,dr 4 2 [.none,(.pv (vI c)),.none,(.pv (vI d))],.q,.f,dr 5 1 [.none,(.pv (af g)),.none,(.pv (af i)),(.pv (vI j))],.h 1 (.pv (vB k)),.f,.q] (y8 h1 h2 (cR h3) h4 h5 h6 h7 h8)
end nP
namespace zI
theorem e0(a b:av)(c d:Bool)(g i j:Ws)(k:av)(h1:Cp 106 [a.pv] (vB c))(h2:Cp 106 [b.pv] (vB d))(h3:Cp 105 [a.pv] (af g))(h4:Cp 105 [b.pv] (af i))(h5:Cp 108 [af g,af i] (af j))(h6:Cp 107 [(vB (!(c==d))),af j] k.pv):Cp 54 [a.pv,b.pv] k.pv :=
 eD func54 [] [.q,dr 11 1 [.none,(.pv (vB c)),.none,(.pv (vB d)),.none,.none,(.pv (af g)),.none,(.pv (af i)),(.pv (af j)),(.pv k.pv)]] (y6 h1 h2 h3 h4 h5 h6)
end zI
namespace vY
theorem e0(n:Int)(m m1:Nat)(w:UInt32)(z:Nat)(w1:UInt32)(a:av)(h1:n%18446744073709551616=(m:Int))(h2:n<0)(h3:(0-(m:Int))%18446744073709551616=(m1:Int))(h4:m1%4294967296=w.toNat)(h5:m1/2^(min 32 64)=z)(h6:z%4294967296=w1.toNat)(h7:Cp 107 [(vB (decide (n<0))),(af [w,w1])] a.pv):Cp 56 [vI n] a.pv :=
 eD func56 [1,1,1,1,1,1,3] [.q,.h 1 (iU m),.q,.t,.h 1 (iU m1),.aR [.o,.o,.o,iW w,.o,iU z,iW w1,(.fR 0 0 (([w,w1]:Ws).map ah)),(.pv a.pv)]] (y8 (FD h1) (br h2) (BT h3) (cC h4) (cN (k := .u64) h5) (cC h6) (oB aW ([w,w1]:Ws)) h7)
theorem e1(n:Int)(m:Nat)(w:UInt32)(z:Nat)(w1:UInt32)(a:av)(h1:n%18446744073709551616=(m:Int))(h2:0≤n)(h3:m%4294967296=w.toNat)(h4:m/2^(min 32 64)=z)(h5:z%4294967296=w1.toNat)(h6:Cp 107 [(vB (decide (n<0))),(af [w,w1])] a.pv):Cp 56 [vI n] a.pv :=
 eD func56 [1,1,1,1,1,3] [.q,.h 1 (iU m),.q,.f,.aR [.o,.o,.o,iW w,.o,iU z,iW w1,(.fR 0 0 (([w,w1]:Ws).map ah)),(.pv a.pv)]] (y7 (FD h1) (bu h2) (cC h3) (cN (k := .u64) h4) (cC h5) (oB aW ([w,w1]:Ws)) h6)
end vY
namespace qe
theorem e0(a b:av)(c d:Ws)(g i j:Bool)(k:Ws)(l:av)(h1:Cp 105 [a.pv] (af c))(h2:Cp 105 [b.pv] (af d))(h3:Cp 106 [a.pv] (vB g))(h4:Cp 106 [b.pv] (vB i))(h5:g=i)(h6:Cp 106 [a.pv] (vB j))(h7:Cp 140 [af c,af d] (af k))(h8:Cp 107 [vB j,af k] l.pv):Cp 74 [a.pv,b.pv] l.pv :=
 eD func74 [] [.q,dr 4 2 [.none,(.pv (af c)),.none,(.pv (af d))],dr 5 1 [.none,(.pv (vB g)),.none,(.pv (vB i))],.t,.aR [.o,(.pv (vB j)),.o,.o,(.pv (af k)),(.pv l.pv)]] (y8 h1 h2 h3 h4 (pY h5) h6 h7 h8)
theorem e1(a b:av)(c d:Ws)(g i:Bool)(j:Int)(k:Bool)(l:Ws)(m:av)(h1:Cp 105 [a.pv] (af c))(h2:Cp 105 [b.pv] (af d))(h3:Cp 106 [a.pv] (vB g))(h4:Cp 106 [b.pv] (vB i))(h5:g≠i)(h6:Cp 104 [af c,af d] (vI j))(h7:0≤j)(h8:Cp 106 [a.pv] (vB k))(h9:Cp 141 [af c,af d] (af l))(cw:Cp 107 [vB k,af l] m.pv):Cp 74 [a.pv,b.pv] m.pv :=
 eD func74 [] [.q,dr 4 2 [.none,(.pv (af c)),.none,(.pv (af d))],dr 5 1 [.none,(.pv (vB g)),.none,(.pv (vB i))],.f,.h 2 (.pv (vI j)),.t,.aR [.o,(.pv (vB k)),.o,.o,(.pv (af l)),(.pv m.pv)]] (JU h1 h2 h3 h4 (vk h5) h6 (bN h7) h8 h9 cw)
theorem e2(a b:av)(c d:Ws)(g i:Bool)(j:Int)(k:Bool)(l:Ws)(m:av)(h1:Cp 105 [a.pv] (af c))(h2:Cp 105 [b.pv] (af d))(h3:Cp 106 [a.pv] (vB g))(h4:Cp 106 [b.pv] (vB i))(h5:g≠i)(h6:Cp 104 [af c,af d] (vI j))(h7:j<0)(h8:Cp 106 [b.pv] (vB k))(h9:Cp 141 [af d,af c] (af l))(cw:Cp 107 [vB k,af l] m.pv):Cp 74 [a.pv,b.pv] m.pv :=
 eD func74 [] [.q,dr 4 2 [.none,(.pv (af c)),.none,(.pv (af d))],dr 5 1 [.none,(.pv (vB g)),.none,(.pv (vB i))],.f,.h 2 (.pv (vI j)),.f,.aR [.o,(.pv (vB k)),.o,.o,(.pv (af l)),(.pv m.pv)]] (JU h1 h2 h3 h4 (vk h5) h6 (fY h7) h8 h9 cw)
end qe
namespace iS
@[reducible] def fn:Func:=Tryz.f76
def a8:List eR:=focus [0,2,0,2,0,0,2,1,2,0,2,0,0,0] [.code (aP fn)]
def inv1(m_3:List UInt32)(FK:List ByteArray)(a:av):St:=⟨[(1,(.ptr 1 0)),(3,(.pv (af m_3))),(4,(.pv (dp kf FK)))],[(1,(.lit [(eB a.neg),(.pv (af a.cD))]))]⟩
@[reducible] def ai(m_3:List UInt32)(FK:List ByteArray)(a:av)(r:PV):Prop:=L bp fn a8 (inv1 m_3 FK a) r
theorem e0(a:av)(b:Ws)(h1:Cp 105 [a.pv] (af b))(h2:b.length=0):Cp 76 [a.pv] (.str (ByteArray.mk #[48])) :=
 eD func76 [] [.q,.h 1 (.pv (af b)),.h 1 (iL b),.t,.q] (y3 h1 (ak ah b) (aJ h2))
theorem e1(a:av)(b:Ws){r:PV}(h1:Cp 105 [a.pv] (af b))(h2:b.length≠0)(hL:ai b [] a r):Cp 76 [a.pv] r :=
 eG func76 [] [.q,.h 1 (.pv (af b)),.h 1 (iL b),.f,.q,.aH [1,3,4]] (y3 h1 (ak ah b) (ax h2)) hL
theorem c9(b:Ws)(c:List ByteArray)(a:av)(d:Ws)(g:UInt32)(i:ByteArray){r:PV}(h1:0<b.length)(h2:Cp 143 [af b,(vW (1000000000:UInt32))] (.aF [af d,vW g]))(h3:Cp 144 [(vI (g.toNat:Int))] (.str i))(h4:d.length≤0)(h5:(([i]++c):List ByteArray).length*16≤140737488355328)(hL:ai d ([i]++c) a r):ai b c a r :=
 lG [1,1,1,1,1,1,1,6,3] [.a,.h 1 (iL b),.t,.q,.h 1 (.pv (.aF [af d,vW g])),.aR [.o,(iI (g.toNat:Int)),(.pv (.str i))],.h 1 (iL d),.f,.h 3 (.app (([i]++c):List ByteArray).length ((([i]++c):List ByteArray).map kf).flatten),.fF 4 ((([i]++c):List ByteArray).map kf),.aH [1,3,4]] (y9 (ak ah b) (aj h1) h2 (W6 g) h3 (ak ah d) (aq h4) (kE ON ([i]:List ByteArray) (c:List ByteArray) 16 (Eq.refl ([i]:List ByteArray).length) h5 rfl) (cJ ON (([i]++c):List ByteArray) (Eq.refl (([i]++c):List ByteArray).length))) hL
theorem kA(b:Ws)(c:List ByteArray)(a:av)(d:ByteArray)(g:Bool)(h1:b.length≤0)(h2:Cp 146 [dp kf c,(.str (ByteArray.mk #[]))] (.str d))(h3:Cp 106 [a.pv] (vB g))(h4:g=true)(h5:(ByteArray.mk #[45]).size+d.size<9223372036854775808):ai b c a (.str ((ByteArray.mk #[45])++d)) :=
 lD [] [.a,.h 1 (iL b),.f,.h 1 (.pv (.str d)),.h 1 (.pv (vB g)),.t,.h 1 (.pv (.str ((ByteArray.mk #[45])++d))),.q] (y6 (ak ah b) (aq h1) h2 h3 h4 (xj h5))
theorem uA(b:Ws)(c:List ByteArray)(a:av)(d:ByteArray)(g:Bool)(h1:b.length≤0)(h2:Cp 146 [dp kf c,(.str (ByteArray.mk #[]))] (.str d))(h3:Cp 106 [a.pv] (vB g))(h4:g=false):ai b c a (.str d) :=
 lD [] [.a,.h 1 (iL b),.f,.h 1 (.pv (.str d)),.h 1 (.pv (vB g)),.f,.q] (y5 (ak ah b) (aq h1) h2 h3 h4)
end iS
namespace oC
theorem e0(a:av)(b:Ws)(h1:Cp 105 [a.pv] (af b))(h2:b.length=0):Cp 103 [a.pv] (vI 0) :=
 eD func103 [] [.q,.aR [.o,(.pv (af b)),(iL b)],.t,.q] (y3 h1 (ak ah b) (aJ h2))
theorem e1(a:av)(b:Ws)(h1:Cp 105 [a.pv] (af b))(h2:b.length≠0)(h3:a.neg=true):Cp 103 [a.pv] (vI (-1)) :=
 eD func103 [] [.q,.aR [.o,(.pv (af b)),(iL b)],.f,.q,.t,.q] (y4 h1 (ak ah b) (ax h2) h3)
theorem e2(a:av)(b:Ws)(h1:Cp 105 [a.pv] (af b))(h2:b.length≠0)(h3:a.neg=false):Cp 103 [a.pv] (vI 1) :=
 eD func103 [] [.q,.aR [.o,(.pv (af b)),(iL b)],.f,.q,.f,.q] (y4 h1 (ak ah b) (ax h2) h3)
end oC
namespace dO
@[reducible] def fn:Func:=Tryz.f104
def a8:List eR:=focus [0,2,0,0,2,1,2,0,0,2,0,0] [.code (aP fn)]
def inv1(a b:List UInt32)(BY:Int):St:=⟨[(0,(.pv (af a))),(1,(.pv (af b))),(5,(eI BY))],[]⟩
@[reducible] def ai(a b:List UInt32)(BY:Int)(r:PV):Prop:=L bp fn a8 (inv1 a b BY) r
theorem e0(a b:Ws)(h1:a.length≠b.length)(h2:a.length<b.length):Cp 104 [af a,af b] (vI (-1)) :=
 eD func104 [] [.q,.aR [.o,(iL a),.o,(iL b)],.t,.aR [.o,(iL a),.o,(iL b)],.t,.q] (y6 (ak ah a) (ak ah b) (cZ h1) (ak ah a) (ak ah b) (aj h2))
theorem e1(a b:Ws)(h1:a.length≠b.length)(h2:b.length≤a.length):Cp 104 [af a,af b] (vI 1) :=
 eD func104 [] [.q,.aR [.o,(iL a),.o,(iL b)],.t,.aR [.o,(iL a),.o,(iL b)],.f,.q] (y6 (ak ah a) (ak ah b) (cZ h1) (ak ah a) (ak ah b) (aq h2))
theorem e2(a b:Ws){r:PV}(h1:a.length=b.length)(h2:az ((a.length:Int)-1))(hL:ai a b ((a.length:Int)-1) r):Cp 104 [af a,af b] r :=
 eG func104 [] [.q,.aR [.o,(iL a),.o,(iL b)],.f,.aR [.o,(iL a),(iI ((a.length:Int)-1))],.aH [0,1,5]] (y5 (ak ah a) (ak ah b) (bX h1) (ak ah a) (aU h2)) hL
theorem l10(a b:Ws)(c:Int)(k:Nat)(v:UInt32)(k1:Nat)(v1:UInt32)(k2:Nat)(v2:UInt32)(k3:Nat)(v3:UInt32)(h1:0≤c)(h2:c=(k:Int))(h3:a[k]? = some v)(h4:c=(k1:Int))(h5:b[k1]? = some v1)(h6:v.toNat≠v1.toNat)(h7:c=(k2:Int))(h8:a[k2]? = some v2)(h9:c=(k3:Int))(cw:b[k3]? = some v3)(fg:v2.toNat<v3.toNat):ai a b c (vI (-1)) :=
 lD [1,3,3,1,3,3] [.a,.q,.t,dr 9 0 [.none,.none,(.row k (ah v)),.none,.none,.none,(.row k1 (ah v1))],.t,dr 9 0 [.none,.none,(.row k2 (ah v2)),.none,.none,.none,(.row k3 (ah v3))],.t,.q] (y7 (bN h1) (bm ah h2 h3) (bm ah h4 h5) (cZ h6) (bm ah h7 h8) (bm ah h9 cw) (aj fg))
theorem c9(a b:Ws)(c:Int)(k:Nat)(v:UInt32)(k1:Nat)(v1:UInt32)(k2:Nat)(v2:UInt32)(k3:Nat)(v3:UInt32)(h1:0≤c)(h2:c=(k:Int))(h3:a[k]? = some v)(h4:c=(k1:Int))(h5:b[k1]? = some v1)(h6:v.toNat≠v1.toNat)(h7:c=(k2:Int))(h8:a[k2]? = some v2)(h9:c=(k3:Int))(cw:b[k3]? = some v3)(fg:v3.toNat≤v2.toNat):ai a b c (vI 1) :=
 lD [1,3,3,1,3,3] [.a,.q,.t,dr 9 0 [.none,.none,(.row k (ah v)),.none,.none,.none,(.row k1 (ah v1))],.t,dr 9 0 [.none,.none,(.row k2 (ah v2)),.none,.none,.none,(.row k3 (ah v3))],.f,.q] (y7 (bN h1) (bm ah h2 h3) (bm ah h4 h5) (cZ h6) (bm ah h7 h8) (bm ah h9 cw) (aq fg))
theorem kA(a b:Ws)(c:Int)(k:Nat)(v:UInt32)(k1:Nat)(v1:UInt32){r:PV}(h1:0≤c)(h2:c=(k:Int))(h3:a[k]? = some v)(h4:c=(k1:Int))(h5:b[k1]? = some v1)(h6:v.toNat=v1.toNat)(h7:az (c-1))(hL:ai a b (c-1) r):ai a b c r :=
 lG [1,3,3] [.a,.q,.t,dr 9 0 [.none,.none,(.row k (ah v)),.none,.none,.none,(.row k1 (ah v1))],.f,.h 1 (iI (c-1)),.aH [0,1,5]] (y5 (bN h1) (bm ah h2 h3) (bm ah h4 h5) (bX h6) (aU h7)) hL
theorem uA(a b:Ws)(c:Int)(h1:c<0):ai a b c (vI 0) :=
 lD [] [.a,.q,.f,.q] (y1 (fY h1))
end dO
namespace tK
theorem e0(a:av)(b:Bool)(h1:Cp 171 [a.pv] (vB b))(h2:b=false):Cp 105 [a.pv] (af []) :=
 eD func105 [] [.q,.h 1 (.pv (vB b)),.t,.q] (y2 h1 (cA h2))
theorem e1(a:av)(b:Bool)(h1:Cp 171 [a.pv] (vB b))(h2:b=true):Cp 105 [a.pv] (af a.cD) :=
 eD func105 [] [.q,.h 1 (.pv (vB b)),.f,.q] (y2 h1 (aM h2))
end tK
namespace tL
theorem e0(a:av)(b:Bool)(h1:Cp 171 [a.pv] (vB b))(h2:b=true):Cp 106 [a.pv] (vB a.neg) :=
 eD func106 [] [.q,.aR [.o,(.pv (vB b)),.o,.o,.o,(.dec true)]] (y4 h1 h2 h2 h2)
theorem e1(a:av)(b:Bool)(h1:Cp 171 [a.pv] (vB b))(h2:b=false):Cp 106 [a.pv] (vB false) :=
 eD func106 [] [.q,.aR [.o,(.pv (vB b)),.o,.skip,.skip,(.dec false)]] (y4 h1 h2 h2 h2)
end tL
namespace qO
theorem e0(a:Bool)(m b:Ws)(h1:Cp 172 [af m] (af b))(h2:a=true):Cp 107 [vB a,af m] ((⟨(decide ((b.length:Int)>0)),b⟩:av).pv) :=
 eD func107 [] [.q,.h 1 (.pv (af b)),.aR [.o,.o,.o,(iL b),.o,(.dec true)]] (y6 h1 h2 h2 (ak ah b) h2 h2)
theorem e1(a:Bool)(m b:Ws)(h1:Cp 172 [af m] (af b))(h2:a=false):Cp 107 [vB a,af m] ((⟨false,b⟩:av).pv) :=
 eD func107 [] [.q,.h 1 (.pv (af b)),.aR [.o,.o,.skip,.skip,.skip,(.dec false)]] (y5 h1 h2 h2 h2 h2)
end qO
namespace fz
@[reducible] def fn:Func:=Tryz.f108
def a8:List eR:=focus [0,2,0,2,0,0,2,0,0] [.code (aP fn)]
def inv1(b a:List UInt32)(vZ:Nat)(gH:List UInt32):St:=⟨[(1,(.pv (af b))),(5,(.row 16 0 (a.length+b.length) 1)),(17,(.pv (af a))),(18,(eI (a.length:Int))),(19,(eI (vZ:Int)))],[(16,(.pure ((gH:List UInt32).map ah).flatten))]⟩
@[reducible] def ai(b a:List UInt32)(vZ:Nat)(gH:List UInt32)(r:PV):Prop:=L bp fn a8 (inv1 b a vZ gH) r
def qP:List eR:=focus [0,2,0,2,0,0,2,0,0,0,0,2,0,0,2,0,0,0,2,0,2,0,0,2,0,0] [.code (aP fn)]
def inv2(b a:List UInt32)(Uw:Nat)(v:UInt32)(FL vZ Ux:Nat)(gH:List UInt32):St:=⟨[(1,(.pv (af b))),(5,(.row 16 0 (a.length+b.length) 1)),(6,(eI (Uw:Int))),(7,(eW v)),(8,(eU FL)),(17,(.pv (af a))),(18,(eI (a.length:Int))),(19,(eI (vZ:Int))),(24,(.pv (af b))),(25,(eI (b.length:Int))),(26,(eI (Ux:Int)))],[(16,(.pure ((gH:List UInt32).map ah).flatten))]⟩
@[reducible] def bD(b a:List UInt32)(Uw:Nat)(v:UInt32)(FL vZ Ux:Nat)(gH:List UInt32)(r:PV):Prop:=L bp fn qP (inv2 b a Uw v FL vZ Ux gH) r
theorem e0(a b:Ws){r:PV}(h1:(a.length+b.length)<9223372036854775808)(h2:4*(a.length+b.length)≤140737488355328)(hL:ai b a 0 (List.replicate (a.length+b.length) (0:UInt32)) r):Cp 108 [af a,af b] r :=
 eG func108 [1,1,1,5] [.q,.aR [.o,(iL a),.o,(iL b),(iI (((a.length+b.length):Nat):Int)),(.app (a.length+b.length) ((List.replicate (a.length+b.length) (0:UInt32):Ws).map ah).flatten)],.h 1 (iL a),.aH [1,5,17,18,19]] (y5 (ak ah a) (ak ah b) (aL h1) (tH ah 0 4 (a.length+b.length) (rN (a.length+b.length)) h2 rfl) (ak ah a)) hL
theorem l10(b a:Ws)(c:Nat)(d:Ws)(v:UInt32){r:PV}(h1:c<a.length)(h2:a[c]? = some v)(hL:bD b a c v 0 c 0 d r):ai b a c d r :=
 lG [1,3] [.a,.q,.t,.h 1 (.row c (ah v)),.q,.h 1 (iL b),.aH [1,5,6,7,8,17,18,19,24,25,26]] (y3 (aj h1) (bm ah (rN c) h2) (ak ah b)) hL
theorem c9(b a:Ws)(c:Nat)(d g:Ws)(h1:a.length≤c)(h2:(a.length+b.length)=d.length)(h3:Cp 172 [af d] (af g)):ai b a c d (af g) :=
 lD [1,3] [.a,.q,.f,.fF 5 ((d:Ws).map ah),.h 1 (.pv (af g))] (y3 (aq h1) (cJ aW (d:Ws) h2) h3)
theorem BZ(b a:Ws)(c:Nat)(v:UInt32)(d g i:Nat)(j:Ws)(v1:UInt32)(p:Nat)(v2:UInt32)(s s1:Nat)(w:UInt32)(z:Nat){r:PV}(h1:i<b.length)(h2:b[i]? = some v1)(h3:(v.toNat*v1.toNat)%18446744073709551616=p)(h4:(c+i)<9223372036854775808)(h5:(c+i)<(a.length+b.length))(h6:j[(c+i)]? = some v2)(h7:(p+v2.toNat)%18446744073709551616=s)(h8:(d+s)%18446744073709551616=s1)(h9:s1%4294967296=w.toNat)(cw:(c+i)<j.length)(fg:s1/2^(min 32 64)=z)(iC:(i+1)<9223372036854775808)(hL:bD b a c v z g (i+1) (j.set (c+i) w) r):bD b a c v d g i j r :=
 lG [1,3,1,1,1,1,2,1,1,1,1,1,1,2,2] [.a,.q,.t,.h 1 (.row i (ah v1)),.aR [.o,.o,iU v.toNat,.o,iU v1.toNat,iU p,.o,.o,.o,(iI (((c+i):Nat):Int)),(.nat (c+i)),(.ev (.pv (vW v2))),iU v2.toNat,iU s,iU s1],.aR [.o,.o,.o,(iI (((c+i):Nat):Int)),.o,iW w,(.nat (c+i)),(.cells (.pure (((j.set (c+i) w):Ws).map ah).flatten))],.h 1 (iU z),.h 0 (iI (((i+1):Nat):Int)),.aH [1,5,6,7,8,17,18,19,24,25,26]] (QN (aj h1) (bm ah (rN i) h2) (nN v) (nN v1) (mZ h3) (aL h4) (cj (rN (c+i)) h5) (gr (enc:=ah) (f:=fun a=>(vW a)) (fun _=>rfl) h6) (nN v2) (dD h7) (dD h8) (aL h4) (cC h9) (cj (rN (c+i)) h5) (gV aW (j:Ws) w cw) (cN (k := .u64) fg) (aL iC)) hL
theorem FM(b a:Ws)(c:Nat)(v:UInt32)(d g i:Nat)(j:Ws)(w:UInt32){r:PV}(h1:b.length≤i)(h2:(c+b.length)<9223372036854775808)(h3:d%4294967296=w.toNat)(h4:(c+b.length)<(a.length+b.length))(h5:(c+b.length)<j.length)(h6:(g+1)<9223372036854775808)(hL:ai b a (g+1) (j.set (c+b.length) w) r):bD b a c v d g i j r :=
 lG [1,1,1,1,2,2] [.a,.q,.f,.aR [.o,.o,.o,(iL b),(iI (((c+b.length):Nat):Int)),.o,iW w,(.nat (c+b.length)),(.cells (.pure (((j.set (c+b.length) w):Ws).map ah).flatten))],.h 0 (iI (((g+1):Nat):Int)),.aH [1,5,17,18,19]] (y7 (aq h1) (ak ah b) (aL h2) (cC h3) (cj (rN (c+b.length)) h4) (gV aW (j:Ws) w h5) (aL h6)) hL
end fz
namespace zJ
theorem e0(a:av)(b:Bool)(c:Ws)(d:av)(h1:Cp 106 [a.pv] (vB b))(h2:Cp 105 [a.pv] (af c))(h3:Cp 107 [(vB (!b)),af c] d.pv):Cp 109 [a.pv] d.pv :=
 eD func109 [] [.q,dr 6 1 [.none,(.pv (vB b)),.none,.none,(.pv (af c)),(.pv d.pv)]] (y3 h1 h2 h3)
end zJ
namespace lN
@[reducible] def fn:Func:=Tryz.f110
def a8:List eR:=focus [0,2,0,2,0,0,0] [.code (aP fn)]
def inv1(x_5 y_6:List UInt32):St:=⟨[(4,(.ptr 4 0)),(5,(.pv (af x_5))),(6,(.pv (af y_6)))],[(4,(.lit [(eB false),(.pv (.list []))]))]⟩
@[reducible] def ai(x_5 y_6:List UInt32)(r:PV):Prop:=L bp fn a8 (inv1 x_5 y_6) r
theorem e0(a b:av)(c d:Ws){r:PV}(h1:Cp 105 [a.pv] (af c))(h2:Cp 105 [b.pv] (af d))(hL:ai c d r):Cp 110 [a.pv,b.pv] r :=
 eG func110 [] [.q,dr 4 2 [.none,(.pv (af c)),.none,(.pv (af d))],.aH [4,5,6],.drop [3,2]] (y2 h1 h2) hL
theorem l10(b c d g:Ws){r:PV}(h1:0<c.length)(h2:Cp 173 [af b,af c] (.aF [af d,af g]))(hL:ai c g r):ai b c r :=
 lG [] [.a,.h 1 (iL c),.t,.h 2 (.pv (.aF [af d,af g])),.q,.aH [4,5,6]] (y3 (ak ah c) (aj h1) h2) hL
theorem c9(b c:Ws)(d:av)(h1:c.length≤0)(h2:Cp 107 [vB false,af b] d.pv):ai b c d.pv :=
 lD [] [.a,.h 1 (iL c),.f,.h 1 (.pv d.pv)] (y3 (ak ah c) (aq h1) h2)
end lN
namespace qf
theorem e1(a b:av)(c d g i:Ws)(j:Bool)(k l:Ws)(m n:Bool)(p s:av)(h1:Cp 105 [b.pv] (af c))(h2:c.length≠0)(h3:Cp 105 [a.pv] (af d))(h4:Cp 173 [af d,af c] (.aF [af g,af i]))(h5:Cp 106 [a.pv] (vB j))(h6:j=true)(h7:0<i.length)(h8:Cp 140 [af g,(af [(1:UInt32)])] (af k))(h9:Cp 141 [af c,af i] (af l))(cw:Cp 106 [a.pv] (vB m))(fg:Cp 106 [b.pv] (vB n))(iC:Cp 107 [(vB (!(m==n))),af k] p.pv)(mn:Cp 107 [vB false,af l] s.pv):Cp 111 [a.pv,b.pv] (.aF [p.pv,s.pv,.ay]) :=
 eD func111 [1,1,1,1,1,1,1,1,1,1,1,1,3] [.q,.h 1 (.pv (af c)),.h 1 (iL c),.f,.aR [.o,(.pv (af d)),.o,(.pv (.aF [af g,af i]))],.aR [.o,(.pv (vB j)),.o,.o,(iL i),.o,(.dec true)],.t,.aR [.o,(.fR 0 0 (([(1:UInt32)]:Ws).map ah)),(.pv (af k)),.o,.o,(.pv (af l))],dr 9 3 [.none,(.pv (vB m)),.none,(.pv (vB n)),.none,.none,(.pv p.pv),.none,(.pv s.pv)]] (YM h1 (ak ah c) (ax h2) h3 h4 h5 h6 h6 (ak ah i) h6 h6 (aj h7) (oB aW ([(1:UInt32)]:Ws)) h8 h9 cw fg iC mn)
theorem e2(a b:av)(c d g i:Ws)(j k l:Bool)(m n:av)(h1:Cp 105 [b.pv] (af c))(h2:c.length≠0)(h3:Cp 105 [a.pv] (af d))(h4:Cp 173 [af d,af c] (.aF [af g,af i]))(h5:Cp 106 [a.pv] (vB j))(h6:j=true)(h7:i.length≤0)(h8:Cp 106 [a.pv] (vB k))(h9:Cp 106 [b.pv] (vB l))(cw:Cp 107 [(vB (!(k==l))),af g] m.pv)(fg:Cp 107 [vB false,af i] n.pv):Cp 111 [a.pv,b.pv] (.aF [m.pv,n.pv,.ay]) :=
 eD func111 [] [.q,.h 1 (.pv (af c)),.h 1 (iL c),.f,.aR [.o,(.pv (af d)),.o,(.pv (.aF [af g,af i]))],.aR [.o,(.pv (vB j)),.o,.o,(iL i),.o,(.dec true)],.f,dr 9 3 [.none,(.pv (vB k)),.none,(.pv (vB l)),.none,.none,(.pv m.pv),.none,(.pv n.pv)]] (Lj h1 (ak ah c) (ax h2) h3 h4 h5 h6 h6 (ak ah i) h6 h6 (aq h7) h8 h9 cw fg)
theorem e3(a b:av)(c d g i:Ws)(j k l:Bool)(m n:av)(h1:Cp 105 [b.pv] (af c))(h2:c.length≠0)(h3:Cp 105 [a.pv] (af d))(h4:Cp 173 [af d,af c] (.aF [af g,af i]))(h5:Cp 106 [a.pv] (vB j))(h6:j=false)(h7:Cp 106 [a.pv] (vB k))(h8:Cp 106 [b.pv] (vB l))(h9:Cp 107 [(vB (!(k==l))),af g] m.pv)(cw:Cp 107 [vB false,af i] n.pv):Cp 111 [a.pv,b.pv] (.aF [m.pv,n.pv,.ay]) :=
 eD func111 [] [.q,.h 1 (.pv (af c)),.h 1 (iL c),.f,.aR [.o,(.pv (af d)),.o,(.pv (.aF [af g,af i]))],.aR [.o,(.pv (vB j)),.o,.skip,.skip,.skip,(.dec false)],.a,dr 9 3 [.none,(.pv (vB k)),.none,(.pv (vB l)),.none,.none,(.pv m.pv),.none,(.pv n.pv)]] (NI h1 (ak ah c) (ax h2) h3 h4 h5 h6 h6 h6 h6 h7 h8 h9 cw)
end qf
namespace zK
theorem e0(a b c d:av)(h1:Cp 109 [b.pv] c.pv)(h2:Cp 74 [a.pv,c.pv] d.pv):Cp 137 [a.pv,b.pv] d.pv :=
 eD func137 [] [.q,dr 4 1 [.none,.none,(.pv c.pv),(.pv d.pv)]] (y2 h1 h2)
end zK
namespace mo
@[reducible] def fn:Func:=Tryz.f140
def a8:List eR:=focus [0,2,0,2,0,2,0,0,2,0,0] [.code (aP fn)]
def inv1(a b:List UInt32)(si JX:Nat)(iT:List UInt32):St:=⟨[(0,(.pv (af a))),(1,(.pv (af b))),(5,(.row 14 0 ((max a.length b.length)+1) 1)),(6,(eU si)),(16,(eI ((((max a.length b.length)+1):Nat):Int))),(17,(eI (JX:Int)))],[(14,(.pure ((iT:List UInt32).map ah).flatten))]⟩
@[reducible] def ai(a b:List UInt32)(si JX:Nat)(iT:List UInt32)(r:PV):Prop:=L bp fn a8 (inv1 a b si JX iT) r
theorem e0(a b:Ws){r:PV}(h1:((max a.length b.length)+1)<9223372036854775808)(h2:4*((max a.length b.length)+1)≤140737488355328)(hL:ai a b 0 0 (List.replicate ((max a.length b.length)+1) (0:UInt32)) r):Cp 140 [af a,af b] r :=
 eG func140 [1,1,1,1,5] [.q,.aR [.o,(iL a),.o,(iL b),(iI (((max a.length b.length):Nat):Int)),(iI ((((max a.length b.length)+1):Nat):Int)),(.app ((max a.length b.length)+1) ((List.replicate ((max a.length b.length)+1) (0:UInt32):Ws).map ah).flatten)],.q,.q,.aH [0,1,5,6,16,17]] (y5 (ak ah a) (ak ah b) (nd a.length b.length) (aL h1) (tH ah 0 4 ((max a.length b.length)+1) (Eq.refl (((((max a.length b.length)+1):Nat):Int):Int)) h2 rfl)) hL
theorem l10(a b:Ws)(c d:Nat)(g:Ws)(i j s s1:Nat)(w:UInt32)(z:Nat){r:PV}(h1:d<((max a.length b.length)+1))(h2:Cp 189 [af a,(vI (d:Int))] (vU i))(h3:Cp 189 [af b,(vI (d:Int))] (vU j))(h4:(i+j)%18446744073709551616=s)(h5:(c+s)%18446744073709551616=s1)(h6:s1%4294967296=w.toNat)(h7:d<g.length)(h8:s1/2^(min 32 64)=z)(h9:(d+1)<9223372036854775808)(hL:ai a b z (d+1) (g.set d w) r):ai a b c d g r :=
 lG [1,1,1,1,1,1,2,2] [.a,.q,.t,.q,.aR [.o,.o,.o,(.pv (vU i)),.o,.o,(.pv (vU j)),iU s,iU s1],.aR [.o,.o,.o,iW w,(.nat d),(.cells (.pure (((g.set d w):Ws).map ah).flatten))],.h 1 (iU z),.h 0 (iI (((d+1):Nat):Int)),.aH [0,1,5,6,16,17]] (JU (aj h1) h2 h3 (dD h4) (dD h5) (cC h6) (cj (rN d) h1) (gV aW (g:Ws) w h7) (cN (k := .u64) h8) (aL h9)) hL
theorem c9(a b:Ws)(c d:Nat)(g i:Ws)(h1:((max a.length b.length)+1)≤d)(h2:((max a.length b.length)+1)=g.length)(h3:Cp 172 [af g] (af i)):ai a b c d g (af i) :=
 lD [1,3] [.a,.q,.f,.fF 5 ((g:Ws).map ah),.h 1 (.pv (af i))] (y3 (aq h1) (cJ aW (g:Ws) h2) h3)
end mo
namespace mr
@[reducible] def fn:Func:=Tryz.f141
def a8:List eR:=focus [0,2,0,2,0,2,0,0,2,0,0] [.code (aP fn)]
def inv1(a b:List UInt32)(pd Uy:Nat)(sj:List UInt32):St:=⟨[(0,(.pv (af a))),(1,(.pv (af b))),(5,(.row 11 0 a.length 1)),(6,(eU pd)),(13,(eI (a.length:Int))),(14,(eI (Uy:Int)))],[(11,(.pure ((sj:List UInt32).map ah).flatten))]⟩
@[reducible] def ai(a b:List UInt32)(pd Uy:Nat)(sj:List UInt32)(r:PV):Prop:=L bp fn a8 (inv1 a b pd Uy sj) r
theorem e0(a b:Ws){r:PV}(h1:4*a.length≤140737488355328)(hL:ai a b 0 0 (List.replicate a.length (0:UInt32)) r):Cp 141 [af a,af b] r :=
 eG func141 [1,5] [.q,.aR [.o,(iL a),(.app a.length ((List.replicate a.length (0:UInt32):Ws).map ah).flatten)],.q,.q,.aH [0,1,5,6,13,14]] (y2 (ak ah a) (tH ah 0 4 a.length (rN a.length) h1 rfl)) hL
theorem l10(a b:Ws)(c g:Nat)(i:Ws)(v:UInt32)(j d d1:Nat)(w:UInt32)(z:Nat){r:PV}(h1:g<a.length)(h2:a[g]? = some v)(h3:Cp 189 [af b,(vI (g:Int))] (vU j))(h4:((v.toNat:Nat)-(j:Nat):Int)%18446744073709551616=(d:Int))(h5:((d:Nat)-(c:Nat):Int)%18446744073709551616=(d1:Int))(h6:d1%4294967296=w.toNat)(h7:g<i.length)(h8:d1/2^(min 63 64)=z)(h9:(g+1)<9223372036854775808)(hL:ai a b z (g+1) (i.set g w) r):ai a b c g i r :=
 lG [1,3,1,1,1,1,1,2,2] [.a,.q,.t,.q,dr 11 1 [.none,.none,(.row g (ah v)),.none,iU v.toNat,.none,.none,(.pv (vU j)),iU d,.none,iU d1],.aR [.o,.o,.o,iW w,(.nat g),(.cells (.pure (((i.set g w):Ws).map ah).flatten))],.h 1 (iU z),.h 0 (iI (((g+1):Nat):Int)),.aH [0,1,5,6,13,14]] (HY (aj h1) (bm ah (rN g) h2) (nN v) h3 (di h4) (di h5) (cC h6) (cj (rN g) h1) (gV aW (i:Ws) w h7) (cN (k := .u64) h8) (aL h9)) hL
theorem c9(a b:Ws)(c d:Nat)(g i:Ws)(h1:a.length≤d)(h2:a.length=g.length)(h3:Cp 172 [af g] (af i)):ai a b c d g (af i) :=
 lD [1,3] [.a,.q,.f,.fF 5 ((g:Ws).map ah),.h 1 (.pv (af i))] (y3 (aq h1) (cJ aW (g:Ws) h2) h3)
end mr
namespace kO
@[reducible] def fn:Func:=Tryz.f143
def a8:List eR:=focus [0,2,0,2,0,2,0,0,2,0,0] [.code (aP fn)]
def inv1(a:List UInt32)(b:UInt32)(JY:Nat)(JZ:Int)(sj:List UInt32):St:=⟨[(0,(.pv (af a))),(1,(eW b)),(6,(.row 11 0 a.length 1)),(7,(eU JY)),(8,(eI JZ))],[(11,(.pure ((sj:List UInt32).map ah).flatten))]⟩
@[reducible] def ai(a:List UInt32)(b:UInt32)(JY:Nat)(JZ:Int)(sj:List UInt32)(r:PV):Prop:=L bp fn a8 (inv1 a b JY JZ sj) r
theorem e0(a:Ws)(b:UInt32){r:PV}(h1:4*a.length≤140737488355328)(h2:az ((a.length:Int)-1))(hL:ai a b 0 ((a.length:Int)-1) (List.replicate a.length (0:UInt32)) r):Cp 143 [af a,vW b] r :=
 eG func143 [1,5] [.q,.aR [.o,(iL a),(.app a.length ((List.replicate a.length (0:UInt32):Ws).map ah).flatten)],.q,.aR [.o,(iL a),(iI ((a.length:Int)-1))],.aH [0,1,6,7,8]] (y4 (ak ah a) (tH ah 0 4 a.length (rN a.length) h1 rfl) (ak ah a) (aU h2)) hL
theorem l10(a:Ws)(b:UInt32)(c:Nat)(d:Int)(g:Ws)(z k:Nat)(v:UInt32)(z1 q:Nat)(w:UInt32)(k1 m:Nat){r:PV}(h1:0≤d)(h2:(c*2^(min 32 64))%18446744073709551616=z)(h3:d=(k:Int))(h4:a[k]? = some v)(h5:(z%18446744073709551616) ||| (v.toNat%18446744073709551616)=z1)(h6:b.toNat≠0)(h7:(z1/b.toNat)%18446744073709551616=q)(h8:q%4294967296=w.toNat)(h9:d=(k1:Int))(cw:k1<a.length)(fg:k1<g.length)(iC:z1%b.toNat=m)(mn:az (d-1))(hL:ai a b m (d-1) (g.set k1 w) r):ai a b c d g r :=
 lG [1,1,3,1,1,1,1,1,2,2] [.a,.q,.t,.aR [.o,iU z,.o,.o,(.row k (ah v)),.o,iU v.toNat,iU z1],.aR [.o,.o,.o,.o,iU b.toNat,iU q,iW w,(.nat k1),(.cells (.pure (((g.set k1 w):Ws).map ah).flatten))],.aR [.o,.o,iU b.toNat,iU m],.h 1 (iI (d-1)),.aH [0,1,6,7,8]] (JV (bN h1) (iP (k := .u64) h2) (bm ah h3 h4) (nN v) (nc h5) (nN b) (BQ h6 h7) (cC h8) (cj h9 cw) (gV aW (g:Ws) w fg) (nN b) (BR h6 iC) (aU mn)) hL
theorem c9(a:Ws)(b:UInt32)(c:Nat)(d:Int)(g i:Ws)(w:UInt32)(h1:d<0)(h2:a.length=g.length)(h3:Cp 172 [af g] (af i))(h4:c%4294967296=w.toNat):ai a b c d g (.aF [af i,vW w]) :=
 lD [1,3] [.a,.q,.f,.fF 6 ((g:Ws).map ah),.aR [.o,(.pv (af i)),.o,iW w]] (y4 (fY h1) (cJ aW (g:Ws) h2) h3 (cC h4))
end kO
namespace qQ
theorem e0(a:av)(h1:a.cD.length=0):Cp 171 [a.pv] (vB (!a.neg)) :=
 eD func171 [] [.q,.h 2 (iL a.cD),.t,.q] (y2 (ak ah a.cD) (aJ h1))
theorem e1(a:av)(k:Nat)(v:UInt32)(h1:a.cD.length≠0)(h2:az ((a.cD.length:Int)-1))(h3:((a.cD.length:Int)-1)=(k:Int))(h4:a.cD[k]? = some v):Cp 171 [a.pv] (vB ((v.toNat:Int) != 0)) :=
 eD func171 [1,1,1,1,3] [.q,.h 2 (iL a.cD),.f,.aR [.o,.o,.o,.o,(iL a.cD),(iI ((a.cD.length:Int)-1)),(.row k (ah v))]] (y5 (ak ah a.cD) (ax h1) (ak ah a.cD) (aU h2) (bm ah h3 h4))
end qQ
namespace ki
@[reducible] def fn:Func:=Tryz.f172
def a8:List eR:=focus [0,2,0,2,0,0,0] [.code (aP fn)]
def inv1(m:List UInt32)(Uz:Int):St:=⟨[(0,(.pv (af m))),(3,(eI Uz))],[]⟩
@[reducible] def ai(m:List UInt32)(Uz:Int)(r:PV):Prop:=L bp fn a8 (inv1 m Uz) r
theorem e0 (m : Ws) {r : PV}  (hL : ai m (m.length : Int) r) : Cp 172 [af m] r :=
 eG func172 [] [.q,.h 1 (iL m),.aH [0,3]] (y1 (ak ah m)) hL
theorem l10(m:Ws)(b:Int)(k:Nat)(v:UInt32){r:PV}(h1:0<b)(h2:az (b-1))(h3:(b-1)=(k:Int))(h4:m[k]? = some v)(h5:v.toNat=0)(hL:ai m (b-1) r):ai m b r :=
 lG [1,1,1,1,1,3] [.a,.aR [.o,.o,.o,.o,.o,(iI (b-1)),(.row k (ah v)),.o,.o,(.dec true)],.t,.h 1 (iI (b-1)),.aH [0,3]] (HY (br h1) (br h1) (br h1) (aU h2) (br h1) (bm ah h3 h4) (br h1) (br h1) (br h1) (aJ h5) (aU h2)) hL
theorem kA(m:Ws)(b:Int)(k:Nat)(v:UInt32)(u:Nat)(h1:0<b)(h2:az (b-1))(h3:(b-1)=(k:Int))(h4:m[k]? = some v)(h5:v.toNat≠0)(h6:b≠0)(h7:b=(u:Int))(h8:u≤m.length)(h9:(([]:Ws)++(m.take u):Ws).length*4≤140737488355328):ai m b (af (m.take u)) :=
 lD [1,1,1,1,1,3,1,1,1,1,1,6,6,3] [.a,.aR [.o,.o,.o,.o,.o,(iI (b-1)),(.row k (ah v)),.o,.o,(.dec true)],.f,.q,.f,.aR [.o,.o,.o,(.fR 0 u (((m.take u):Ws).map ah)),(.app ((m.take u):Ws).length (((m.take u):Ws).map ah).flatten)],.fF 2 (((m.take u):Ws).map ah)] (NI (br h1) (br h1) (br h1) (aU h2) (br h1) (bm ah h3 h4) (br h1) (br h1) (br h1) (ax h5) (bA h6) (fV aW (m:Ws) h7 h8) (kE aW ([]:Ws) ((m.take u):Ws) 4 (Eq.refl ([]:Ws).length) h9 rfl) (cJ aW ((m.take u):Ws) (Eq.refl ((m.take u):Ws).length)))
theorem uA(m:Ws)(b:Int)(h1:b≤0)(h2:b=0):ai m b (af []) :=
 lD [] [.a,.aR [.o,.o,.o,.skip,.skip,.skip,.skip,.skip,.skip,(.dec false)],.a,.q,.t,.q] (y8 (bu h1) (bu h1) (bu h1) (bu h1) (bu h1) (bu h1) (bu h1) (bQ h2))
end ki
namespace bn
@[reducible] def fn:Func:=Tryz.f173
def a8:List eR:=focus [0,2,0,0,2,1,2,0,0,2,1,2,0,2,0,2,0,2,0,2,0,0,2,0,0] [.code (aP fn)]
def inv1(UA:Int)(up b:List UInt32)(n m:Nat)(v1 v2:UInt32)(J0:Int)(sk so:List UInt32):St:=⟨[(8,(eI UA)),(9,(.pv (af (up.take b.length)))),(10,(.row 55 0 n 1)),(11,(.row 61 0 m 1)),(12,(eU v1.toNat)),(13,(eU v2.toNat)),(14,(eI J0))],[(55,(.pure ((sk:List UInt32).map ah).flatten)),(61,(.pure ((so:List UInt32).map ah).flatten))]⟩
@[reducible] def ai(UA:Int)(up b:List UInt32)(n m:Nat)(v1 v2:UInt32)(J0:Int)(sk so:List UInt32)(r:PV):Prop:=L bp fn a8 (inv1 UA up b n m v1 v2 J0 sk so) r
def qP:List eR:=focus [0,2,0,0,2,1,2,0,0,2,1,2,0,2,0,2,0,2,0,2,0,0,2,0,0,0,0,0,2,0,2,0,0,0,2,0,2,0,2,0,0,0] [.code (aP fn)]
def inv2(UA:Int)(up b:List UInt32)(n m:Nat)(v1 v2:UInt32)(J0:Int)(l u B5 FN:Nat)(sk so:List UInt32):St:=⟨[(8,(eI UA)),(9,(.pv (af (up.take b.length)))),(10,(.row 55 0 n 1)),(11,(.row 61 0 m 1)),(12,(eU v1.toNat)),(13,(eU v2.toNat)),(14,(eI J0)),(15,(.row 55 (0+l*1) (u-l) 1)),(17,(eU B5)),(18,(eU FN))],[(55,(.pure ((sk:List UInt32).map ah).flatten)),(61,(.pure ((so:List UInt32).map ah).flatten))]⟩
@[reducible] def bD(UA:Int)(up b:List UInt32)(n m:Nat)(v1 v2:UInt32)(J0:Int)(l u B5 FN:Nat)(sk so:List UInt32)(r:PV):Prop:=L bp fn qP (inv2 UA up b n m v1 v2 J0 l u B5 FN sk so) r
theorem e0(a b:Ws)(c:Int)(d:Ws)(h1:Cp 104 [af a,af b] (vI c))(h2:c<0)(h3:Cp 172 [af a] (af d)):Cp 173 [af a,af b] (.aF [(af []),af d]) :=
 eD func173 [] [.q,.h 2 (.pv (vI c)),.t,.h 1 (.pv (af d))] (y3 h1 (br h2) h3)
theorem e1(a b:Ws)(c:Int)(v:UInt32)(d:Ws)(g:UInt32)(i:Ws)(h1:Cp 104 [af a,af b] (vI c))(h2:0≤c)(h3:b.length=1)(h4:b[0]? = some v)(h5:Cp 143 [af a,vW v] (.aF [af d,vW g]))(h6:Cp 172 [(af [g])] (af i)):Cp 173 [af a,af b] (.aF [af d,af i]) :=
 eD func173 [1,1,1,1,3,1,3] [.q,.h 2 (.pv (vI c)),.f,.h 1 (iL b),.t,.aR [.o,.o,(.row 0 (ah v)),.o,(.pv (.aF [af d,vW g]))],.aR [.o,.o,(.fR 0 0 (([g]:Ws).map ah)),(.pv (af i))]] (y8 h1 (bu h2) (ak ah b) (aJ h3) (bm ah (Eq.refl (0:Int)) h4) h5 (oB aW ([g]:Ws)) h6)
theorem e2(a b:Ws)(c:Int)(k:Nat)(v:UInt32)(d:Int)(up z:Ws)(n m k1:Nat)(v1:UInt32)(k2:Nat)(v2:UInt32){r:PV}(h1:Cp 104 [af a,af b] (vI c))(h2:0≤c)(h3:b.length≠1)(h4:az ((b.length:Int)-1))(h5:((b.length:Int)-1)=(k:Int))(h6:b[k]? = some v)(h7:Cp 218 [vW v] (vI d))(h8:Cp 219 [af b,vI d] (af up))(h9:b.length≤up.length)(cw:au bp 219 [.pv (af a),.pv (vI d)] [] (.row 0 0 n 1) [(0,(pW z))])(fg:az ((n:Int)-(((up.take b.length).length:Nat):Int)))(iC:((n:Int)-(((up.take b.length).length:Nat):Int))=(m:Int))(mn:4*m≤140737488355328)(qR:az ((((up.take b.length).length:Nat):Int)-1))(mS:((((up.take b.length).length:Nat):Int)-1)=(k1:Int))(qX:(up.take b.length)[k1]? = some v1)(v7:az ((((up.take b.length).length:Nat):Int)-2))(Er:((((up.take b.length).length:Nat):Int)-2)=(k2:Int))(B6:(up.take b.length)[k2]? = some v2)(J1:az ((m:Int)-1))(hL:ai d up b n m v1 v2 ((m:Int)-1) z (List.replicate m (0:UInt32)) r):Cp 173 [af a,af b] r :=
 eG func173 [1,1,1,1,1,1,3,1,1,1,6,1,1,1,5,1,1,3,1,1,1,3] [.q,.h 2 (.pv (vI c)),.f,.h 1 (iL b),.f,.aR [.o,.o,(iL b),(iI ((b.length:Int)-1)),(.row k (ah v)),.o,(.pv (vI d))],dr 9 2 [.none,.none,(.pv (af up)),.none,(iL b),(.fR 0 b.length (((up.take b.length):Ws).map ah)),.none,.none,(.bG [] (some (0,55)) (.row 0 0 n 1) [(0,(pW z))])],.aR [.o,.o,.o,(iI (((up.take b.length).length:Nat):Int)),(iI ((n:Int)-(((up.take b.length).length:Nat):Int))),(.app m ((List.replicate m (0:UInt32):Ws).map ah).flatten)],dr 15 1 [.none,.none,(iI (((up.take b.length).length:Nat):Int)),(iI ((((up.take b.length).length:Nat):Int)-1)),(.row k1 (ah v1)),.none,iU v1.toNat,.none,.none,(iI (((up.take b.length).length:Nat):Int)),(iI ((((up.take b.length).length:Nat):Int)-2)),(.row k2 (ah v2)),.none,iU v2.toNat],.h 2 (iI ((m:Int)-1)),.aH [8,9,10,11,12,13,14],.ord [55,61]] (Wf h1 (bu h2) (ak ah b) (ax h3) (ak ah b) (aU h4) (bm ah h5 h6) h7 h8 (ak ah b) (fV aW (up:Ws) (rN b.length) h9) cw (ak ah (up.take b.length)) (aU fg) (tH ah 0 4 m iC mn rfl) (ak ah (up.take b.length)) (aU qR) (bm ah mS qX) (nN v1) (ak ah (up.take b.length)) (aU v7) (bm ah Er B6) (nN v2) (aU J1)) hL
theorem l10(c:Int)(up b:Ws)(n m:Nat)(v1 v2:UInt32)(d:Int)(g i:Ws)(l u:Nat)(v:UInt32)(z k:Nat)(v3:UInt32)(z1 q m1:Nat){r:PV}(h1:0≤d)(h2:az (d+(((up.take b.length).length:Nat):Int)))(h3:az ((d+(((up.take b.length).length:Nat):Int))+1))(h4:d=(l:Int))(h5:((d+(((up.take b.length).length:Nat):Int))+1)=(u:Int))(h6:l=0∨l<u)(h7:l≤u)(h8:u≤n)(h9:(up.take b.length).length<(u-l))(cw:g[(0+l*1)+((up.take b.length).length)]? = some v)(fg:(v.toNat*2^(min 32 64))%18446744073709551616=z)(iC:az ((((up.take b.length).length:Nat):Int)-1))(mn:((((up.take b.length).length:Nat):Int)-1)=(k:Int))(qR:k<(u-l))(mS:g[(0+l*1)+k]? = some v3)(qX:(z%18446744073709551616) ||| (v3.toNat%18446744073709551616)=z1)(v7:v1.toNat≠0)(Er:(z1/v1.toNat)%18446744073709551616=q)(B6:z1%v1.toNat=m1)(hL:bD c up b n m v1 v2 d l u q m1 g i r):ai c up b n m v1 v2 d g i r :=
 lG [1,1,1,1,5,1,2,1,1,1,1,1,2] [.a,.q,.t,.aR [.o,.o,.o,.o,(iI (((up.take b.length).length:Nat):Int)),(iI (d+(((up.take b.length).length:Nat):Int))),(iI ((d+(((up.take b.length).length:Nat):Int))+1)),(.fR l u [])],dr 15 1 [.none,.none,(iI (((up.take b.length).length:Nat):Int)),(.nat ((up.take b.length).length)),(.ev (.pv (vW v))),iU v.toNat,iU z,.none,.none,(iI (((up.take b.length).length:Nat):Int)),(iI ((((up.take b.length).length:Nat):Int)-1)),(.nat k),(.ev (.pv (vW v3))),iU v3.toNat,iU z1],dr 7 1 [.none,.none,iU q,.none,.none,iU m1],.aH [8,9,10,11,12,13,14,15,17,18]] (Uu (bN h1) (ak ah (up.take b.length)) (vT h2) (vT h3) (W9 h4 h5 h6 h7 h8) (ak ah (up.take b.length)) (cj (Eq.refl ((((up.take b.length).length:Nat):Int):Int)) h9) (vV (enc:=ah) (f:=fun a=>(vW a)) (fun _=>rfl) cw) (nN v) (iP (k := .u64) fg) (ak ah (up.take b.length)) (aU iC) (cj mn qR) (vV (enc:=ah) (f:=fun a=>(vW a)) (fun _=>rfl) mS) (nN v3) (nc qX) (BQ v7 Er) (BR v7 B6)) hL
theorem c9(c:Int)(up b:Ws)(n m:Nat)(v1 v2:UInt32)(d:Int)(g i j k:Ws)(h1:d<0)(h2:m=i.length)(h3:n=g.length)(h4:Cp 172 [af i] (af j))(h5:Cp 222 [af g,vI c] (af k)):ai c up b n m v1 v2 d g i (.aF [af j,af k]) :=
 lD [1,3,3] [.a,.q,.f,.fF 11 ((i:Ws).map ah),.fF 10 ((g:Ws).map ah),.aR [.o,(.pv (af j)),.o,.o,(.pv (af k))]] (y5 (fY h1) (cJ aW (i:Ws) h2) (cJ aW (g:Ws) h3) h4 h5)
theorem BZ(c:Int)(up b:Ws)(n m:Nat)(v1 v2:UInt32)(g:Int)(l u i j:Nat)(k p:Ws)(d s:Nat){r:PV}(h1:j<4294967296)(h2:4294967296≤i)(h3:((i:Nat)-(1:Nat):Int)%18446744073709551616=(d:Int))(h4:(j+v1.toNat)%18446744073709551616=s)(hL:bD c up b n m v1 v2 g l u d s k p r):bD c up b n m v1 v2 g l u i j k p r :=
 lG [] [.a,.aR [.o,.o,.o,.o,.o,.o,.skip,.skip,.skip,.skip,.skip,.skip,.skip,.skip,.skip,.skip,.skip,.skip,.skip,.skip,(.dec true),(.dec true)],.a,.h 1 (iU d),.h 2 (iU s),.aH [8,9,10,11,12,13,14,15,17,18]] (y22 (aj h1) (aj h1) (aj h1) (cH h2) (cH h2) (cH h2) (cH h2) (cH h2) (cH h2) (cH h2) (cH h2) (cH h2) (cH h2) (cH h2) (cH h2) (cH h2) (cH h2) (aj h1) (cH h2) (aj h1) (di h3) (dD h4)) hL
theorem FM(c:Int)(up b:Ws)(n m:Nat)(v1 v2:UInt32)(g:Int)(l u i j:Nat)(q w:Ws)(p z k:Nat)(v:UInt32)(z1 d s:Nat){r:PV}(h1:j<4294967296)(h2:i<4294967296)(h3:(i*v2.toNat)%18446744073709551616=p)(h4:(j*2^(min 32 64))%18446744073709551616=z)(h5:az ((((up.take b.length).length:Nat):Int)-2))(h6:((((up.take b.length).length:Nat):Int)-2)=(k:Int))(h7:k<(u-l))(h8:q[(0+l*1)+k]? = some v)(h9:(z%18446744073709551616) ||| (v.toNat%18446744073709551616)=z1)(cw:z1<p)(fg:((i:Nat)-(1:Nat):Int)%18446744073709551616=(d:Int))(iC:(j+v1.toNat)%18446744073709551616=s)(hL:bD c up b n m v1 v2 g l u d s q w r):bD c up b n m v1 v2 g l u i j q w r :=
 lG [1,1,1,1,1,1,1,1,1,1,1,1,1,1,1,1,1,2] [.a,.aR [.o,.o,.o,.o,.o,.o,.o,.o,iU p,.o,iU z,.o,.o,(iI (((up.take b.length).length:Nat):Int)),(iI ((((up.take b.length).length:Nat):Int)-2)),(.nat k),(.ev (.pv (vW v))),iU v.toNat,iU z1,.o,(.dec false),(.dec true)],.t,.h 1 (iU d),.h 2 (iU s),.aH [8,9,10,11,12,13,14,15,17,18]] (y31 (aj h1) (aj h1) (aj h1) (bh h2) (bh h2) (bh h2) (mZ h3) (bh h2) (bh h2) (iP (k := .u64) h4) (bh h2) (bh h2) (bh h2) (ak ah (up.take b.length)) (bh h2) (aU h5) (bh h2) (cj h6 h7) (bh h2) (vV (enc:=ah) (f:=fun a=>(vW a)) (fun _=>rfl) h8) (bh h2) (nN v) (bh h2) (nc h9) (bh h2) (aj h1) (bh h2) (aj h1) (aj cw) (di fg) (dD iC)) hL
theorem RC(c:Int)(up b:Ws)(n m:Nat)(v1 v2:UInt32)(g:Int)(l u i j:Nat)(q s:Ws)(p z k:Nat)(v:UInt32)(z1:Nat)(z2:Ws)(x:Bool)(d:Nat)(z3:Ws)(w:UInt32)(k1:Nat){r:PV}(h1:j<4294967296)(h2:i<4294967296)(h3:(i*v2.toNat)%18446744073709551616=p)(h4:(j*2^(min 32 64))%18446744073709551616=z)(h5:az ((((up.take b.length).length:Nat):Int)-2))(h6:((((up.take b.length).length:Nat):Int)-2)=(k:Int))(h7:k<(u-l))(h8:q[(0+l*1)+k]? = some v)(h9:(z%18446744073709551616) ||| (v.toNat%18446744073709551616)=z1)(cw:p≤z1)(fg:au bp 220 [.row 100000 (0+l*1) (u-l) 1,.pv (af (up.take b.length)),.pv (vU i)] [(100000,(pW q))] (.pv (vB x)) [(100000,(pW z2))])(iC:x=true)(mn:((i:Nat)-(1:Nat):Int)%18446744073709551616=(d:Int))(qR:au bp 221 [.row 100000 (0+l*1) (u-l) 1,.pv (af (up.take b.length))] [(100000,(pW z2))] (.pv (.aF [])) [(100000,(pW z3))])(mS:d%4294967296=w.toNat)(qX:g=(k1:Int))(v7:k1<m)(Er:k1<s.length)(B6:az (g-1))(hL:ai c up b n m v1 v2 (g-1) z3 (s.set k1 w) r):bD c up b n m v1 v2 g l u i j q s r :=
 lG [1,1,1,1,1,1,1,1,1,1,1,1,1,1,1,1,1,2,1,1,1,1,1,1,1,1,1,1,1,1,1,1,1,1,2,2] [.a,.aR [.o,.o,.o,.o,.o,.o,.o,.o,iU p,.o,iU z,.o,.o,(iI (((up.take b.length).length:Nat):Int)),(iI ((((up.take b.length).length:Nat):Int)-2)),(.nat k),(.ev (.pv (vW v))),iU v.toNat,iU z1,.o,(.dec false),(.dec true)],.f,.h 3 (.bG [(55,100000)] none (.pv (vB x)) [(100000,(pW z2))]),.t,.h 1 (iU d),.h 2 (.bG [(55,100000)] none (.pv (.aF [])) [(100000,(pW z3))]),.aR [.o,.o,.o,iW w,(.nat k1),(.cells (.pure (((s.set k1 w):Ws).map ah).flatten))],.h 1 (iI (g-1)),.aH [8,9,10,11,12,13,14]] (y37 (aj h1) (aj h1) (aj h1) (bh h2) (bh h2) (bh h2) (mZ h3) (bh h2) (bh h2) (iP (k := .u64) h4) (bh h2) (bh h2) (bh h2) (ak ah (up.take b.length)) (bh h2) (aU h5) (bh h2) (cj h6 h7) (bh h2) (vV (enc:=ah) (f:=fun a=>(vW a)) (fun _=>rfl) h8) (bh h2) (nN v) (bh h2) (nc h9) (bh h2) (aj h1) (bh h2) (aj h1) (aq cw) fg iC (di mn) qR (cC mS) (cj qX v7) (gV aW (s:Ws) w Er) (aU B6)) hL
theorem l23(c:Int)(up b:Ws)(n m:Nat)(v1 v2:UInt32)(d:Int)(l u g i:Nat)(j q:Ws)(p z k:Nat)(v:UInt32)(z1:Nat)(z2:Ws)(s:Bool)(w:UInt32)(k1:Nat){r:PV}(h1:i<4294967296)(h2:g<4294967296)(h3:(g*v2.toNat)%18446744073709551616=p)(h4:(i*2^(min 32 64))%18446744073709551616=z)(h5:az ((((up.take b.length).length:Nat):Int)-2))(h6:((((up.take b.length).length:Nat):Int)-2)=(k:Int))(h7:k<(u-l))(h8:j[(0+l*1)+k]? = some v)(h9:(z%18446744073709551616) ||| (v.toNat%18446744073709551616)=z1)(cw:p≤z1)(fg:au bp 220 [.row 100000 (0+l*1) (u-l) 1,.pv (af (up.take b.length)),.pv (vU g)] [(100000,(pW j))] (.pv (vB s)) [(100000,(pW z2))])(iC:s=false)(mn:g%4294967296=w.toNat)(qR:d=(k1:Int))(mS:k1<m)(qX:k1<q.length)(v7:az (d-1))(hL:ai c up b n m v1 v2 (d-1) z2 (q.set k1 w) r):bD c up b n m v1 v2 d l u g i j q r :=
 lG [1,1,1,1,1,1,1,1,1,1,1,1,1,1,1,1,1,2,1,1,1,1,1,1,1,1,1,1,1,1,1,1,2,2] [.a,.aR [.o,.o,.o,.o,.o,.o,.o,.o,iU p,.o,iU z,.o,.o,(iI (((up.take b.length).length:Nat):Int)),(iI ((((up.take b.length).length:Nat):Int)-2)),(.nat k),(.ev (.pv (vW v))),iU v.toNat,iU z1,.o,(.dec false),(.dec true)],.f,.h 3 (.bG [(55,100000)] none (.pv (vB s)) [(100000,(pW z2))]),.f,.aR [.o,.o,.o,iW w,(.nat k1),(.cells (.pure (((q.set k1 w):Ws).map ah).flatten))],.h 1 (iI (d-1)),.aH [8,9,10,11,12,13,14]] (y35 (aj h1) (aj h1) (aj h1) (bh h2) (bh h2) (bh h2) (mZ h3) (bh h2) (bh h2) (iP (k := .u64) h4) (bh h2) (bh h2) (bh h2) (ak ah (up.take b.length)) (bh h2) (aU h5) (bh h2) (cj h6 h7) (bh h2) (vV (enc:=ah) (f:=fun a=>(vW a)) (fun _=>rfl) h8) (bh h2) (nN v) (bh h2) (nc h9) (bh h2) (aj h1) (bh h2) (aj h1) (aq cw) fg iC (cC mn) (cj qR mS) (gV aW (q:Ws) w qX) (aU v7)) hL
theorem l24(c:Int)(up b:Ws)(n m:Nat)(v1 v2:UInt32)(g:Int)(l u i j:Nat)(p q z:Ws)(s:Bool)(d:Nat)(z1:Ws)(w:UInt32)(k:Nat){r:PV}(h1:4294967296≤j)(h2:au bp 220 [.row 100000 (0+l*1) (u-l) 1,.pv (af (up.take b.length)),.pv (vU i)] [(100000,(pW p))] (.pv (vB s)) [(100000,(pW z))])(h3:s=true)(h4:((i:Nat)-(1:Nat):Int)%18446744073709551616=(d:Int))(h5:au bp 221 [.row 100000 (0+l*1) (u-l) 1,.pv (af (up.take b.length))] [(100000,(pW z))] (.pv (.aF [])) [(100000,(pW z1))])(h6:d%4294967296=w.toNat)(h7:g=(k:Int))(h8:k<m)(h9:k<q.length)(cw:az (g-1))(hL:ai c up b n m v1 v2 (g-1) z1 (q.set k w) r):bD c up b n m v1 v2 g l u i j p q r :=
 lG [1,1,1,1,1,1,1,1,1,1,2,2] [.a,.aR [.o,.o,.o,.skip,.skip,.skip,.skip,.skip,.skip,.skip,.skip,.skip,.skip,.skip,.skip,.skip,.skip,.skip,.skip,.skip,.skip,(.dec false)],.a,.h 3 (.bG [(55,100000)] none (.pv (vB s)) [(100000,(pW z))]),.t,.h 1 (iU d),.h 2 (.bG [(55,100000)] none (.pv (.aF [])) [(100000,(pW z1))]),.aR [.o,.o,.o,iW w,(.nat k),(.cells (.pure (((q.set k w):Ws).map ah).flatten))],.h 1 (iI (g-1)),.aH [8,9,10,11,12,13,14]] (JV (aq h1) (aq h1) (aq h1) (aq h1) (aq h1) h2 h3 (di h4) h5 (cC h6) (cj h7 h8) (gV aW (q:Ws) w h9) (aU cw)) hL
theorem l25(c:Int)(up b:Ws)(n m:Nat)(v1 v2:UInt32)(d:Int)(l u g i:Nat)(j p z:Ws)(q:Bool)(w:UInt32)(k:Nat){r:PV}(h1:4294967296≤i)(h2:au bp 220 [.row 100000 (0+l*1) (u-l) 1,.pv (af (up.take b.length)),.pv (vU g)] [(100000,(pW j))] (.pv (vB q)) [(100000,(pW z))])(h3:q=false)(h4:g%4294967296=w.toNat)(h5:d=(k:Int))(h6:k<m)(h7:k<p.length)(h8:az (d-1))(hL:ai c up b n m v1 v2 (d-1) z (p.set k w) r):bD c up b n m v1 v2 d l u g i j p r :=
 lG [1,1,1,1,1,1,1,1,2,2] [.a,.aR [.o,.o,.o,.skip,.skip,.skip,.skip,.skip,.skip,.skip,.skip,.skip,.skip,.skip,.skip,.skip,.skip,.skip,.skip,.skip,.skip,(.dec false)],.a,.h 3 (.bG [(55,100000)] none (.pv (vB q)) [(100000,(pW z))]),.f,.aR [.o,.o,.o,iW w,(.nat k),(.cells (.pure (((p.set k w):Ws).map ah).flatten))],.h 1 (iI (d-1)),.aH [8,9,10,11,12,13,14]] (HY (aq h1) (aq h1) (aq h1) (aq h1) (aq h1) h2 h3 (cC h4) (cj h5 h6) (gV aW (p:Ws) w h7) (aU h8)) hL
end bn
namespace sq
theorem e0(m:Ws)(i:Int)(k:Nat)(v:UInt32)(h1:i<(m.length:Int))(h2:i=(k:Int))(h3:m[k]? = some v):Cp 189 [af m,vI i] (vU v.toNat) :=
 eD func189 [1,1,3] [.q,.h 2 (iL m),.t,.aR [.o,.o,(.row k (ah v)),.o,iU v.toNat]] (y4 (ak ah m) (br h1) (bm ah h2 h3) (nN v))
theorem e1(m:Ws)(i:Int)(h1:(m.length:Int)≤i):Cp 189 [af m,vI i] (vU 0) :=
 eD func189 [] [.q,.h 2 (iL m),.f,.q] (y2 (ak ah m) (bu h1))
end sq
namespace kP
theorem e0(x:UInt32)(a:Int)(h1:Cp 238 [vW x] (vI a))(h2:az (32-a)):Cp 218 [vW x] (vI (32-a)) :=
 eD func218 [] [.q,.aR [.o,(.pv (vI a)),(iI (32-a))]] (y2 h1 (aU h2))
end kP
namespace pf
@[reducible] def fn:Func:=Tryz.f219
def a8:List eR:=focus [0,2,0,2,0,0,2,0,0] [.code (aP fn)]
def inv1(n:Int)(a:List UInt32)(v8:Nat)(sr:List UInt32):St:=⟨[(1,(eI n)),(5,(.row 12 0 (a.length+1) 1)),(13,(.pv (af a))),(14,(eI (a.length:Int))),(15,(eI (v8:Int)))],[(12,(.pure ((sr:List UInt32).map ah).flatten))]⟩
@[reducible] def ai(n:Int)(a:List UInt32)(v8:Nat)(sr:List UInt32)(r:PV):Prop:=L bp fn a8 (inv1 n a v8 sr) r
theorem e0(a:Ws)(n:Int){r:PV}(h1:(a.length+1)<9223372036854775808)(h2:4*(a.length+1)≤140737488355328)(hL:ai n a 0 (List.replicate (a.length+1) (0:UInt32)) r):Cp 219 [af a,vI n] r :=
 eG func219 [1,1,5] [.q,.aR [.o,(iL a),(iI (((a.length+1):Nat):Int)),(.app (a.length+1) ((List.replicate (a.length+1) (0:UInt32):Ws).map ah).flatten)],.h 1 (iL a),.aH [1,5,13,14,15]] (y4 (ak ah a) (aL h1) (tH ah 0 4 (a.length+1) (rN (a.length+1)) h2 rfl) (ak ah a)) hL
theorem l10(n:Int)(a:Ws)(b:Nat)(c:Ws)(v:UInt32)(k z:Nat)(v1 w z1:UInt32)(z2:Nat)(w1:UInt32){r:PV}(h1:b<a.length)(h2:a[b]? = some v)(h3:n=(k:Int))(h4:(v.toNat*2^(min k 64))%18446744073709551616=z)(h5:b<(a.length+1))(h6:c[b]? = some v1)(h7:z%4294967296=w.toNat)(h8:(v1.toNat%4294967296) ||| (w.toNat%4294967296)=z1.toNat)(h9:b<c.length)(cw:(b+1)<9223372036854775808)(fg:z/2^(min 32 64)=z2)(iC:z2%4294967296=w1.toNat)(mn:(b+1)<(a.length+1))(qR:(b+1)<(c.set b z1).length)(hL:ai n a (b+1) ((c.set b z1).set (b+1) w1) r):ai n a b c r :=
 lG [1,3,1,1,2,1,1,1,2,2,1,1,1,2,2] [.a,.q,.t,.h 1 (.row b (ah v)),.aR [.o,iU v.toNat,.o,iU z],.aR [.o,.o,(.nat b),(.ev (.pv (vW v1))),.o,iW w,iW z1,(.nat b),(.cells (.pure (((c.set b z1):Ws).map ah).flatten))],.aR [.o,.o,(iI (((b+1):Nat):Int)),.o,iU z2,iW w1,(.nat (b+1)),(.cells (.pure ((((c.set b z1).set (b+1) w1):Ws).map ah).flatten))],.h 0 (iI (((b+1):Nat):Int)),.aH [1,5,13,14,15]] (Lj (aj h1) (bm ah (rN b) h2) (nN v) (RA h3 (iP (k := .i64) h4)) (cj (rN b) h5) (gr (enc:=ah) (f:=fun a=>(vW a)) (fun _=>rfl) h6) (cC h7) (uy h8) (cj (rN b) h5) (gV aW (c:Ws) z1 h9) (aL cw) (cN (k := .u64) fg) (cC iC) (cj (rN (b+1)) mn) (gV aW ((c.set b z1):Ws) w1 qR) (aL cw)) hL
theorem c9(n:Int)(a:Ws)(b:Nat)(c:Ws)(h1:a.length≤b)(h2:(a.length+1)=c.length):ai n a b c (af c) :=
 lD [1,3] [.a,.q,.f,.q,.fF 4 ((c:Ws).map ah)] (y2 (aq h1) (cJ aW (c:Ws) h2))
end pf
namespace nQ
@[reducible] def fn:Func:=Tryz.f219
def a8:List eR:=focus [0,2,0,2,0,0,2,0,0] [.code (aP fn)]
def inv1(n:Int)(a:List UInt32)(v8:Nat)(sr:List UInt32):St:=⟨[(1,(eI n)),(5,(.row 12 0 (a.length+1) 1)),(13,(.pv (af a))),(14,(eI (a.length:Int))),(15,(eI (v8:Int)))],[(12,(.pure ((sr:List UInt32).map ah).flatten))]⟩
@[reducible] def ai(n:Int)(a:List UInt32)(v8:Nat)(sr:List UInt32)(sin:aS)(r:EV)(sout:aS):Prop:=LX bp fn a8 (inv1 n a v8 sr) sin r sout
theorem e0(a:Ws)(n:Int){r:EV}{sout:aS}(h1:(a.length+1)<9223372036854775808)(h2:4*(a.length+1)≤140737488355328)(hL:ai n a 0 (List.replicate (a.length+1) (0:UInt32)) [] r sout):au bp 219 [(.pv (af a)),eI n] [] r sout :=
 NH func219 [1,1,5] [.q,.aR [.o,(iL a),(iI (((a.length+1):Nat):Int)),(.app (a.length+1) ((List.replicate (a.length+1) (0:UInt32):Ws).map ah).flatten)],.h 1 (iL a),.aH [1,5,13,14,15]] (y4 (ak ah a) (aL h1) (tH ah 0 4 (a.length+1) (rN (a.length+1)) h2 rfl) (ak ah a)) hL
theorem l10(n:Int)(a:Ws)(b:Nat)(c:Ws)(v:UInt32)(k z:Nat)(v1 w z1:UInt32)(z2:Nat)(w1:UInt32){r:EV}{sout:aS}{sin:aS}(hs:kF fn sin)(h1:b<a.length)(h2:a[b]? = some v)(h3:n=(k:Int))(h4:(v.toNat*2^(min k 64))%18446744073709551616=z)(h5:b<(a.length+1))(h6:c[b]? = some v1)(h7:z%4294967296=w.toNat)(h8:(v1.toNat%4294967296) ||| (w.toNat%4294967296)=z1.toNat)(h9:b<c.length)(cw:(b+1)<9223372036854775808)(fg:z/2^(min 32 64)=z2)(iC:z2%4294967296=w1.toNat)(mn:(b+1)<(a.length+1))(qR:(b+1)<(c.set b z1).length)(hL:ai n a (b+1) ((c.set b z1).set (b+1) w1) sin r sout):ai n a b c sin r sout :=
 Li [1,3,1,1,2,1,1,1,2,2,1,1,1,2,2] [.a,.q,.t,.h 1 (.row b (ah v)),.aR [.o,iU v.toNat,.o,iU z],.aR [.o,.o,(.nat b),(.ev (.pv (vW v1))),.o,iW w,iW z1,(.nat b),(.cells (.pure (((c.set b z1):Ws).map ah).flatten))],.aR [.o,.o,(iI (((b+1):Nat):Int)),.o,iU z2,iW w1,(.nat (b+1)),(.cells (.pure ((((c.set b z1).set (b+1) w1):Ws).map ah).flatten))],.h 0 (iI (((b+1):Nat):Int)),.aH [1,5,13,14,15]] hs (Lj (aj h1) (bm ah (rN b) h2) (nN v) (RA h3 (iP (k := .i64) h4)) (cj (rN b) h5) (gr (enc:=ah) (f:=fun a=>(vW a)) (fun _=>rfl) h6) (cC h7) (uy h8) (cj (rN b) h5) (gV aW (c:Ws) z1 h9) (aL cw) (cN (k := .u64) fg) (cC iC) (cj (rN (b+1)) mn) (gV aW ((c.set b z1):Ws) w1 qR) (aL cw)) hL
theorem c9(n:Int)(a:Ws)(b:Nat)(c:Ws){sin:aS}(hs:kF fn sin)(hi:sin.all (fun p=>vJ p.1||(aS.get [(0,(.pure (((c.take (a.length+1)):Ws).map ah).flatten))] p.1).isSome)=true)(h1:a.length≤b):ai n a b c sin (.row 0 0 (a.length+1) 1) [(0,(.pure (((c.take (a.length+1)):Ws).map ah).flatten))] :=
 FI [] [.a,.q,.f,.q,.rJ 12 0,.cut 0 ((a.length+1)*1) (((c.take (a.length+1)):Ws).map ah).flatten,.ord [0]] hs hi (y2 (aq h1) (xm aW (c:Ws) (a.length+1)))
end nQ
namespace jT
@[reducible] def fn:Func:=Tryz.f220
def a8:List eR:=focus [0,2,0,2,0,0,2,0,0] [.code (aP fn)]
def inv1(off len:Nat)(v:List UInt32)(n ss B7 B8:Nat)(bw:List UInt32):St:=⟨[(0,(.row 100000 off len 1)),(1,(.pv (af v))),(2,(eU n)),(7,(eU ss)),(8,(eU B7)),(12,(eI (len:Int))),(13,(eI (B8:Int)))],[(100000,(.pure ((bw:List UInt32).map ah).flatten))]⟩
@[reducible] def ai(off len:Nat)(v:List UInt32)(n ss B7 B8:Nat)(bw:List UInt32)(sin:aS)(r:EV)(sout:aS):Prop:=LX bp fn a8 (inv1 off len v n ss B7 B8 bw) sin r sout
theorem e0 (u : Ws) (a b : Nat) (v : Ws) (n : Nat) {r : EV} {sout : aS}  (hL : ai a b v n 0 0 0 u [(100000, (pW u))] r sout) : au bp 220 [(.row 100000 a b 1), (.pv (af v)), eU n] [(100000, (pW u))] r sout :=
 NH func220 [] [.q,.q,.q,.aH [0,1,2,7,8,12,13]] True.intro hL
theorem l10(b c:Nat)(v:Ws)(n g i j:Nat)(l:Ws)(m p s:Nat)(v1 w:UInt32)(d d1:Nat)(w1:UInt32)(z z1:Nat){r:EV}{sout:aS}{sin:aS}(hs:kF fn sin)(h1:j<c)(h2:Cp 189 [af v,(vI (j:Int))] (vU m))(h3:(n*m)%18446744073709551616=p)(h4:(g+p)%18446744073709551616=s)(h5:l[b+j]? = some v1)(h6:s%4294967296=w.toNat)(h7:((v1.toNat:Nat)-(w.toNat:Nat):Int)%18446744073709551616=(d:Int))(h8:((d:Nat)-(i:Nat):Int)%18446744073709551616=(d1:Int))(h9:d1%4294967296=w1.toNat)(cw:(b+j)<l.length)(fg:d1/2^(min 63 64)=z)(iC:s/2^(min 32 64)=z1)(mn:(j+1)<9223372036854775808)(hL:ai b c v n z1 z (j+1) (l.set (b+j) w1) sin r sout):ai b c v n g i j l sin r sout :=
 Li [1,1,1,1,2,1,1,1,1,1,1,1,2,2] [.a,.q,.t,.q,.aR [.o,.o,.o,.o,(.pv (vU m)),iU p,iU s],.aR [.o,.o,(.nat j),(.ev (.pv (vW v1))),iU v1.toNat,.o,iW w,iU w.toNat,iU d,.o,iU d1],.aR [.o,.o,.o,iW w1,(.nat j),(.cells (.pure (((l.set (b+j) w1):Ws).map ah).flatten))],.h 1 (iU z),.h 1 (iU z1),.h 0 (iI (((j+1):Nat):Int)),.aH [0,1,2,7,8,12,13]] hs (QN (aj h1) h2 (mZ h3) (dD h4) (cj (rN j) h1) (vV (enc:=ah) (f:=fun a=>(vW a)) (fun _=>rfl) h5) (nN v1) (cC h6) (nN w) (di h7) (di h8) (cC h9) (cj (rN j) h1) (OS aW (l:Ws) w1 b j cw) (cN (k := .u64) fg) (cN (k := .u64) iC) (aL mn)) hL
theorem c9(b c:Nat)(v:Ws)(n d g i:Nat)(j:Ws){sin:aS}(hs:kF fn sin)(hi:sin.all (fun p=>vJ p.1||(aS.get [(100000,(pW j))] p.1).isSome)=true)(h1:c≤i):ai b c v n d g i j sin (.pv (vB ((g:Int)==1))) [(100000,(pW j))] :=
 FI [] [.a,.q,.f,.q,.ord [100000]] hs hi (y1 (aq h1))
end jT
namespace mu
@[reducible] def fn:Func:=Tryz.f221
def a8:List eR:=focus [0,2,0,2,0,0] [.code (aP fn)]
def inv1(off len:Nat)(v:List UInt32)(FO xo:Nat)(bw:List UInt32):St:=⟨[(0,(.row 100000 off len 1)),(1,(.pv (af v))),(4,(eU FO)),(7,(eI (len:Int))),(8,(eI (xo:Int)))],[(100000,(.pure ((bw:List UInt32).map ah).flatten))]⟩
@[reducible] def ai(off len:Nat)(v:List UInt32)(FO xo:Nat)(bw:List UInt32)(sin:aS)(r:EV)(sout:aS):Prop:=LX bp fn a8 (inv1 off len v FO xo bw) sin r sout
theorem e0 (u : Ws) (a b : Nat) (v : Ws) {r : EV} {sout : aS}  (hL : ai a b v 0 0 u [(100000, (pW u))] r sout) : au bp 221 [(.row 100000 a b 1), (.pv (af v))] [(100000, (pW u))] r sout :=
 NH func221 [] [.q,.q,.aH [0,1,4,7,8]] True.intro hL
theorem l10(b c:Nat)(v:Ws)(d g:Nat)(i:Ws)(v1:UInt32)(j s s1:Nat)(w:UInt32)(z:Nat){r:EV}{sout:aS}{sin:aS}(hs:kF fn sin)(h1:g<c)(h2:i[b+g]? = some v1)(h3:Cp 189 [af v,(vI (g:Int))] (vU j))(h4:(v1.toNat+j)%18446744073709551616=s)(h5:(d+s)%18446744073709551616=s1)(h6:s1%4294967296=w.toNat)(h7:(b+g)<i.length)(h8:s1/2^(min 32 64)=z)(h9:(g+1)<9223372036854775808)(hL:ai b c v z (g+1) (i.set (b+g) w) sin r sout):ai b c v d g i sin r sout :=
 Li [1,2,1,1,1,1,1,1,2,2] [.a,.q,.t,.q,dr 11 1 [.none,.none,.none,(.nat g),(.ev (.pv (vW v1))),iU v1.toNat,.none,.none,(.pv (vU j)),iU s,iU s1],.aR [.o,.o,.o,iW w,(.nat g),(.cells (.pure (((i.set (b+g) w):Ws).map ah).flatten))],.h 1 (iU z),.h 0 (iI (((g+1):Nat):Int)),.aH [0,1,4,7,8]] hs (Jd (aj h1) (cj (rN g) h1) (vV (enc:=ah) (f:=fun a=>(vW a)) (fun _=>rfl) h2) (nN v1) h3 (dD h4) (dD h5) (cC h6) (cj (rN g) h1) (OS aW (i:Ws) w b g h7) (cN (k := .u64) h8) (aL h9)) hL
theorem c9(b c:Nat)(v:Ws)(d g:Nat)(i:Ws){sin:aS}(hs:kF fn sin)(hi:sin.all (fun p=>vJ p.1||(aS.get [(100000,(pW i))] p.1).isSome)=true)(h1:c≤g):ai b c v d g i sin (.pv (.aF [])) [(100000,(pW i))] :=
 FI [] [.a,.q,.f,.ord [100000]] hs hi (y1 (aq h1))
end mu
namespace mv
@[reducible] def fn:Func:=Tryz.f222
def a8:List eR:=focus [0,2,0,2,0,0,2,0,0] [.code (aP fn)]
def inv1(a:List UInt32)(n:Int)(J2:Nat)(iV:List UInt32):St:=⟨[(0,(.pv (af a))),(1,(eI n)),(5,(.row 9 0 a.length 1)),(11,(eI (a.length:Int))),(12,(eI (J2:Int)))],[(9,(.pure ((iV:List UInt32).map ah).flatten))]⟩
@[reducible] def ai(a:List UInt32)(n:Int)(J2:Nat)(iV:List UInt32)(r:PV):Prop:=L bp fn a8 (inv1 a n J2 iV) r
theorem e0(a:Ws)(n:Int){r:PV}(h1:4*a.length≤140737488355328)(hL:ai a n 0 (List.replicate a.length (0:UInt32)) r):Cp 222 [af a,vI n] r :=
 eG func222 [1,5] [.q,.aR [.o,(iL a),(.app a.length ((List.replicate a.length (0:UInt32):Ws).map ah).flatten)],.h 1 (iL a),.aH [0,1,5,11,12]] (y3 (ak ah a) (tH ah 0 4 a.length (rN a.length) h1 rfl) (ak ah a)) hL
theorem l10(a:Ws)(n:Int)(b:Nat)(c:Ws)(v:UInt32)(d z z1 k z2:Nat)(w:UInt32){r:PV}(h1:b<a.length)(h2:a[b]? = some v)(h3:(b+1)<9223372036854775808)(h4:Cp 189 [af a,(vI (((b+1):Nat):Int))] (vU d))(h5:(d*2^(min 32 64))%18446744073709551616=z)(h6:(v.toNat%18446744073709551616) ||| (z%18446744073709551616)=z1)(h7:n=(k:Int))(h8:z1/2^(min k 64)=z2)(h9:z2%4294967296=w.toNat)(cw:b<c.length)(hL:ai a n (b+1) (c.set b w) r):ai a n b c r :=
 lG [1,3,1,1,1,1,1,1,1,2,2] [.a,.q,.t,.q,dr 17 1 [.none,.none,.none,.none,(.row b (ah v)),.none,iU v.toNat,.none,.none,(iI (((b+1):Nat):Int)),(.pv (vU d)),iU z,iU z1,.none,iU z2,iW w,(.nat b),(.cells (.pure (((c.set b w):Ws).map ah).flatten))],.h 0 (iI (((b+1):Nat):Int)),.aH [0,1,5,11,12]] (Jd (aj h1) (bm ah (rN b) h2) (nN v) (aL h3) h4 (iP (k := .u64) h5) (nc h6) (RA h7 (cN (k := .i64) h8)) (cC h9) (cj (rN b) h1) (gV aW (c:Ws) w cw) (aL h3)) hL
theorem c9(a:Ws)(n:Int)(b:Nat)(c d:Ws)(h1:a.length≤b)(h2:a.length=c.length)(h3:Cp 172 [af c] (af d)):ai a n b c (af d) :=
 lD [1,3] [.a,.q,.f,.fF 5 ((c:Ws).map ah),.h 1 (.pv (af d))] (y3 (aq h1) (cJ aW (c:Ws) h2) h3)
end mv
namespace jo
theorem e0(x z z1:UInt32)(m b:Nat)(h1:65536≤x.toNat)(h2:x.toNat/2^(min 16 32)=z.toNat)(h3:256≤z.toNat)(h4:z.toNat/2^(min 8 32)=z1.toNat)(h5:z1.toNat%256=m)(h6:((ByteArray.mk #[0,1,2,2,3,3,3,3,4,4,4,4,4,4,4,4,5,5,5,5,5,5,5,5,5,5,5,5,5,5,5,5,6,6,6,6,6,6,6,6,6,6,6,6,6,6,6,6,6,6,6,6,6,6,6,6,6,6,6,6,6,6,6,6,7,7,7,7,7,7,7,7,7,7,7,7,7,7,7,7,7,7,7,7,7,7,7,7,7,7,7,7,7,7,7,7,7,7,7,7,7,7,7,7,7,7,7,7,7,7,7,7,7,7,7,7,7,7,7,7,7,7,7,7,7,7,7,7,8,8,8,8,8,8,8,8,8,8,8,8,8,8,8,8,8,8,8,8,8,8,8,8,8,8,8,8,8,8,8,8,8,8,8,8,8,8,8,8,8,8,8,8,8,8,8,8,8,8,8,8,8,8,8,8,8,8,8,8,8,8,8,8,8,8,8,8,8,8,8,8,8,8,8,8,8,8,8,8,8,8,8,8,8,8,8,8,8,8,8,8,8,8,8,8,8,8,8,8,8,8,8,8,8,8,8,8,8,8,8,8,8,8,8,8,8,8,8,8,8,8,8,8,8,8,8,8]).data.toList[m]?).map (fun b=>(b.toNat:Int))=some (b:Int))(h7:b<9223372036854775808)(h8:(24+b)<9223372036854775808):Cp 238 [vW x] (vI (((24+b):Nat):Int)) :=
 eD func238 [1,1,1,1,1,2] [.q,.q,.t,.h 1 (iW z),.q,.q,.t,.h 1 (iW z1),.q,.aR [.o,.o,(.pv (.int .u8 (m:Int))),(.row m [.int .u8 (b:Int)]),(iI (b:Int)),(iI (((24+b):Nat):Int))]] (y8 (cH h1) (lk (k := .u64) h2) (cH h3) (lk (k := .u64) h4) (FF h5) (cj (rN m) h6) (AE h7) (aL h8))
theorem e1(x z:UInt32)(m b:Nat)(h1:65536≤x.toNat)(h2:x.toNat/2^(min 16 32)=z.toNat)(h3:z.toNat<256)(h4:z.toNat%256=m)(h5:((ByteArray.mk #[0,1,2,2,3,3,3,3,4,4,4,4,4,4,4,4,5,5,5,5,5,5,5,5,5,5,5,5,5,5,5,5,6,6,6,6,6,6,6,6,6,6,6,6,6,6,6,6,6,6,6,6,6,6,6,6,6,6,6,6,6,6,6,6,7,7,7,7,7,7,7,7,7,7,7,7,7,7,7,7,7,7,7,7,7,7,7,7,7,7,7,7,7,7,7,7,7,7,7,7,7,7,7,7,7,7,7,7,7,7,7,7,7,7,7,7,7,7,7,7,7,7,7,7,7,7,7,7,8,8,8,8,8,8,8,8,8,8,8,8,8,8,8,8,8,8,8,8,8,8,8,8,8,8,8,8,8,8,8,8,8,8,8,8,8,8,8,8,8,8,8,8,8,8,8,8,8,8,8,8,8,8,8,8,8,8,8,8,8,8,8,8,8,8,8,8,8,8,8,8,8,8,8,8,8,8,8,8,8,8,8,8,8,8,8,8,8,8,8,8,8,8,8,8,8,8,8,8,8,8,8,8,8,8,8,8,8,8,8,8,8,8,8,8,8,8,8,8,8,8,8,8,8,8,8,8]).data.toList[m]?).map (fun b=>(b.toNat:Int))=some (b:Int))(h6:b<9223372036854775808)(h7:(16+b)<9223372036854775808):Cp 238 [vW x] (vI (((16+b):Nat):Int)) :=
 eD func238 [1,1,1,1,2] [.q,.q,.t,.h 1 (iW z),.q,.q,.f,.aR [.o,.o,(.pv (.int .u8 (m:Int))),(.row m [.int .u8 (b:Int)]),(iI (b:Int)),(iI (((16+b):Nat):Int))]] (y7 (cH h1) (lk (k := .u64) h2) (bh h3) (FF h4) (cj (rN m) h5) (AE h6) (aL h7))
theorem e2(x z:UInt32)(m b:Nat)(h1:x.toNat<65536)(h2:256≤x.toNat)(h3:x.toNat/2^(min 8 32)=z.toNat)(h4:z.toNat%256=m)(h5:((ByteArray.mk #[0,1,2,2,3,3,3,3,4,4,4,4,4,4,4,4,5,5,5,5,5,5,5,5,5,5,5,5,5,5,5,5,6,6,6,6,6,6,6,6,6,6,6,6,6,6,6,6,6,6,6,6,6,6,6,6,6,6,6,6,6,6,6,6,7,7,7,7,7,7,7,7,7,7,7,7,7,7,7,7,7,7,7,7,7,7,7,7,7,7,7,7,7,7,7,7,7,7,7,7,7,7,7,7,7,7,7,7,7,7,7,7,7,7,7,7,7,7,7,7,7,7,7,7,7,7,7,7,8,8,8,8,8,8,8,8,8,8,8,8,8,8,8,8,8,8,8,8,8,8,8,8,8,8,8,8,8,8,8,8,8,8,8,8,8,8,8,8,8,8,8,8,8,8,8,8,8,8,8,8,8,8,8,8,8,8,8,8,8,8,8,8,8,8,8,8,8,8,8,8,8,8,8,8,8,8,8,8,8,8,8,8,8,8,8,8,8,8,8,8,8,8,8,8,8,8,8,8,8,8,8,8,8,8,8,8,8,8,8,8,8,8,8,8,8,8,8,8,8,8,8,8,8,8,8,8]).data.toList[m]?).map (fun b=>(b.toNat:Int))=some (b:Int))(h6:b<9223372036854775808)(h7:(8+b)<9223372036854775808):Cp 238 [vW x] (vI (((8+b):Nat):Int)) :=
 eD func238 [1,1,1,1,2] [.q,.q,.f,.q,.t,.h 1 (iW z),.q,.aR [.o,.o,(.pv (.int .u8 (m:Int))),(.row m [.int .u8 (b:Int)]),(iI (b:Int)),(iI (((8+b):Nat):Int))]] (y7 (bh h1) (cH h2) (lk (k := .u64) h3) (FF h4) (cj (rN m) h5) (AE h6) (aL h7))
theorem e3(x:UInt32)(m b:Nat)(h1:x.toNat<65536)(h2:x.toNat<256)(h3:x.toNat%256=m)(h4:((ByteArray.mk #[0,1,2,2,3,3,3,3,4,4,4,4,4,4,4,4,5,5,5,5,5,5,5,5,5,5,5,5,5,5,5,5,6,6,6,6,6,6,6,6,6,6,6,6,6,6,6,6,6,6,6,6,6,6,6,6,6,6,6,6,6,6,6,6,7,7,7,7,7,7,7,7,7,7,7,7,7,7,7,7,7,7,7,7,7,7,7,7,7,7,7,7,7,7,7,7,7,7,7,7,7,7,7,7,7,7,7,7,7,7,7,7,7,7,7,7,7,7,7,7,7,7,7,7,7,7,7,7,8,8,8,8,8,8,8,8,8,8,8,8,8,8,8,8,8,8,8,8,8,8,8,8,8,8,8,8,8,8,8,8,8,8,8,8,8,8,8,8,8,8,8,8,8,8,8,8,8,8,8,8,8,8,8,8,8,8,8,8,8,8,8,8,8,8,8,8,8,8,8,8,8,8,8,8,8,8,8,8,8,8,8,8,8,8,8,8,8,8,8,8,8,8,8,8,8,8,8,8,8,8,8,8,8,8,8,8,8,8,8,8,8,8,8,8,8,8,8,8,8,8,8,8,8,8,8,8]).data.toList[m]?).map (fun b=>(b.toNat:Int))=some (b:Int))(h5:b<9223372036854775808)(h6:(0+b)<9223372036854775808):Cp 238 [vW x] (vI (((0+b):Nat):Int)) :=
 eD func238 [1,1,1,2] [.q,.q,.f,.q,.f,.aR [.o,.o,(.pv (.int .u8 (m:Int))),(.row m [.int .u8 (b:Int)]),(iI (b:Int)),(iI (((0+b):Nat):Int))]] (y6 (bh h1) (bh h2) (FF h3) (cj (rN m) h4) (AE h5) (aL h6))
end jo
end Go.Proofs.YtcpnocgollpbhaaGreatDoor.Sym.Path
end
