/- Lemmas for the statements of this seat. -/
import Derived.Test.YtcpnocgollpbhaaGreatDoorT0
noncomputable section
namespace Go.Proofs.YtcpnocgollpbhaaGreatDoor.Sym.Path
open Go Tryz
set_option maxRecDepth 20000
set_option linter.unusedVariables false
namespace ni
theorem e0(n:Int)(m m1:Nat)(w:UInt32)(z:Nat)(w1:UInt32)(a:av)(h1:n%18446744073709551616=(m:Int))(h2:n<0)(h3:(0-(m:Int))%18446744073709551616=(m1:Int))(h4:m1%4294967296=w.toNat)(h5:m1/2^(min 32 64)=z)(h6:z%4294967296=w1.toNat)(h7:Cp 156 [(vB (decide (n<0))),(af [w,w1])] a.pv):Cp 88 [vI n] a.pv :=
 eD func88 [1,1,1,1,1,1,3] [.q,.h 1 (iU m),.q,.t,.h 1 (iU m1),.aR [.o,.o,.o,iW w,.o,iU z,iW w1,(.fR 0 0 (([w,w1]:Ws).map ah)),(.pv a.pv)]] (y8 (FD h1) (br h2) (BT h3) (cC h4) (cN (k := .u64) h5) (cC h6) (oB aW ([w,w1]:Ws)) h7)
theorem e1(n:Int)(m:Nat)(w:UInt32)(z:Nat)(w1:UInt32)(a:av)(h1:n%18446744073709551616=(m:Int))(h2:0≤n)(h3:m%4294967296=w.toNat)(h4:m/2^(min 32 64)=z)(h5:z%4294967296=w1.toNat)(h6:Cp 156 [(vB (decide (n<0))),(af [w,w1])] a.pv):Cp 88 [vI n] a.pv :=
 eD func88 [1,1,1,1,1,3] [.q,.h 1 (iU m),.q,.f,.aR [.o,.o,.o,iW w,.o,iU z,iW w1,(.fR 0 0 (([w,w1]:Ws).map ah)),(.pv a.pv)]] (y7 (FD h1) (bu h2) (cC h3) (cN (k := .u64) h4) (cC h5) (oB aW ([w,w1]:Ws)) h6)
end ni
namespace qg
theorem e0(a b c:av)(d:Int)(h1:Cp 168 [a.pv,b.pv] c.pv)(h2:Cp 151 [c.pv] (vI d)):Cp 100 [a.pv,b.pv] (vI d) :=
 eD func100 [] [.q,.aR [.o,.o,(.pv c.pv),(.pv (vI d))]] (y2 h1 h2)
end qg
namespace qh
theorem e0(a b:av)(c d g:Ws)(i:av)(h1:Cp 170 [a.pv] (af c))(h2:Cp 170 [b.pv] (af d))(h3:Cp 169 [af c,af d] (af g))(h4:Cp 156 [vB false,af g] i.pv):Cp 101 [a.pv,b.pv] i.pv :=
 eD func101 [] [.q,dr 6 1 [.none,(.pv (af c)),.none,(.pv (af d)),(.pv (af g)),(.pv i.pv)]] (y4 h1 h2 h3 h4)
end qh
namespace iX
theorem e0(a:av)(b:Ws)(h1:Cp 170 [a.pv] (af b))(h2:b.length=0):Cp 151 [a.pv] (vI 0) :=
 eD func151 [] [.q,.aR [.o,(.pv (af b)),(iL b)],.t,.q] (y3 h1 (ak ah b) (aJ h2))
theorem e1(a:av)(b:Ws)(c:Bool)(h1:Cp 170 [a.pv] (af b))(h2:b.length≠0)(h3:Cp 197 [a.pv] (vB c))(h4:c=true):Cp 151 [a.pv] (vI (-1)) :=
 eD func151 [] [.q,.aR [.o,(.pv (af b)),(iL b)],.f,.h 1 (.pv (vB c)),.t,.q] (y5 h1 (ak ah b) (ax h2) h3 h4)
theorem e2(a:av)(b:Ws)(c:Bool)(h1:Cp 170 [a.pv] (af b))(h2:b.length≠0)(h3:Cp 197 [a.pv] (vB c))(h4:c=false):Cp 151 [a.pv] (vI 1) :=
 eD func151 [] [.q,.aR [.o,(.pv (af b)),(iL b)],.f,.h 1 (.pv (vB c)),.f,.q] (y5 h1 (ak ah b) (ax h2) h3 h4)
end iX
namespace jH
theorem e0(a b:av)(c d:Ws)(g i j:Bool)(k:Ws)(l:av)(h1:Cp 170 [a.pv] (af c))(h2:Cp 170 [b.pv] (af d))(h3:Cp 197 [a.pv] (vB g))(h4:Cp 197 [b.pv] (vB i))(h5:g=i)(h6:Cp 197 [a.pv] (vB j))(h7:Cp 198 [af c,af d] (af k))(h8:Cp 156 [vB j,af k] l.pv):Cp 152 [a.pv,b.pv] l.pv :=
 eD func152 [] [.q,dr 4 2 [.none,(.pv (af c)),.none,(.pv (af d))],dr 5 0 [.none,(.pv (vB g)),.none,(.pv (vB i))],.t,.aR [.o,(.pv (vB j)),.o,.o,(.pv (af k)),(.pv l.pv)]] (y8 h1 h2 h3 h4 (pY h5) h6 h7 h8)
theorem e1(a b:av)(c d:Ws)(g i:Bool)(j:Int)(k:Bool)(l:Ws)(m:av)(h1:Cp 170 [a.pv] (af c))(h2:Cp 170 [b.pv] (af d))(h3:Cp 197 [a.pv] (vB g))(h4:Cp 197 [b.pv] (vB i))(h5:g≠i)(h6:Cp 199 [af c,af d] (vI j))(h7:0≤j)(h8:Cp 197 [a.pv] (vB k))(h9:Cp 200 [af c,af d] (af l))(cw:Cp 156 [vB k,af l] m.pv):Cp 152 [a.pv,b.pv] m.pv :=
 eD func152 [] [.q,dr 4 2 [.none,(.pv (af c)),.none,(.pv (af d))],dr 5 0 [.none,(.pv (vB g)),.none,(.pv (vB i))],.f,.h 2 (.pv (vI j)),.t,.aR [.o,(.pv (vB k)),.o,.o,(.pv (af l)),(.pv m.pv)]] (JU h1 h2 h3 h4 (vk h5) h6 (bN h7) h8 h9 cw)
theorem e2(a b:av)(c d:Ws)(g i:Bool)(j:Int)(k:Bool)(l:Ws)(m:av)(h1:Cp 170 [a.pv] (af c))(h2:Cp 170 [b.pv] (af d))(h3:Cp 197 [a.pv] (vB g))(h4:Cp 197 [b.pv] (vB i))(h5:g≠i)(h6:Cp 199 [af c,af d] (vI j))(h7:j<0)(h8:Cp 197 [b.pv] (vB k))(h9:Cp 200 [af d,af c] (af l))(cw:Cp 156 [vB k,af l] m.pv):Cp 152 [a.pv,b.pv] m.pv :=
 eD func152 [] [.q,dr 4 2 [.none,(.pv (af c)),.none,(.pv (af d))],dr 5 0 [.none,(.pv (vB g)),.none,(.pv (vB i))],.f,.h 2 (.pv (vI j)),.f,.aR [.o,(.pv (vB k)),.o,.o,(.pv (af l)),(.pv m.pv)]] (JU h1 h2 h3 h4 (vk h5) h6 (fY h7) h8 h9 cw)
end jH
namespace qk
theorem e0(a b:av)(c d:Bool)(g i j:Ws)(k:av)(h1:Cp 197 [a.pv] (vB c))(h2:Cp 197 [b.pv] (vB d))(h3:Cp 170 [a.pv] (af g))(h4:Cp 170 [b.pv] (af i))(h5:Cp 201 [af g,af i] (af j))(h6:Cp 156 [(vB (!(c==d))),af j] k.pv):Cp 153 [a.pv,b.pv] k.pv :=
 eD func153 [] [.q,dr 11 1 [.none,(.pv (vB c)),.none,(.pv (vB d)),.none,.none,(.pv (af g)),.none,(.pv (af i)),(.pv (af j)),(.pv k.pv)]] (y6 h1 h2 h3 h4 h5 h6)
end qk
namespace qm
theorem e0(a:av)(b:Bool)(c:Ws)(d:av)(h1:Cp 197 [a.pv] (vB b))(h2:Cp 170 [a.pv] (af c))(h3:Cp 156 [(vB (!b)),af c] d.pv):Cp 154 [a.pv] d.pv :=
 eD func154 [] [.q,dr 6 1 [.none,(.pv (vB b)),.none,.none,(.pv (af c)),(.pv d.pv)]] (y3 h1 h2 h3)
end qm
namespace jI
@[reducible] def fn:Func:=Tryz.f155
theorem RD(a b:av)(cD div aa6:List UInt32)(neg:Bool)(plu aa7 OV:List UInt32):rf bp FH fn [0,2,0,0,2,1,2,0,2,0,0,2,0] [0,5] [.none,(.fR 0 0 (([(1:UInt32)]:List UInt32).map ah)),(.pv (af plu)),.none,(.pv (af aa7)),.none,(.pv (af OV)),.none,.none] ⟨[(2,(.ptr 2 0)),(3,(.ptr 3 0)),(4,(.ptr 4 0)),(5,(.ptr 5 0)),(7,(.pv (af div))),(8,(.pv (af aa6)))],[(5,(.lit [(eB false),(.pv (.list []))])),(4,(.lit [(eB false),(.pv (.list []))])),(3,(.lit [(eB b.neg),(.pv (af b.cD))])),(2,(.lit [(eB a.neg),(.pv (af a.cD))]))]⟩:=by unfold rf Ao;kernel_rfl
theorem e1(a b:av)(c:Int)(d g i j:Ws)(k:Bool)(l m n:Ws)(p s:Bool)(u v:av)(h1:Cp 151 [b.pv] (vI c))(h2:c≠0)(h3:Cp 170 [a.pv] (af d))(h4:Cp 170 [b.pv] (af g))(h5:Cp 202 [af d,af g] (.aF [af i,af j]))(h6:Cp 197 [a.pv] (vB k))(h7:k=true)(h8:0<j.length)(h9:Cp 198 [af i,(af [(1:UInt32)])] (af l))(cw:Cp 170 [b.pv] (af m))(fg:Cp 200 [af m,af j] (af n))(iC:Cp 197 [a.pv] (vB p))(mn:Cp 197 [b.pv] (vB s))(qR:Cp 156 [(vB (!(p==s))),af l] u.pv)(mS:Cp 156 [vB false,af n] v.pv):Cp 155 [a.pv,b.pv] (.aF [u.pv,v.pv,vI 0]) :=
 eD func155 [1,1,1,1,1,1,1,1,1,1,1,1,3] [.q,.h 1 (.pv (vI c)),.f,dr 9 1 [.none,(.pv (af d)),.none,(.pv (af g)),(.pv (.aF [af i,af j]))],.aR [.o,(.pv (vB k)),.o,.o,(iL j),.o,(.dec true)],.t,.aH [2,3,4,5,7,8],.any [0,5] [.none,(.fR 0 0 (([(1:UInt32)]:Ws).map ah)),(.pv (af l)),.none,(.pv (af m)),.none,(.pv (af n)),.none,.none],dr 9 3 [.none,(.pv (vB p)),.none,(.pv (vB s)),.none,.none,(.pv u.pv),.none,(.pv v.pv)]] (YN h1 (bA h2) h3 h4 h5 h6 h7 h7 (ak ah j) h7 h7 (aj h8) (oB aW ([(1:UInt32)]:Ws)) h9 cw fg (RD a b d i j k l m n) iC mn qR mS)
theorem e2(a b:av)(c:Int)(d g i j:Ws)(k l m:Bool)(n p:av)(h1:Cp 151 [b.pv] (vI c))(h2:c≠0)(h3:Cp 170 [a.pv] (af d))(h4:Cp 170 [b.pv] (af g))(h5:Cp 202 [af d,af g] (.aF [af i,af j]))(h6:Cp 197 [a.pv] (vB k))(h7:k=true)(h8:j.length≤0)(h9:Cp 197 [a.pv] (vB l))(cw:Cp 197 [b.pv] (vB m))(fg:Cp 156 [(vB (!(l==m))),af i] n.pv)(iC:Cp 156 [vB false,af j] p.pv):Cp 155 [a.pv,b.pv] (.aF [n.pv,p.pv,vI 0]) :=
 eD func155 [] [.q,.h 1 (.pv (vI c)),.f,dr 9 1 [.none,(.pv (af d)),.none,(.pv (af g)),(.pv (.aF [af i,af j]))],.aR [.o,(.pv (vB k)),.o,.o,(iL j),.o,(.dec true)],.f,dr 9 3 [.none,(.pv (vB l)),.none,(.pv (vB m)),.none,.none,(.pv n.pv),.none,(.pv p.pv)]] (Lj h1 (bA h2) h3 h4 h5 h6 h7 h7 (ak ah j) h7 h7 (aq h8) h9 cw fg iC)
theorem e3(a b:av)(c:Int)(d g i j:Ws)(k l m:Bool)(n p:av)(h1:Cp 151 [b.pv] (vI c))(h2:c≠0)(h3:Cp 170 [a.pv] (af d))(h4:Cp 170 [b.pv] (af g))(h5:Cp 202 [af d,af g] (.aF [af i,af j]))(h6:Cp 197 [a.pv] (vB k))(h7:k=false)(h8:Cp 197 [a.pv] (vB l))(h9:Cp 197 [b.pv] (vB m))(cw:Cp 156 [(vB (!(l==m))),af i] n.pv)(fg:Cp 156 [vB false,af j] p.pv):Cp 155 [a.pv,b.pv] (.aF [n.pv,p.pv,vI 0]) :=
 eD func155 [] [.q,.h 1 (.pv (vI c)),.f,dr 9 1 [.none,(.pv (af d)),.none,(.pv (af g)),(.pv (.aF [af i,af j]))],.aR [.o,(.pv (vB k)),.o,.skip,.skip,.skip,(.dec false)],.a,dr 9 3 [.none,(.pv (vB l)),.none,(.pv (vB m)),.none,.none,(.pv n.pv),.none,(.pv p.pv)]] (NI h1 (bA h2) h3 h4 h5 h6 h7 h7 h7 h7 h8 h9 cw fg)
end jI
namespace lC
theorem e0(a:Bool)(m b:Ws)(h1:Cp 203 [af m] (af b))(h2:b.length=0):Cp 156 [vB a,af m] ((⟨false,[]⟩:av).pv) :=
 eD func156 [] [.q,.h 1 (.pv (af b)),.h 1 (iL b),.t,.q] (y3 h1 (ak ah b) (aJ h2))
theorem e1(a:Bool)(m b:Ws)(h1:Cp 203 [af m] (af b))(h2:b.length≠0):Cp 156 [vB a,af m] ((⟨a,b⟩:av).pv) :=
 eD func156 [] [.q,.h 1 (.pv (af b)),.h 1 (iL b),.f,.q] (y3 h1 (ak ah b) (ax h2))
end lC
namespace qn
theorem e0(a b c d:av)(h1:Cp 154 [b.pv] c.pv)(h2:Cp 152 [a.pv,c.pv] d.pv):Cp 168 [a.pv,b.pv] d.pv :=
 eD func168 [] [.q,dr 4 1 [.none,.none,(.pv c.pv),(.pv d.pv)]] (y2 h1 h2)
end qn
namespace aV
@[reducible] def fn:Func:=Tryz.f169
def a8:List eR:=focus [0,2,0,2,0,0,2,1,2,0,0,2,1,2,0,2,0,0,0] [.code (aP fn)]
def inv1(pg ph lE:Nat)(ek iV:List UInt32):St:=⟨[(0,(.row 7 0 pg 1)),(1,(.row 9 0 ph 1)),(5,(eI (lE:Int)))],[(7,(.pure ((ek:List UInt32).map ah).flatten)),(9,(.pure ((iV:List UInt32).map ah).flatten))]⟩
@[reducible] def ai(pg ph lE:Nat)(ek iV:List UInt32)(r:PV):Prop:=L bp fn a8 (inv1 pg ph lE ek iV) r
def qP:List eR:=focus [0,2,0,2,0,0,2,1,2,0,0,2,1,2,0,2,0,0,0,0,0,0,2,1,2,2,2,2,0,0,0] [.code (aP fn)]
def inv2(pg ph lE:Nat)(ek iV:List UInt32):St:=⟨[(0,(.row 7 0 pg 1)),(1,(.row 9 0 ph 1)),(5,(eI (lE:Int)))],[(7,(.pure ((ek:List UInt32).map ah).flatten)),(9,(.pure ((iV:List UInt32).map ah).flatten))]⟩
@[reducible] def bD(pg ph lE:Nat)(ek iV:List UInt32)(r:PV):Prop:=L bp fn qP (inv2 pg ph lE ek iV) r
def OW:List eR:=focus [0,2,0,2,0,0,2,1,2,0,0,2,1,2,0,2,0,0,0,0,0,0,2,1,2,2,2,2,0,0,0,0,0,0,2,0,2,0,0,0,0] [.code (aP fn)]
def OX(pg ph lE:Nat)(ek iV:List UInt32):St:=⟨[(0,(.row 7 0 pg 1)),(1,(.row 9 0 ph 1)),(5,(eI (lE:Int)))],[(7,(.pure ((ek:List UInt32).map ah).flatten)),(9,(.pure ((iV:List UInt32).map ah).flatten))]⟩
@[reducible] def mT(pg ph lE:Nat)(ek iV:List UInt32)(r:PV):Prop:=L bp fn OW (OX pg ph lE ek iV) r
def aa8:List eR:=focus [0,2,0,2,0,0,2,1,2,0,0,2,1,2,0,2,0,0,0,0,0,0,2,1,2,2,2,2,0,0,0,0,0,0,2,1,2,2,2,2,0,0,2,0,0] [.code (aP fn)]
def aa9(b_1:List UInt32)(DL UB:Nat):St:=⟨[(1,(.pv (af b_1))),(64,(eI (DL:Int))),(65,(eI (UB:Int)))],[]⟩
@[reducible] def H0(b_1:List UInt32)(DL UB:Nat)(r:PV):Prop:=L bp fn aa8 (aa9 b_1 DL UB) r
def aab:List eR:=focus [0,2,0,2,0,0,2,1,2,0,0,2,1,2,0,2,0,0,0,0,0,0,2,1,2,2,2,2,0,0,0,0,0,0,2,0,2,0,0,0,0,0,0,0,2,1,2,2,2,2,0,0,0] [.code (aP fn)]
def aac(pg ph lE:Nat)(ek iV:List UInt32):St:=⟨[(0,(.row 7 0 pg 1)),(1,(.row 9 0 ph 1)),(5,(eI (lE:Int)))],[(7,(.pure ((ek:List UInt32).map ah).flatten)),(9,(.pure ((iV:List UInt32).map ah).flatten))]⟩
@[reducible] def B9(pg ph lE:Nat)(ek iV:List UInt32)(r:PV):Prop:=L bp fn aab (aac pg ph lE ek iV) r
theorem e0(a b z:Ws)(n:Nat)(z1:Ws)(n1:Nat)(h1:au bp 203 [.pv (af a)] [] (.row 0 0 n 1) [(0,(pW z))])(h2:au bp 203 [.pv (af b)] [] (.row 0 0 n1 1) [(0,(pW z1))])(h3:n=0)(h4:n1=z1.length):Cp 169 [af a,af b] (af z1) :=
 eD func169 [1,1,1,3] [.q,.aR [.o,(.bG [] (some (0,7)) (.row 0 0 n 1) [(0,(pW z))]),.o,(.bG [] (some (0,9)) (.row 0 0 n1 1) [(0,(pW z1))])],.q,.t,.q,.fF 4 ((z1:Ws).map ah)] (y4 h1 h2 (aJ h3) (cJ aW (z1:Ws) h4))
theorem e1(a b z:Ws)(n:Nat)(z1:Ws)(n1:Nat)(h1:au bp 203 [.pv (af a)] [] (.row 0 0 n 1) [(0,(pW z))])(h2:au bp 203 [.pv (af b)] [] (.row 0 0 n1 1) [(0,(pW z1))])(h3:n≠0)(h4:n1=0)(h5:n=z.length):Cp 169 [af a,af b] (af z) :=
 eD func169 [1,1,1,1,3] [.q,.aR [.o,(.bG [] (some (0,7)) (.row 0 0 n 1) [(0,(pW z))]),.o,(.bG [] (some (0,9)) (.row 0 0 n1 1) [(0,(pW z1))])],.q,.f,.q,.t,.q,.fF 4 ((z:Ws).map ah)] (y5 h1 h2 (ax h3) (aJ h4) (cJ aW (z:Ws) h5))
theorem e2(a b z:Ws)(n:Nat)(z1:Ws)(n1:Nat){r:PV}(h1:au bp 203 [.pv (af a)] [] (.row 0 0 n 1) [(0,(pW z))])(h2:au bp 203 [.pv (af b)] [] (.row 0 0 n1 1) [(0,(pW z1))])(h3:n≠0)(h4:n1≠0)(hL:ai n n1 0 z z1 r):Cp 169 [af a,af b] r :=
 eG func169 [] [.q,.aR [.o,(.bG [] (some (0,7)) (.row 0 0 n 1) [(0,(pW z))]),.o,(.bG [] (some (0,9)) (.row 0 0 n1 1) [(0,(pW z1))])],.q,.f,.q,.f,.q,.aH [0,1,5],.ord [7,9]] (y4 h1 h2 (ax h3) (ax h4)) hL
theorem l10(b c d:Nat)(g i:Ws)(v z v1 z1:UInt32)(z2:Ws)(n:Nat)(z3:Ws)(n1:Nat){r:PV}(h1:0<b)(h2:g[0]? = some v)(h3:(v.toNat%4294967296) &&& (1%4294967296)=z.toNat)(h4:z.toNat=0)(h5:0<c)(h6:i[0]? = some v1)(h7:(v1.toNat%4294967296) &&& (1%4294967296)=z1.toNat)(h8:z1.toNat=0)(h9:au bp 214 [.row 100000 0 b 1] [(100000,(pW g))] (.row 100000 0 n 1) [(100000,(pW z2))])(cw:au bp 214 [.row 100000 0 c 1] [(100000,(pW i))] (.row 100000 0 n1 1) [(100000,(pW z3))])(fg:(d+1)<9223372036854775808)(hL:ai n n1 (d+1) z2 z3 r):ai b c d g i r :=
 lG [2,1,1,1,1,2] [.a,.aR [.o,(.nat 0),(.ev (.pv (vW v))),iW z,.o,.o,.o,(.nat 0),(.ev (.pv (vW v1))),iW z1,.o,(.dec true)],.t,.aR [.o,(.bG [(7,100000)] none (.row 100000 0 n 1) [(100000,(pW z2))]),.o,(.bG [(9,100000)] none (.row 100000 0 n1 1) [(100000,(pW z3))])],.h 1 (iI (((d+1):Nat):Int)),.aH [0,1,5]] (Lj (cj (Eq.refl (0:Int)) h1) (gr (enc:=ah) (f:=fun a=>(vW a)) (fun _=>rfl) h2) (fX h3) (aJ h4) (aJ h4) (cj (Eq.refl (0:Int)) h5) (aJ h4) (gr (enc:=ah) (f:=fun a=>(vW a)) (fun _=>rfl) h6) (aJ h4) (fX h7) (aJ h4) (aJ h4) (aJ h8) h9 cw (aL fg)) hL
theorem c9(b c d:Nat)(g i:Ws)(v z v1 z1:UInt32){r:PV}(h1:0<b)(h2:g[0]? = some v)(h3:(v.toNat%4294967296) &&& (1%4294967296)=z.toNat)(h4:z.toNat=0)(h5:0<c)(h6:i[0]? = some v1)(h7:(v1.toNat%4294967296) &&& (1%4294967296)=z1.toNat)(h8:z1.toNat≠0)(hL:bD b c d g i r):ai b c d g i r :=
 lG [2,1,1,1,1,2] [.a,.aR [.o,(.nat 0),(.ev (.pv (vW v))),iW z,.o,.o,.o,(.nat 0),(.ev (.pv (vW v1))),iW z1,.o,(.dec true)],.f,.aH [0,1,5]] (JV (cj (Eq.refl (0:Int)) h1) (gr (enc:=ah) (f:=fun a=>(vW a)) (fun _=>rfl) h2) (fX h3) (aJ h4) (aJ h4) (cj (Eq.refl (0:Int)) h5) (aJ h4) (gr (enc:=ah) (f:=fun a=>(vW a)) (fun _=>rfl) h6) (aJ h4) (fX h7) (aJ h4) (aJ h4) (ax h8)) hL
theorem kA(b c d:Nat)(g i:Ws)(v z:UInt32){r:PV}(h1:0<b)(h2:g[0]? = some v)(h3:(v.toNat%4294967296) &&& (1%4294967296)=z.toNat)(h4:z.toNat≠0)(hL:bD b c d g i r):ai b c d g i r :=
 lG [2] [.a,.aR [.o,(.nat 0),(.ev (.pv (vW v))),iW z,.o,.o,.skip,.skip,.skip,.skip,.skip,(.dec false)],.a,.aH [0,1,5]] (y9 (cj (Eq.refl (0:Int)) h1) (gr (enc:=ah) (f:=fun a=>(vW a)) (fun _=>rfl) h2) (fX h3) (ax h4) (ax h4) (ax h4) (ax h4) (ax h4) (ax h4)) hL
theorem BZ(b c d:Nat)(g i:Ws){r:PV}(h1:0<b)(hL:mT b c d g i r):bD b c d g i r :=
 lG [] [.a,.q,.t,.aH [0,1,5]] (y1 (aj h1)) hL
theorem FM(b c d:Nat)(g i:Ws){r:PV}(h1:b≤0)(h2:c=i.length)(hL:H0 i d 0 r):bD b c d g i r :=
 lG [1,3] [.a,.q,.f,.q,.fF 1 ((i:Ws).map ah),.aH [1,64,65],.drop [7]] (y2 (aq h1) (cJ aW (i:Ws) h2)) hL
theorem l30(b c d:Nat)(g i:Ws)(v z:UInt32)(z1:Ws)(n:Nat){r:PV}(h1:0<b)(h2:g[0]? = some v)(h3:(v.toNat%4294967296) &&& (1%4294967296)=z.toNat)(h4:z.toNat=0)(h5:au bp 214 [.row 100000 0 b 1] [(100000,(pW g))] (.row 100000 0 n 1) [(100000,(pW z1))])(hL:mT n c d z1 i r):mT b c d g i r :=
 lG [2] [.a,.aR [.o,(.nat 0),(.ev (.pv (vW v))),iW z],.t,.h 1 (.bG [(7,100000)] none (.row 100000 0 n 1) [(100000,(pW z1))]),.aH [0,1,5]] (y5 (cj (Eq.refl (0:Int)) h1) (gr (enc:=ah) (f:=fun a=>(vW a)) (fun _=>rfl) h2) (fX h3) (aJ h4) h5) hL
theorem l31(b c d:Nat)(g i:Ws)(v z:UInt32){r:PV}(h1:0<b)(h2:g[0]? = some v)(h3:(v.toNat%4294967296) &&& (1%4294967296)=z.toNat)(h4:z.toNat≠0)(hL:B9 b c d g i r):mT b c d g i r :=
 lG [2] [.a,.aR [.o,(.nat 0),(.ev (.pv (vW v))),iW z],.f,.aH [0,1,5]] (y4 (cj (Eq.refl (0:Int)) h1) (gr (enc:=ah) (f:=fun a=>(vW a)) (fun _=>rfl) h2) (fX h3) (ax h4)) hL
theorem l40(b:Ws)(c d:Nat)(g:Ws){r:PV}(h1:d<c)(h2:Cp 198 [af b,af b] (af g))(h3:(d+1)<9223372036854775808)(hL:H0 g c (d+1) r):H0 b c d r :=
 lG [] [.a,.q,.t,.h 2 (.pv (af g)),.h 0 (iI (((d+1):Nat):Int)),.aH [1,64,65]] (y3 (aj h1) h2 (aL h3)) hL
theorem l41(b:Ws)(c d:Nat)(h1:c≤d):H0 b c d (af b) :=
 lD [] [.a,.q,.f,.q] (y1 (aq h1))
theorem l50(b c d:Nat)(g i:Ws)(v z:UInt32)(z1:Ws)(n:Nat){r:PV}(h1:0<c)(h2:i[0]? = some v)(h3:(v.toNat%4294967296) &&& (1%4294967296)=z.toNat)(h4:z.toNat=0)(h5:au bp 214 [.row 100000 0 c 1] [(100000,(pW i))] (.row 100000 0 n 1) [(100000,(pW z1))])(hL:B9 b n d g z1 r):B9 b c d g i r :=
 lG [2] [.a,.aR [.o,(.nat 0),(.ev (.pv (vW v))),iW z],.t,.h 1 (.bG [(9,100000)] none (.row 100000 0 n 1) [(100000,(pW z1))]),.aH [0,1,5]] (y5 (cj (Eq.refl (0:Int)) h1) (gr (enc:=ah) (f:=fun a=>(vW a)) (fun _=>rfl) h2) (fX h3) (aJ h4) h5) hL
theorem l51(b c d:Nat)(g i:Ws)(v z:UInt32)(z1 z2:Ws)(j:Int)(z3 z4 z5:Ws)(n:Nat){r:PV}(h1:0<c)(h2:i[0]? = some v)(h3:(v.toNat%4294967296) &&& (1%4294967296)=z.toNat)(h4:z.toNat≠0)(h5:au bp 199 [.row 100000 0 b 1,.row 100001 0 c 1] [(100000,(pW g)),(100001,(pW i))] (.pv (vI j)) [(100000,(pW z1)),(100001,(pW z2))])(h6:j<0)(h7:au bp 215 [.row 100000 0 c 1,.row 100001 0 b 1] [(100000,(pW z2)),(100001,(pW z1))] (.pv (.aF [])) [(100000,(pW z3)),(100001,(pW z4))])(h8:au bp 216 [.row 100000 0 c 1] [(100000,(pW z3))] (.row 100000 0 n 1) [(100000,(pW z5))])(hL:bD n b d z5 z4 r):B9 b c d g i r :=
 lG [2] [.a,.aR [.o,(.nat 0),(.ev (.pv (vW v))),iW z],.f,.h 2 (.bG [(7,100000),(9,100001)] none (.pv (vI j)) [(100000,(pW z1)),(100001,(pW z2))]),.t,.q,.h 2 (.bG [(9,100000),(7,100001)] none (.pv (.aF [])) [(100000,(pW z3)),(100001,(pW z4))]),.h 1 (.bG [(9,100000)] none (.row 100000 0 n 1) [(100000,(pW z5))]),.aH [0,1,5],.rJ 9 71,.rJ 7 9,.rJ 71 7,.ord [7,9]] (y8 (cj (Eq.refl (0:Int)) h1) (gr (enc:=ah) (f:=fun a=>(vW a)) (fun _=>rfl) h2) (fX h3) (ax h4) h5 (br h6) h7 h8) hL
theorem l52(b c d:Nat)(g i:Ws)(v z:UInt32)(z1 z2:Ws)(j:Int)(z3 z4 z5:Ws)(n:Nat){r:PV}(h1:0<c)(h2:i[0]? = some v)(h3:(v.toNat%4294967296) &&& (1%4294967296)=z.toNat)(h4:z.toNat≠0)(h5:au bp 199 [.row 100000 0 b 1,.row 100001 0 c 1] [(100000,(pW g)),(100001,(pW i))] (.pv (vI j)) [(100000,(pW z1)),(100001,(pW z2))])(h6:0≤j)(h7:au bp 215 [.row 100000 0 b 1,.row 100001 0 c 1] [(100000,(pW z1)),(100001,(pW z2))] (.pv (.aF [])) [(100000,(pW z3)),(100001,(pW z4))])(h8:au bp 216 [.row 100000 0 b 1] [(100000,(pW z3))] (.row 100000 0 n 1) [(100000,(pW z5))])(hL:bD n c d z5 z4 r):B9 b c d g i r :=
 lG [2] [.a,.aR [.o,(.nat 0),(.ev (.pv (vW v))),iW z],.f,.h 2 (.bG [(7,100000),(9,100001)] none (.pv (vI j)) [(100000,(pW z1)),(100001,(pW z2))]),.f,.h 2 (.bG [(7,100000),(9,100001)] none (.pv (.aF [])) [(100000,(pW z3)),(100001,(pW z4))]),.h 1 (.bG [(7,100000)] none (.row 100000 0 n 1) [(100000,(pW z5))]),.aH [0,1,5]] (y8 (cj (Eq.refl (0:Int)) h1) (gr (enc:=ah) (f:=fun a=>(vW a)) (fun _=>rfl) h2) (fX h3) (ax h4) h5 (bu h6) h7 h8) hL
end aV
namespace mw
theorem e0(a:av)(b:Bool)(h1:Cp 217 [a.pv] (vB b))(h2:b=false):Cp 170 [a.pv] (af []) :=
 eD func170 [] [.q,.h 1 (.pv (vB b)),.t,.q] (y2 h1 (cA h2))
theorem e1(a:av)(b:Bool)(h1:Cp 217 [a.pv] (vB b))(h2:b=true):Cp 170 [a.pv] (af a.cD) :=
 eD func170 [] [.q,.h 1 (.pv (vB b)),.f,.q] (y2 h1 (aM h2))
end mw
namespace my
theorem e0(a:av)(b:Bool)(h1:Cp 217 [a.pv] (vB b))(h2:b=true):Cp 197 [a.pv] (vB a.neg) :=
 eD func197 [] [.q,.aR [.o,(.pv (vB b)),.o,.o,.o,(.dec true)]] (y4 h1 h2 h2 h2)
theorem e1(a:av)(b:Bool)(h1:Cp 217 [a.pv] (vB b))(h2:b=false):Cp 197 [a.pv] (vB false) :=
 eD func197 [] [.q,.aR [.o,(.pv (vB b)),.o,.skip,.skip,(.dec false)]] (y4 h1 h2 h2 h2)
end my
namespace gb
@[reducible] def fn:Func:=Tryz.f198
def a8:List eR:=focus [0,2,0,2,0,2,0,0,2,0,0] [.code (aP fn)]
def inv1(a b AF:List UInt32)(si v8:Nat):St:=⟨[(0,(.pv (af a))),(1,(.pv (af b))),(5,(.row 31 0 AF.length 1)),(6,(eU si)),(14,(eI ((((max a.length b.length)+1):Nat):Int))),(15,(eI (v8:Int)))],[(31,(.pure ((AF:List UInt32).map ah).flatten))]⟩
@[reducible] def ai(a b AF:List UInt32)(si v8:Nat)(r:PV):Prop:=L bp fn a8 (inv1 a b AF si v8) r
theorem e0(a b:Ws){r:PV}(h1:((max a.length b.length)+1)<9223372036854775808)(hL:ai a b [] 0 0 r):Cp 198 [af a,af b] r :=
 eG func198 [] [.q,.h 0 .nil,.lL 5 31 1,.q,.aR [.o,(iL a),.o,(iL b),(iI (((max a.length b.length):Nat):Int)),(iI ((((max a.length b.length)+1):Nat):Int))],.aH [0,1,5,6,14,15]] (y4 (ak ah a) (ak ah b) (nd a.length b.length) (aL h1)) hL
theorem l10(a b c:Ws)(d g i j s s1:Nat)(w:UInt32)(z:Nat){r:PV}(h1:g<((max a.length b.length)+1))(h2:Cp 232 [af a,(vI (g:Int))] (vU i))(h3:Cp 232 [af b,(vI (g:Int))] (vU j))(h4:(i+j)%18446744073709551616=s)(h5:(s+d)%18446744073709551616=s1)(h6:s1%4294967296=w.toNat)(h7:((c++[w]):Ws).length*4≤140737488355328)(h8:s1/2^(min 32 64)=z)(h9:(g+1)<9223372036854775808)(hL:ai a b (c++[w]) z (g+1) r):ai a b c d g r :=
 lG [1,1,1,1,1,1,6] [.a,.q,.t,.q,.aR [.o,.o,(.pv (vU i)),.o,.o,(.pv (vU j)),iU s,.o,iU s1],.aR [.o,.o,iW w,.o,(.app ((c++[w]):Ws).length (((c++[w]):Ws).map ah).flatten),.o,iU z],.h 0 (iI (((g+1):Nat):Int)),.aH [0,1,5,6,14,15],.drop [30]] (y9 (aj h1) h2 h3 (dD h4) (dD h5) (cC h6) (iQ aW (c:Ws) ([w]:Ws) 4 (Eq.refl (c:Ws).length) (Eq.refl ([w]:Ws).length) h7 rfl) (cN (k := .u64) h8) (aL h9)) hL
theorem c9(a b c:Ws)(d g:Nat)(i:Ws)(h1:((max a.length b.length)+1)≤g)(h2:Cp 203 [af c] (af i)):ai a b c d g (af i) :=
 lD [1,3] [.a,.q,.f,.fF 5 ((c:Ws).map ah),.h 1 (.pv (af i))] (y3 (aq h1) (cJ aW (c:Ws) (Eq.refl (c:Ws).length)) h2)
end gb
namespace da
@[reducible] def fn:Func:=Tryz.f199
def a8:List eR:=focus [0,2,0,0,2,0,0] [.code (aP fn)]
def inv1(a b:List UInt32)(BY:Int):St:=⟨[(0,(.pv (af a))),(1,(.pv (af b))),(5,(eI BY))],[]⟩
@[reducible] def ai(a b:List UInt32)(BY:Int)(r:PV):Prop:=L bp fn a8 (inv1 a b BY) r
theorem e0(a b:Ws){r:PV}(h1:az ((((max a.length b.length):Nat):Int)-1))(hL:ai a b ((((max a.length b.length):Nat):Int)-1) r):Cp 199 [af a,af b] r :=
 eG func199 [] [.q,.aR [.o,(iL a),.o,(iL b),(iI (((max a.length b.length):Nat):Int)),(iI ((((max a.length b.length):Nat):Int)-1))],.aH [0,1,5]] (y4 (ak ah a) (ak ah b) (nd a.length b.length) (aU h1)) hL
theorem l10(a b:Ws)(c:Int)(d g i j:Nat)(h1:0≤c)(h2:Cp 232 [af a,vI c] (vU d))(h3:Cp 232 [af b,vI c] (vU g))(h4:d≠g)(h5:Cp 232 [af a,vI c] (vU i))(h6:Cp 232 [af b,vI c] (vU j))(h7:i<j):ai a b c (vI (-1)) :=
 lD [] [.a,.q,.t,.aR [.o,.o,(.pv (vU d)),.o,.o,(.pv (vU g))],.t,.aR [.o,.o,(.pv (vU i)),.o,.o,(.pv (vU j))],.t,.q] (y7 (bN h1) h2 h3 (cZ h4) h5 h6 (aj h7))
theorem c9(a b:Ws)(c:Int)(d g i j:Nat)(h1:0≤c)(h2:Cp 232 [af a,vI c] (vU d))(h3:Cp 232 [af b,vI c] (vU g))(h4:d≠g)(h5:Cp 232 [af a,vI c] (vU i))(h6:Cp 232 [af b,vI c] (vU j))(h7:j≤i):ai a b c (vI 1) :=
 lD [] [.a,.q,.t,.aR [.o,.o,(.pv (vU d)),.o,.o,(.pv (vU g))],.t,.aR [.o,.o,(.pv (vU i)),.o,.o,(.pv (vU j))],.f,.q] (y7 (bN h1) h2 h3 (cZ h4) h5 h6 (aq h7))
theorem kA(a b:Ws)(c:Int)(d g:Nat){r:PV}(h1:0≤c)(h2:Cp 232 [af a,vI c] (vU d))(h3:Cp 232 [af b,vI c] (vU g))(h4:d=g)(h5:az (c-1))(hL:ai a b (c-1) r):ai a b c r :=
 lG [] [.a,.q,.t,.aR [.o,.o,(.pv (vU d)),.o,.o,(.pv (vU g))],.f,.h 1 (iI (c-1)),.aH [0,1,5]] (y5 (bN h1) h2 h3 (bX h4) (aU h5)) hL
theorem uA(a b:Ws)(c:Int)(h1:c<0):ai a b c (vI 0) :=
 lD [] [.a,.q,.f,.q] (y1 (fY h1))
end da
namespace cO
@[reducible] def fn:Func:=Tryz.f199
def a8:List eR:=focus [0,2,0,0,2,0,0] [.code (aP fn)]
def inv1(len:Nat)(b:List UInt32)(BY:Int)(bw:List UInt32):St:=⟨[(0,(.row 100000 0 len 1)),(1,(.pv (af b))),(5,(eI BY))],[(100000,(.pure ((bw:List UInt32).map ah).flatten))]⟩
@[reducible] def ai(len:Nat)(b:List UInt32)(BY:Int)(bw:List UInt32)(sin:aS)(r:EV)(sout:aS):Prop:=LX bp fn a8 (inv1 len b BY bw) sin r sout
theorem e0(a:Ws)(c:Nat)(b:Ws){r:EV}{sout:aS}(h1:az ((((max c b.length):Nat):Int)-1))(hL:ai c b ((((max c b.length):Nat):Int)-1) a [(100000,(pW a))] r sout):au bp 199 [(.row 100000 0 c 1),(.pv (af b))] [(100000,(pW a))] r sout :=
 NH func199 [] [.q,.aR [.o,.o,.o,(iL b),(iI (((max c b.length):Nat):Int)),(iI ((((max c b.length):Nat):Int)-1))],.aH [0,1,5]] (y3 (ak ah b) (nd c b.length) (aU h1)) hL
theorem l10(c:Nat)(b:Ws)(d:Int)(g z:Ws)(i j:Nat)(z1:Ws)(k l:Nat){sin:aS}(hs:kF fn sin)(hi:sin.all (fun p=>vJ p.1||(aS.get [(100000,(pW z1))] p.1).isSome)=true)(h1:0≤d)(h2:au bp 232 [.row 100000 0 c 1,.pv (vI d)] [(100000,(pW g))] (.pv (vU i)) [(100000,(pW z))])(h3:Cp 232 [af b,vI d] (vU j))(h4:i≠j)(h5:au bp 232 [.row 100000 0 c 1,.pv (vI d)] [(100000,(pW z))] (.pv (vU k)) [(100000,(pW z1))])(h6:Cp 232 [af b,vI d] (vU l))(h7:k<l):ai c b d g sin (.pv (vI (-1))) [(100000,(pW z1))] :=
 FI [] [.a,.q,.t,.aR [.o,.o,(.bG [(100000,100000)] none (.pv (vU i)) [(100000,(pW z))]),.o,.o,(.pv (vU j))],.t,.aR [.o,.o,(.bG [(100000,100000)] none (.pv (vU k)) [(100000,(pW z1))]),.o,.o,(.pv (vU l))],.t,.q,.ord [100000]] hs hi (y7 (bN h1) h2 h3 (cZ h4) h5 h6 (aj h7))
theorem c9(c:Nat)(b:Ws)(d:Int)(g z:Ws)(i j:Nat)(z1:Ws)(k l:Nat){sin:aS}(hs:kF fn sin)(hi:sin.all (fun p=>vJ p.1||(aS.get [(100000,(pW z1))] p.1).isSome)=true)(h1:0≤d)(h2:au bp 232 [.row 100000 0 c 1,.pv (vI d)] [(100000,(pW g))] (.pv (vU i)) [(100000,(pW z))])(h3:Cp 232 [af b,vI d] (vU j))(h4:i≠j)(h5:au bp 232 [.row 100000 0 c 1,.pv (vI d)] [(100000,(pW z))] (.pv (vU k)) [(100000,(pW z1))])(h6:Cp 232 [af b,vI d] (vU l))(h7:l≤k):ai c b d g sin (.pv (vI 1)) [(100000,(pW z1))] :=
 FI [] [.a,.q,.t,.aR [.o,.o,(.bG [(100000,100000)] none (.pv (vU i)) [(100000,(pW z))]),.o,.o,(.pv (vU j))],.t,.aR [.o,.o,(.bG [(100000,100000)] none (.pv (vU k)) [(100000,(pW z1))]),.o,.o,(.pv (vU l))],.f,.q,.ord [100000]] hs hi (y7 (bN h1) h2 h3 (cZ h4) h5 h6 (aq h7))
theorem kA(c:Nat)(b:Ws)(d:Int)(g z:Ws)(i j:Nat){r:EV}{sout:aS}{sin:aS}(hs:kF fn sin)(h1:0≤d)(h2:au bp 232 [.row 100000 0 c 1,.pv (vI d)] [(100000,(pW g))] (.pv (vU i)) [(100000,(pW z))])(h3:Cp 232 [af b,vI d] (vU j))(h4:i=j)(h5:az (d-1))(hL:ai c b (d-1) z sin r sout):ai c b d g sin r sout :=
 Li [] [.a,.q,.t,.aR [.o,.o,(.bG [(100000,100000)] none (.pv (vU i)) [(100000,(pW z))]),.o,.o,(.pv (vU j))],.f,.h 1 (iI (d-1)),.aH [0,1,5]] hs (y5 (bN h1) h2 h3 (bX h4) (aU h5)) hL
theorem uA(c:Nat)(b:Ws)(d:Int)(g:Ws){sin:aS}(hs:kF fn sin)(hi:sin.all (fun p=>vJ p.1||(aS.get [(100000,(pW g))] p.1).isSome)=true)(h1:d<0):ai c b d g sin (.pv (vI 0)) [(100000,(pW g))] :=
 FI [] [.a,.q,.f,.q,.ord [100000]] hs hi (y1 (fY h1))
end cO
namespace cI
@[reducible] def fn:Func:=Tryz.f199
def a8:List eR:=focus [0,2,0,0,2,0,0] [.code (aP fn)]
def inv1(len kQ:Nat)(BY:Int)(bw jU:List UInt32):St:=⟨[(0,(.row 100000 0 len 1)),(1,(.row 100001 0 kQ 1)),(5,(eI BY))],[(100000,(.pure ((bw:List UInt32).map ah).flatten)),(100001,(.pure ((jU:List UInt32).map ah).flatten))]⟩
@[reducible] def ai(len kQ:Nat)(BY:Int)(bw jU:List UInt32)(sin:aS)(r:EV)(sout:aS):Prop:=LX bp fn a8 (inv1 len kQ BY bw jU) sin r sout
theorem e0(a:Ws)(c:Nat)(b:Ws)(d:Nat){r:EV}{sout:aS}(h1:az ((((max c d):Nat):Int)-1))(hL:ai c d ((((max c d):Nat):Int)-1) a b [(100000,(pW a)),(100001,(pW b))] r sout):au bp 199 [(.row 100000 0 c 1),(.row 100001 0 d 1)] [(100000,(pW a)),(100001,(pW b))] r sout :=
 NH func199 [] [.q,.aR [.o,.o,.o,.o,(iI (((max c d):Nat):Int)),(iI ((((max c d):Nat):Int)-1))],.aH [0,1,5]] (y2 (nd c d) (aU h1)) hL
theorem l10(b c:Nat)(d:Int)(g i z:Ws)(j:Nat)(z1:Ws)(k:Nat)(z2:Ws)(l:Nat)(z3:Ws)(m:Nat){sin:aS}(hs:kF fn sin)(hi:sin.all (fun p=>vJ p.1||(aS.get [(100000,(pW z2)),(100001,(pW z3))] p.1).isSome)=true)(h1:0≤d)(h2:au bp 232 [.row 100000 0 b 1,.pv (vI d)] [(100000,(pW g))] (.pv (vU j)) [(100000,(pW z))])(h3:au bp 232 [.row 100000 0 c 1,.pv (vI d)] [(100000,(pW i))] (.pv (vU k)) [(100000,(pW z1))])(h4:j≠k)(h5:au bp 232 [.row 100000 0 b 1,.pv (vI d)] [(100000,(pW z))] (.pv (vU l)) [(100000,(pW z2))])(h6:au bp 232 [.row 100000 0 c 1,.pv (vI d)] [(100000,(pW z1))] (.pv (vU m)) [(100000,(pW z3))])(h7:l<m):ai b c d g i sin (.pv (vI (-1))) [(100000,(pW z2)),(100001,(pW z3))] :=
 FI [] [.a,.q,.t,.aR [.o,.o,(.bG [(100000,100000)] none (.pv (vU j)) [(100000,(pW z))]),.o,.o,(.bG [(100001,100000)] none (.pv (vU k)) [(100000,(pW z1))])],.t,.aR [.o,.o,(.bG [(100000,100000)] none (.pv (vU l)) [(100000,(pW z2))]),.o,.o,(.bG [(100001,100000)] none (.pv (vU m)) [(100000,(pW z3))])],.t,.q,.ord [100000,100001]] hs hi (y7 (bN h1) h2 h3 (cZ h4) h5 h6 (aj h7))
theorem c9(b c:Nat)(d:Int)(g i z:Ws)(j:Nat)(z1:Ws)(k:Nat)(z2:Ws)(l:Nat)(z3:Ws)(m:Nat){sin:aS}(hs:kF fn sin)(hi:sin.all (fun p=>vJ p.1||(aS.get [(100000,(pW z2)),(100001,(pW z3))] p.1).isSome)=true)(h1:0≤d)(h2:au bp 232 [.row 100000 0 b 1,.pv (vI d)] [(100000,(pW g))] (.pv (vU j)) [(100000,(pW z))])(h3:au bp 232 [.row 100000 0 c 1,.pv (vI d)] [(100000,(pW i))] (.pv (vU k)) [(100000,(pW z1))])(h4:j≠k)(h5:au bp 232 [.row 100000 0 b 1,.pv (vI d)] [(100000,(pW z))] (.pv (vU l)) [(100000,(pW z2))])(h6:au bp 232 [.row 100000 0 c 1,.pv (vI d)] [(100000,(pW z1))] (.pv (vU m)) [(100000,(pW z3))])(h7:m≤l):ai b c d g i sin (.pv (vI 1)) [(100000,(pW z2)),(100001,(pW z3))] :=
 FI [] [.a,.q,.t,.aR [.o,.o,(.bG [(100000,100000)] none (.pv (vU j)) [(100000,(pW z))]),.o,.o,(.bG [(100001,100000)] none (.pv (vU k)) [(100000,(pW z1))])],.t,.aR [.o,.o,(.bG [(100000,100000)] none (.pv (vU l)) [(100000,(pW z2))]),.o,.o,(.bG [(100001,100000)] none (.pv (vU m)) [(100000,(pW z3))])],.f,.q,.ord [100000,100001]] hs hi (y7 (bN h1) h2 h3 (cZ h4) h5 h6 (aq h7))
theorem kA(b c:Nat)(d:Int)(g i z:Ws)(j:Nat)(z1:Ws)(k:Nat){r:EV}{sout:aS}{sin:aS}(hs:kF fn sin)(h1:0≤d)(h2:au bp 232 [.row 100000 0 b 1,.pv (vI d)] [(100000,(pW g))] (.pv (vU j)) [(100000,(pW z))])(h3:au bp 232 [.row 100000 0 c 1,.pv (vI d)] [(100000,(pW i))] (.pv (vU k)) [(100000,(pW z1))])(h4:j=k)(h5:az (d-1))(hL:ai b c (d-1) z z1 sin r sout):ai b c d g i sin r sout :=
 Li [] [.a,.q,.t,.aR [.o,.o,(.bG [(100000,100000)] none (.pv (vU j)) [(100000,(pW z))]),.o,.o,(.bG [(100001,100000)] none (.pv (vU k)) [(100000,(pW z1))])],.f,.h 1 (iI (d-1)),.aH [0,1,5]] hs (y5 (bN h1) h2 h3 (bX h4) (aU h5)) hL
theorem uA(b c:Nat)(d:Int)(g i:Ws){sin:aS}(hs:kF fn sin)(hi:sin.all (fun p=>vJ p.1||(aS.get [(100000,(pW g)),(100001,(pW i))] p.1).isSome)=true)(h1:d<0):ai b c d g i sin (.pv (vI 0)) [(100000,(pW g)),(100001,(pW i))] :=
 FI [] [.a,.q,.f,.q,.ord [100000,100001]] hs hi (y1 (fY h1))
end cI
namespace fL
@[reducible] def fn:Func:=Tryz.f200
def a8:List eR:=focus [0,2,0,2,0,2,0,0,2,0,0] [.code (aP fn)]
def inv1(a b oD:List UInt32)(pd J3:Nat):St:=⟨[(0,(.pv (af a))),(1,(.pv (af b))),(5,(.row 28 0 oD.length 1)),(6,(eU pd)),(10,(eI (a.length:Int))),(11,(eI (J3:Int)))],[(28,(.pure ((oD:List UInt32).map ah).flatten))]⟩
@[reducible] def ai(a b oD:List UInt32)(pd J3:Nat)(r:PV):Prop:=L bp fn a8 (inv1 a b oD pd J3) r
theorem e0 (a b : Ws) {r : PV}  (hL : ai a b [] 0 0 r) : Cp 200 [af a, af b] r :=
 eG func200 [] [.q,.h 0 .nil,.lL 5 28 1,.q,.h 1 (iL a),.aH [0,1,5,6,10,11]] (y1 (ak ah a)) hL
theorem l10(a b c:Ws)(g i j s l d d1:Nat)(w:UInt32)(z d2:Nat){r:PV}(h1:i<a.length)(h2:Cp 232 [af a,(vI (i:Int))] (vU j))(h3:(4294967296+j)%18446744073709551616=s)(h4:Cp 232 [af b,(vI (i:Int))] (vU l))(h5:((s:Nat)-(l:Nat):Int)%18446744073709551616=(d:Int))(h6:((d:Nat)-(g:Nat):Int)%18446744073709551616=(d1:Int))(h7:d1%4294967296=w.toNat)(h8:((c++[w]):Ws).length*4≤140737488355328)(h9:d1/2^(min 32 64)=z)(cw:((1:Nat)-(z:Nat):Int)%18446744073709551616=(d2:Int))(fg:(i+1)<9223372036854775808)(hL:ai a b (c++[w]) d2 (i+1) r):ai a b c g i r :=
 lG [1,1,1,1,1,1,1,6] [.a,.q,.t,.q,.aR [.o,.o,(.pv (vU j)),iU s,.o,.o,(.pv (vU l)),iU d,.o,iU d1],.aR [.o,.o,iW w,.o,(.app ((c++[w]):Ws).length (((c++[w]):Ws).map ah).flatten),.o,iU z,iU d2],.h 0 (iI (((i+1):Nat):Int)),.aH [0,1,5,6,10,11],.drop [27]] (HY (aj h1) h2 (dD h3) h4 (di h5) (di h6) (cC h7) (iQ aW (c:Ws) ([w]:Ws) 4 (Eq.refl (c:Ws).length) (Eq.refl ([w]:Ws).length) h8 rfl) (cN (k := .u64) h9) (di cw) (aL fg)) hL
theorem c9(a b c:Ws)(d g:Nat)(i:Ws)(h1:a.length≤g)(h2:Cp 203 [af c] (af i)):ai a b c d g (af i) :=
 lD [1,3] [.a,.q,.f,.fF 5 ((c:Ws).map ah),.h 1 (.pv (af i))] (y3 (aq h1) (cJ aW (c:Ws) (Eq.refl (c:Ws).length)) h2)
end fL
namespace cE
@[reducible] def fn:Func:=Tryz.f201
def a8:List eR:=focus [0,2,0,2,0,0,2,0,0] [.code (aP fn)]
def inv1(a b:List UInt32)(J4:Nat)(iY:List UInt32):St:=⟨[(0,(.pv (af a))),(1,(.pv (af b))),(5,(.row 15 0 (a.length+b.length) 1)),(17,(eI (a.length:Int))),(18,(eI (J4:Int)))],[(15,(.pure ((iY:List UInt32).map ah).flatten))]⟩
@[reducible] def ai(a b:List UInt32)(J4:Nat)(iY:List UInt32)(r:PV):Prop:=L bp fn a8 (inv1 a b J4 iY) r
def qP:List eR:=focus [0,2,0,2,0,0,2,0,0,0,0,2,0,0,2,0,0,0,2,0,2,0,0,2,0,0] [.code (aP fn)]
def inv2(a b:List UInt32)(Uw ss J4 UC:Nat)(iY:List UInt32):St:=⟨[(0,(.pv (af a))),(1,(.pv (af b))),(5,(.row 15 0 (a.length+b.length) 1)),(6,(eI (Uw:Int))),(7,(eU ss)),(17,(eI (a.length:Int))),(18,(eI (J4:Int))),(22,(eI (b.length:Int))),(23,(eI (UC:Int)))],[(15,(.pure ((iY:List UInt32).map ah).flatten))]⟩
@[reducible] def bD(a b:List UInt32)(Uw ss J4 UC:Nat)(iY:List UInt32)(r:PV):Prop:=L bp fn qP (inv2 a b Uw ss J4 UC iY) r
theorem e0(a b:Ws){r:PV}(h1:(a.length+b.length)<9223372036854775808)(h2:4*(a.length+b.length)≤140737488355328)(hL:ai a b 0 (List.replicate (a.length+b.length) (0:UInt32)) r):Cp 201 [af a,af b] r :=
 eG func201 [1,1,1,5] [.q,.aR [.o,(iL a),.o,(iL b),(iI (((a.length+b.length):Nat):Int)),(.app (a.length+b.length) ((List.replicate (a.length+b.length) (0:UInt32):Ws).map ah).flatten)],.h 1 (iL a),.aH [0,1,5,17,18]] (y5 (ak ah a) (ak ah b) (aL h1) (tH ah 0 4 (a.length+b.length) (rN (a.length+b.length)) h2 rfl) (ak ah a)) hL
theorem l10(a b:Ws)(c:Nat)(d:Ws){r:PV}(h1:c<a.length)(hL:bD a b c 0 c 0 d r):ai a b c d r :=
 lG [] [.a,.q,.t,.q,.q,.h 1 (iL b),.aH [0,1,5,6,7,17,18,22,23]] (y2 (aj h1) (ak ah b)) hL
theorem c9(a b:Ws)(c:Nat)(d g:Ws)(h1:a.length≤c)(h2:(a.length+b.length)=d.length)(h3:Cp 203 [af d] (af g)):ai a b c d (af g) :=
 lD [1,3] [.a,.q,.f,.fF 5 ((d:Ws).map ah),.h 1 (.pv (af g))] (y3 (aq h1) (cJ aW (d:Ws) h2) h3)
theorem BZ(a b:Ws)(c d g i:Nat)(j:Ws)(v v1:UInt32)(p:Nat)(v2:UInt32)(s s1:Nat)(w:UInt32)(z:Nat){r:PV}(h1:i<b.length)(h2:a[c]? = some v)(h3:b[i]? = some v1)(h4:(v.toNat*v1.toNat)%18446744073709551616=p)(h5:(c+i)<9223372036854775808)(h6:(c+i)<(a.length+b.length))(h7:j[(c+i)]? = some v2)(h8:(p+v2.toNat)%18446744073709551616=s)(h9:(s+d)%18446744073709551616=s1)(cw:s1%4294967296=w.toNat)(fg:s1/2^(min 32 64)=z)(iC:(c+i)<j.length)(mn:(i+1)<9223372036854775808)(hL:bD a b c z g (i+1) (j.set (c+i) w) r):bD a b c d g i j r :=
 lG [1,3,1,3,1,1,1,2,1,1,1,1,1,1,1,2,2] [.a,.q,.t,.q,dr 21 1 [.none,.none,(.row c (ah v)),.none,iU v.toNat,.none,.none,(.row i (ah v1)),.none,iU v1.toNat,iU p,.none,.none,.none,(iI (((c+i):Nat):Int)),(.nat (c+i)),(.ev (.pv (vW v2))),iU v2.toNat,iU s,.none,iU s1],.aR [.o,.o,.o,(iI (((c+i):Nat):Int)),.o,iW w,.o,iU z,(.nat (c+i)),(.cells (.pure (((j.set (c+i) w):Ws).map ah).flatten))],.h 0 (iI (((i+1):Nat):Int)),.aH [0,1,5,6,7,17,18,22,23]] (Uu (aj h1) (bm ah (rN c) h2) (nN v) (bm ah (rN i) h3) (nN v1) (mZ h4) (aL h5) (cj (rN (c+i)) h6) (gr (enc:=ah) (f:=fun a=>(vW a)) (fun _=>rfl) h7) (nN v2) (dD h8) (dD h9) (aL h5) (cC cw) (cN (k := .u64) fg) (cj (rN (c+i)) h6) (gV aW (j:Ws) w iC) (aL mn)) hL
theorem FM(a b:Ws)(c d g i:Nat)(j:Ws)(w:UInt32){r:PV}(h1:b.length≤i)(h2:(c+b.length)<9223372036854775808)(h3:d%4294967296=w.toNat)(h4:(c+b.length)<(a.length+b.length))(h5:(c+b.length)<j.length)(h6:(g+1)<9223372036854775808)(hL:ai a b (g+1) (j.set (c+b.length) w) r):bD a b c d g i j r :=
 lG [1,1,1,1,2,2] [.a,.q,.f,.aR [.o,.o,.o,(iL b),(iI (((c+b.length):Nat):Int)),.o,iW w,(.nat (c+b.length)),(.cells (.pure (((j.set (c+b.length) w):Ws).map ah).flatten))],.h 0 (iI (((g+1):Nat):Int)),.aH [0,1,5,17,18]] (y7 (aq h1) (ak ah b) (aL h2) (cC h3) (cj (rN (c+b.length)) h4) (gV aW (j:Ws) w h5) (aL h6)) hL
end cE
namespace bR
@[reducible] def fn:Func:=Tryz.f202
def a8:List eR:=focus [0,2,0,2,0,2,0,0,2,0,0] [.code (aP fn)]
def inv1(a b:List UInt32)(JZ:Int)(su dy:List UInt32):St:=⟨[(0,(.pv (af a))),(1,(.pv (af b))),(6,(.row 13 0 a.length 1)),(7,(.row 17 0 (b.length+1) 1)),(8,(eI JZ))],[(13,(.pure ((su:List UInt32).map ah).flatten)),(17,(.pure ((dy:List UInt32).map ah).flatten))]⟩
@[reducible] def ai(a b:List UInt32)(JZ:Int)(su dy:List UInt32)(r:PV):Prop:=L bp fn a8 (inv1 a b JZ su dy) r
def qP:List eR:=focus [0,2,0,2,0,2,0,0,2,0,0,0,0,0,2,0,2,0,0,0,2,0,0,2,0,0] [.code (aP fn)]
def inv2(a b:List UInt32)(JZ:Int)(FP:UInt32)(UD:Nat)(su dy:List UInt32):St:=⟨[(0,(.pv (af a))),(1,(.pv (af b))),(6,(.row 13 0 a.length 1)),(7,(.row 17 0 (b.length+1) 1)),(8,(eI JZ)),(9,(eW FP)),(35,(eI (((b.length+1):Nat):Int))),(36,(eI (UD:Int)))],[(13,(.pure ((su:List UInt32).map ah).flatten)),(17,(.pure ((dy:List UInt32).map ah).flatten))]⟩
@[reducible] def bD(a b:List UInt32)(JZ:Int)(FP:UInt32)(UD:Nat)(su dy:List UInt32)(r:PV):Prop:=L bp fn qP (inv2 a b JZ FP UD su dy) r
theorem e0(a b:Ws)(c:Int){r:PV}(h1:4*a.length≤140737488355328)(h2:(b.length+1)<9223372036854775808)(h3:4*(b.length+1)≤140737488355328)(h4:Cp 233 [af a] (vI c))(h5:az (c-1))(hL:ai a b (c-1) (List.replicate a.length (0:UInt32)) (List.replicate (b.length+1) (0:UInt32)) r):Cp 202 [af a,af b] r :=
 eG func202 [1,5,1,1,5] [.q,.aR [.o,(iL a),(.app a.length ((List.replicate a.length (0:UInt32):Ws).map ah).flatten)],.aR [.o,(iL b),(iI (((b.length+1):Nat):Int)),(.app (b.length+1) ((List.replicate (b.length+1) (0:UInt32):Ws).map ah).flatten)],.aR [.o,(.pv (vI c)),(iI (c-1))],.aH [0,1,6,7,8],.ord [13,17]] (y7 (ak ah a) (tH ah 0 4 a.length (rN a.length) h1 rfl) (ak ah b) (aL h2) (tH ah 0 4 (b.length+1) (rN (b.length+1)) h3 rfl) h4 (aU h5)) hL
theorem l10(a b:Ws)(c:Int)(d g:Ws)(k:Nat)(v:UInt32)(k1:Nat)(z z1:UInt32){r:PV}(h1:0≤c)(h2:c=(k:Int))(h3:k<9223372036854775808)(h4:a[(k/32)]? = some v)(h5:c=(k1:Int))(h6:v.toNat/2^(min (k1%32) 32)=z.toNat)(h7:(z.toNat%4294967296) &&& (1%4294967296)=z1.toNat)(hL:bD a b c z1 0 d g r):ai a b c d g r :=
 lG [1,1,3] [.a,.q,.t,.aR [.o,.o,(iI (((k/32):Nat):Int)),(.row (k/32) (ah v)),.o,.o,(iI (((k1%32):Nat):Int)),iW z,iW z1],.q,.aH [0,1,6,7,8,9,35,36]] (y6 (bN h1) (ML h2 (cB (y:=32) (by decide) h3)) (bm ah (rN (k/32)) h4) (ML h5 (Lg (x:=k1) (y:=32) (by decide))) (lk (k := .i64) h6) (fX h7)) hL
theorem c9(a b:Ws)(c:Int)(d g i j:Ws)(h1:c<0)(h2:a.length=d.length)(h3:(b.length+1)=g.length)(h4:Cp 203 [af d] (af i))(h5:Cp 203 [af g] (af j)):ai a b c d g (.aF [af i,af j]) :=
 lD [1,3,3] [.a,.q,.f,.fF 6 ((d:Ws).map ah),.fF 7 ((g:Ws).map ah),.aR [.o,(.pv (af i)),.o,(.pv (af j))]] (y5 (fY h1) (cJ aW (d:Ws) h2) (cJ aW (g:Ws) h3) h4 h5)
theorem BZ(a b:Ws)(c:Int)(d:UInt32)(g:Nat)(i j:Ws)(v z z1 z2:UInt32){r:PV}(h1:g<(b.length+1))(h2:j[g]? = some v)(h3:(v.toNat*2^(min 1 32))%4294967296=z.toNat)(h4:(z.toNat%4294967296) ||| (d.toNat%4294967296)=z1.toNat)(h5:v.toNat/2^(min 31 32)=z2.toNat)(h6:g<j.length)(h7:(g+1)<9223372036854775808)(hL:bD a b c z2 (g+1) i (j.set g z1) r):bD a b c d g i j r :=
 lG [1,2,1,1,1,2,1,1,2,2] [.a,.q,.t,.q,dr 16 1 [.none,.none,.none,.none,(.nat g),(.ev (.pv (vW v))),iW z,.none,iW z1,.none,.none,(.nat g),(.ev (.pv (vW v))),iW z2,(.nat g),(.cells (.pure (((j.set g z1):Ws).map ah).flatten))],.h 0 (iI (((g+1):Nat):Int)),.aH [0,1,6,7,8,9,35,36]] (HY (aj h1) (cj (rN g) h1) (gr (enc:=ah) (f:=fun a=>(vW a)) (fun _=>rfl) h2) (BS (k := .u64) h3) (uy h4) (cj (rN g) h1) (gr (enc:=ah) (f:=fun a=>(vW a)) (fun _=>rfl) h2) (lk (k := .u64) h5) (cj (rN g) h1) (gV aW (j:Ws) z1 h6) (aL h7)) hL
theorem FM(a b:Ws)(c:Int)(d:UInt32)(g:Nat)(i j z:Ws)(l:Int)(z1:Ws)(k:Nat)(v:UInt32)(k1:Nat)(z2 z3:UInt32){r:PV}(h1:(b.length+1)≤g)(h2:au bp 199 [.row 100000 0 (b.length+1) 1,.pv (af b)] [(100000,(pW j))] (.pv (vI l)) [(100000,(pW z))])(h3:0≤l)(h4:au bp 215 [.row 100000 0 (b.length+1) 1,.pv (af b)] [(100000,(pW z))] (.pv (.aF [])) [(100000,(pW z1))])(h5:c=(k:Int))(h6:k<9223372036854775808)(h7:(k/32)<a.length)(h8:i[(k/32)]? = some v)(h9:c=(k1:Int))(cw:(1*2^(min (k1%32) 32))%4294967296=z2.toNat)(fg:(v.toNat%4294967296) ||| (z2.toNat%4294967296)=z3.toNat)(iC:(k/32)<i.length)(mn:az (c-1))(hL:ai a b (c-1) (i.set (k/32) z3) z1 r):bD a b c d g i j r :=
 lG [1,1,1,1,1,2,1,1,1,1,2,2] [.a,.q,.f,.h 2 (.bG [(17,100000)] none (.pv (vI l)) [(100000,(pW z))]),.t,.h 2 (.bG [(17,100000)] none (.pv (.aF [])) [(100000,(pW z1))]),dr 10 1 [.none,.none,(iI (((k/32):Nat):Int)),(.nat (k/32)),(.ev (.pv (vW v))),.none,(iI (((k1%32):Nat):Int)),iW z2,iW z3,(.nat (k/32)),(.cells (.pure (((i.set (k/32) z3):Ws).map ah).flatten))],.h 1 (iI (c-1)),.aH [0,1,6,7,8]] (JV (aq h1) h2 (bN h3) h4 (ML h5 (cB (y:=32) (by decide) h6)) (cj (rN (k/32)) h7) (gr (enc:=ah) (f:=fun a=>(vW a)) (fun _=>rfl) h8) (ML h9 (Lg (x:=k1) (y:=32) (by decide))) (BS (k := .i64) cw) (uy fg) (cj (rN (k/32)) h7) (gV aW (i:Ws) z3 iC) (aU mn)) hL
theorem RC(a b:Ws)(c:Int)(d:UInt32)(g:Nat)(i j z:Ws)(k:Int){r:PV}(h1:(b.length+1)≤g)(h2:au bp 199 [.row 100000 0 (b.length+1) 1,.pv (af b)] [(100000,(pW j))] (.pv (vI k)) [(100000,(pW z))])(h3:k<0)(h4:az (c-1))(hL:ai a b (c-1) i z r):bD a b c d g i j r :=
 lG [] [.a,.q,.f,.h 2 (.bG [(17,100000)] none (.pv (vI k)) [(100000,(pW z))]),.f,.h 1 (iI (c-1)),.aH [0,1,6,7,8]] (y4 (aq h1) h2 (fY h3) (aU h4)) hL
end bR
namespace fh
@[reducible] def fn:Func:=Tryz.f203
def a8:List eR:=focus [0,2,0,2,0,0,0] [.code (aP fn)]
def inv1(iZ:List UInt32):St:=⟨[(3,(.row 6 0 iZ.length 1))],[(6,(.pure ((iZ:List UInt32).map ah).flatten))]⟩
@[reducible] def ai(iZ:List UInt32)(r:PV):Prop:=L bp fn a8 (inv1 iZ) r
theorem e0(a:Ws){r:PV}(h1:(([]:Ws)++a:Ws).length*4≤140737488355328)(hL:ai a r):Cp 203 [af a] r :=
 eG func203 [6] [.q,.h 2 (.app (a:Ws).length ((a:Ws).map ah).flatten),.aH [3]] (y1 (kE aW ([]:Ws) (a:Ws) 4 (Eq.refl ([]:Ws).length) h1 rfl)) hL
theorem l10(b:Ws)(k:Nat)(v:UInt32)(u:Nat){r:PV}(h1:0<b.length)(h2:az ((b.length:Int)-1))(h3:((b.length:Int)-1)=(k:Int))(h4:k<b.length)(h5:b[k]? = some v)(h6:v.toNat=0)(h7:((b.length:Int)-1)=(u:Int))(h8:u≤(b:Ws).length)(hL:ai (b.take u) r):ai b r :=
 lG [1,1,1,1,1,1,2,1,1,1,1,1,1,5] [.a,.aR [.o,.o,.o,.o,.o,.o,.o,(iI ((b.length:Int)-1)),(.nat k),(.ev (.pv (vW v))),.o,(.dec true)],.t,.aR [.o,.o,.o,(iI ((b.length:Int)-1)),(.fR 0 ((b.take u).length) [])],.cut 6 (u*1) (((b.take u):Ws).map ah).flatten,.aH [3]] (NJ (aj h1) (aj h1) (aj h1) (aj h1) (aU h2) (aj h1) (cj h3 h4) (aj h1) (gr (enc:=ah) (f:=fun a=>(vW a)) (fun _=>rfl) h5) (aj h1) (aj h1) (aJ h6) (aU h2) (Lh (b:Ws) h7 h8) (xm aW (b:Ws) u)) hL
theorem c9(b:Ws)(k:Nat)(v:UInt32)(h1:0<b.length)(h2:az ((b.length:Int)-1))(h3:((b.length:Int)-1)=(k:Int))(h4:k<b.length)(h5:b[k]? = some v)(h6:v.toNat≠0):ai b (af b) :=
 lD [1,1,1,1,1,1,2,1,1,1,1,1,3] [.a,.aR [.o,.o,.o,.o,.o,.o,.o,(iI ((b.length:Int)-1)),(.nat k),(.ev (.pv (vW v))),.o,(.dec true)],.f,.q,.fF 2 ((b:Ws).map ah)] (JV (aj h1) (aj h1) (aj h1) (aj h1) (aU h2) (aj h1) (cj h3 h4) (aj h1) (gr (enc:=ah) (f:=fun a=>(vW a)) (fun _=>rfl) h5) (aj h1) (aj h1) (ax h6) (cJ aW (b:Ws) (Eq.refl (b:Ws).length)))
theorem kA(b:Ws)(h1:b.length≤0):ai b (af b) :=
 lD [1,1,1,1,1,1,1,1,3] [.a,.aR [.o,.o,.o,.o,.skip,.skip,.skip,.skip,.skip,.skip,.skip,(.dec false)],.a,.q,.fF 2 ((b:Ws).map ah)] (y9 (aq h1) (aq h1) (aq h1) (aq h1) (aq h1) (aq h1) (aq h1) (aq h1) (cJ aW (b:Ws) (Eq.refl (b:Ws).length)))
end fh
namespace eL
@[reducible] def fn:Func:=Tryz.f203
def a8:List eR:=focus [0,2,0,2,0,0,0] [.code (aP fn)]
def inv1(iZ:List UInt32):St:=⟨[(3,(.row 6 0 iZ.length 1))],[(6,(.pure ((iZ:List UInt32).map ah).flatten))]⟩
@[reducible] def ai(iZ:List UInt32)(sin:aS)(r:EV)(sout:aS):Prop:=LX bp fn a8 (inv1 iZ) sin r sout
theorem e0(a:Ws){r:EV}{sout:aS}(h1:(([]:Ws)++a:Ws).length*4≤140737488355328)(hL:ai a [] r sout):au bp 203 [(.pv (af a))] [] r sout :=
 NH func203 [6] [.q,.h 2 (.app (a:Ws).length ((a:Ws).map ah).flatten),.aH [3]] (y1 (kE aW ([]:Ws) (a:Ws) 4 (Eq.refl ([]:Ws).length) h1 rfl)) hL
theorem l10(b:Ws)(k:Nat)(v:UInt32)(u:Nat){r:EV}{sout:aS}{sin:aS}(hs:kF fn sin)(h1:0<b.length)(h2:az ((b.length:Int)-1))(h3:((b.length:Int)-1)=(k:Int))(h4:k<b.length)(h5:b[k]? = some v)(h6:v.toNat=0)(h7:((b.length:Int)-1)=(u:Int))(h8:u≤(b:Ws).length)(hL:ai (b.take u) sin r sout):ai b sin r sout :=
 Li [1,1,1,1,1,1,2,1,1,1,1,1,1,5] [.a,.aR [.o,.o,.o,.o,.o,.o,.o,(iI ((b.length:Int)-1)),(.nat k),(.ev (.pv (vW v))),.o,(.dec true)],.t,.aR [.o,.o,.o,(iI ((b.length:Int)-1)),(.fR 0 ((b.take u).length) [])],.cut 6 (u*1) (((b.take u):Ws).map ah).flatten,.aH [3]] hs (NJ (aj h1) (aj h1) (aj h1) (aj h1) (aU h2) (aj h1) (cj h3 h4) (aj h1) (gr (enc:=ah) (f:=fun a=>(vW a)) (fun _=>rfl) h5) (aj h1) (aj h1) (aJ h6) (aU h2) (Lh (b:Ws) h7 h8) (xm aW (b:Ws) u)) hL
theorem c9(b:Ws)(k:Nat)(v:UInt32){sin:aS}(hs:kF fn sin)(hi:sin.all (fun p=>vJ p.1||(aS.get [(0,(pW b))] p.1).isSome)=true)(h1:0<b.length)(h2:az ((b.length:Int)-1))(h3:((b.length:Int)-1)=(k:Int))(h4:k<b.length)(h5:b[k]? = some v)(h6:v.toNat≠0):ai b sin (.row 0 0 b.length 1) [(0,(pW b))] :=
 FI [1,1,1,1,1,1,2] [.a,.aR [.o,.o,.o,.o,.o,.o,.o,(iI ((b.length:Int)-1)),(.nat k),(.ev (.pv (vW v))),.o,(.dec true)],.f,.q,.rJ 6 0,.ord [0]] hs hi (Jd (aj h1) (aj h1) (aj h1) (aj h1) (aU h2) (aj h1) (cj h3 h4) (aj h1) (gr (enc:=ah) (f:=fun a=>(vW a)) (fun _=>rfl) h5) (aj h1) (aj h1) (ax h6))
theorem kA(b:Ws){sin:aS}(hs:kF fn sin)(hi:sin.all (fun p=>vJ p.1||(aS.get [(0,(pW b))] p.1).isSome)=true)(h1:b.length≤0):ai b sin (.row 0 0 b.length 1) [(0,(pW b))] :=
 FI [] [.a,.aR [.o,.o,.o,.o,.skip,.skip,.skip,.skip,.skip,.skip,.skip,(.dec false)],.a,.q,.rJ 6 0,.ord [0]] hs hi (y8 (aq h1) (aq h1) (aq h1) (aq h1) (aq h1) (aq h1) (aq h1) (aq h1))
end eL
namespace fM
@[reducible] def fn:Func:=Tryz.f214
def a8:List eR:=focus [0,2,0,0,2,0,0] [.code (aP fn)]
def inv1(len UE:Nat)(bw:List UInt32):St:=⟨[(0,(.row 100000 0 len 1)),(5,(eI (len:Int))),(6,(eI (UE:Int)))],[(100000,(.pure ((bw:List UInt32).map ah).flatten))]⟩
@[reducible] def ai(len UE:Nat)(bw:List UInt32)(sin:aS)(r:EV)(sout:aS):Prop:=LX bp fn a8 (inv1 len UE bw) sin r sout
theorem e0 (a : Ws) (b : Nat) {r : EV} {sout : aS}  (hL : ai b 0 a [(100000, (pW a))] r sout) : au bp 214 [(.row 100000 0 b 1)] [(100000, (pW a))] r sout :=
 NH func214 [] [.q,.q,.aH [0,5,6]] True.intro hL
theorem l10(b c:Nat)(d z:Ws)(g z1:Nat)(z2:Ws)(i z3 z4:Nat)(w:UInt32){r:EV}{sout:aS}{sin:aS}(hs:kF fn sin)(h1:c<b)(h2:au bp 232 [.row 100000 0 b 1,.pv (vI (c:Int))] [(100000,(pW d))] (.pv (vU g)) [(100000,(pW z))])(h3:g/2^(min 1 64)=z1)(h4:(c+1)<9223372036854775808)(h5:au bp 232 [.row 100000 0 b 1,.pv (vI (((c+1):Nat):Int))] [(100000,(pW z))] (.pv (vU i)) [(100000,(pW z2))])(h6:(i*2^(min 31 64))%18446744073709551616=z3)(h7:(z1%18446744073709551616) ||| (z3%18446744073709551616)=z4)(h8:z4%4294967296=w.toNat)(h9:c<z2.length)(hL:ai b (c+1) (z2.set c w) sin r sout):ai b c d sin r sout :=
 Li [1,1,1,1,1,1,1,1,2,2] [.a,.q,.t,.q,.aR [.o,.o,.o,.o,(.bG [(100000,100000)] none (.pv (vU g)) [(100000,(pW z))]),iU z1,.o,.o,(iI (((c+1):Nat):Int)),(.bG [(100000,100000)] none (.pv (vU i)) [(100000,(pW z2))]),iU z3,iU z4,iW w,(.nat c),(.cells (.pure (((z2.set c w):Ws).map ah).flatten))],.h 0 (iI (((c+1):Nat):Int)),.aH [0,5,6]] hs (HY (aj h1) h2 (cN (k := .u64) h3) (aL h4) h5 (iP (k := .u64) h6) (nc h7) (cC h8) (cj (rN c) h1) (gV aW (z2:Ws) w h9) (aL h4)) hL
theorem c9(b c:Nat)(d z:Ws)(n:Nat){sin:aS}(hs:kF fn sin)(hi:sin.all (fun p=>vJ p.1||(aS.get [(100000,(.pure (((z.take n):Ws).map ah).flatten))] p.1).isSome)=true)(h1:b≤c)(h2:au bp 216 [.row 100000 0 b 1] [(100000,(pW d))] (.row 100000 0 n 1) [(100000,(pW z))]):ai b c d sin (.row 100000 0 n 1) [(100000,(.pure (((z.take n):Ws).map ah).flatten))] :=
 FI [] [.a,.q,.f,.h 1 (.bG [(100000,100000)] none (.row 100000 0 n 1) [(100000,(pW z))]),.cut 100000 (n*1) (((z.take n):Ws).map ah).flatten,.ord [100000]] hs hi (y3 (aq h1) h2 (xm aW (z:Ws) n))
end fM
namespace gd
@[reducible] def fn:Func:=Tryz.f215
def a8:List eR:=focus [0,2,0,2,0,0] [.code (aP fn)]
def inv1(len:Nat)(b:List UInt32)(pk OY:Nat)(bw:List UInt32):St:=⟨[(0,(.row 100000 0 len 1)),(1,(.pv (af b))),(4,(eU pk)),(8,(eI (len:Int))),(9,(eI (OY:Int)))],[(100000,(.pure ((bw:List UInt32).map ah).flatten))]⟩
@[reducible] def ai(len:Nat)(b:List UInt32)(pk OY:Nat)(bw:List UInt32)(sin:aS)(r:EV)(sout:aS):Prop:=LX bp fn a8 (inv1 len b pk OY bw) sin r sout
theorem e0 (a : Ws) (c : Nat) (b : Ws) {r : EV} {sout : aS}  (hL : ai c b 0 0 a [(100000, (pW a))] r sout) : au bp 215 [(.row 100000 0 c 1), (.pv (af b))] [(100000, (pW a))] r sout :=
 NH func215 [] [.q,.q,.aH [0,1,4,8,9]] True.intro hL
theorem l10(c:Nat)(b:Ws)(g i:Nat)(j z:Ws)(l s m d d1:Nat)(w:UInt32)(z1 d2:Nat){r:EV}{sout:aS}{sin:aS}(hs:kF fn sin)(h1:i<c)(h2:au bp 232 [.row 100000 0 c 1,.pv (vI (i:Int))] [(100000,(pW j))] (.pv (vU l)) [(100000,(pW z))])(h3:(4294967296+l)%18446744073709551616=s)(h4:Cp 232 [af b,(vI (i:Int))] (vU m))(h5:((s:Nat)-(m:Nat):Int)%18446744073709551616=(d:Int))(h6:((d:Nat)-(g:Nat):Int)%18446744073709551616=(d1:Int))(h7:d1%4294967296=w.toNat)(h8:d1/2^(min 32 64)=z1)(h9:((1:Nat)-(z1:Nat):Int)%18446744073709551616=(d2:Int))(cw:i<z.length)(fg:(i+1)<9223372036854775808)(hL:ai c b d2 (i+1) (z.set i w) sin r sout):ai c b g i j sin r sout :=
 Li [1,1,1,1,1,1,1,1,1,2,2] [.a,.q,.t,.q,.aR [.o,.o,(.bG [(100000,100000)] none (.pv (vU l)) [(100000,(pW z))]),iU s,.o,.o,(.pv (vU m)),iU d,.o,iU d1],.aR [.o,.o,.o,iW w,.o,iU z1,iU d2,(.nat i),(.cells (.pure (((z.set i w):Ws).map ah).flatten))],.h 0 (iI (((i+1):Nat):Int)),.aH [0,1,4,8,9]] hs (Jd (aj h1) h2 (dD h3) h4 (di h5) (di h6) (cC h7) (cN (k := .u64) h8) (di h9) (cj (rN i) h1) (gV aW (z:Ws) w cw) (aL fg)) hL
theorem c9(c:Nat)(b:Ws)(d g:Nat)(i:Ws){sin:aS}(hs:kF fn sin)(hi:sin.all (fun p=>vJ p.1||(aS.get [(100000,(pW i))] p.1).isSome)=true)(h1:c≤g):ai c b d g i sin (.pv (.aF [])) [(100000,(pW i))] :=
 FI [] [.a,.q,.f,.ord [100000]] hs hi (y1 (aq h1))
end gd
namespace fN
@[reducible] def fn:Func:=Tryz.f215
def a8:List eR:=focus [0,2,0,2,0,0] [.code (aP fn)]
def inv1(len kQ pk OY:Nat)(bw jU:List UInt32):St:=⟨[(0,(.row 100000 0 len 1)),(1,(.row 100001 0 kQ 1)),(4,(eU pk)),(8,(eI (len:Int))),(9,(eI (OY:Int)))],[(100000,(.pure ((bw:List UInt32).map ah).flatten)),(100001,(.pure ((jU:List UInt32).map ah).flatten))]⟩
@[reducible] def ai(len kQ pk OY:Nat)(bw jU:List UInt32)(sin:aS)(r:EV)(sout:aS):Prop:=LX bp fn a8 (inv1 len kQ pk OY bw jU) sin r sout
theorem e0 (a : Ws) (c : Nat) (b : Ws) (d : Nat) {r : EV} {sout : aS}  (hL : ai c d 0 0 a b [(100000, (pW a)), (100001, (pW b))] r sout) : au bp 215 [(.row 100000 0 c 1), (.row 100001 0 d 1)] [(100000, (pW a)), (100001, (pW b))] r sout :=
 NH func215 [] [.q,.q,.aH [0,1,4,8,9]] True.intro hL
theorem l10(b c g i:Nat)(j l z:Ws)(m s:Nat)(z1:Ws)(n d d1:Nat)(w:UInt32)(z2 d2:Nat){r:EV}{sout:aS}{sin:aS}(hs:kF fn sin)(h1:i<b)(h2:au bp 232 [.row 100000 0 b 1,.pv (vI (i:Int))] [(100000,(pW j))] (.pv (vU m)) [(100000,(pW z))])(h3:(4294967296+m)%18446744073709551616=s)(h4:au bp 232 [.row 100000 0 c 1,.pv (vI (i:Int))] [(100000,(pW l))] (.pv (vU n)) [(100000,(pW z1))])(h5:((s:Nat)-(n:Nat):Int)%18446744073709551616=(d:Int))(h6:((d:Nat)-(g:Nat):Int)%18446744073709551616=(d1:Int))(h7:d1%4294967296=w.toNat)(h8:d1/2^(min 32 64)=z2)(h9:((1:Nat)-(z2:Nat):Int)%18446744073709551616=(d2:Int))(cw:i<z.length)(fg:(i+1)<9223372036854775808)(hL:ai b c d2 (i+1) (z.set i w) z1 sin r sout):ai b c g i j l sin r sout :=
 Li [1,1,1,1,1,1,1,1,1,2,2] [.a,.q,.t,.q,.aR [.o,.o,(.bG [(100000,100000)] none (.pv (vU m)) [(100000,(pW z))]),iU s,.o,.o,(.bG [(100001,100000)] none (.pv (vU n)) [(100000,(pW z1))]),iU d,.o,iU d1],.aR [.o,.o,.o,iW w,.o,iU z2,iU d2,(.nat i),(.cells (.pure (((z.set i w):Ws).map ah).flatten))],.h 0 (iI (((i+1):Nat):Int)),.aH [0,1,4,8,9]] hs (Jd (aj h1) h2 (dD h3) h4 (di h5) (di h6) (cC h7) (cN (k := .u64) h8) (di h9) (cj (rN i) h1) (gV aW (z:Ws) w cw) (aL fg)) hL
theorem c9(b c d g:Nat)(i j:Ws){sin:aS}(hs:kF fn sin)(hi:sin.all (fun p=>vJ p.1||(aS.get [(100000,(pW i)),(100001,(pW j))] p.1).isSome)=true)(h1:b≤g):ai b c d g i j sin (.pv (.aF [])) [(100000,(pW i)),(100001,(pW j))] :=
 FI [] [.a,.q,.f,.ord [100000,100001]] hs hi (y1 (aq h1))
end fN
namespace fH
@[reducible] def fn:Func:=Tryz.f216
def a8:List eR:=focus [0,2,0,0,0] [.code (aP fn)]
def inv1(wa:Nat)(a:List UInt32):St:=⟨[(0,(.row 100000 0 wa 1))],[(100000,(.pure ((a:List UInt32).map ah).flatten))]⟩
@[reducible] def ai(wa:Nat)(a:List UInt32)(sin:aS)(r:EV)(sout:aS):Prop:=LX bp fn a8 (inv1 wa a) sin r sout
theorem e0 (a : Ws) (b : Nat) {r : EV} {sout : aS}  (hL : ai b a [(100000, (pW a))] r sout) : au bp 216 [(.row 100000 0 b 1)] [(100000, (pW a))] r sout :=
 NH func216 [] [.q,.aH [0]] True.intro hL
theorem l10(b:Nat)(a:Ws)(k:Nat)(v:UInt32)(u:Nat){r:EV}{sout:aS}{sin:aS}(hs:kF fn sin)(h1:0<b)(h2:az ((b:Int)-1))(h3:((b:Int)-1)=(k:Int))(h4:k<b)(h5:a[k]? = some v)(h6:v.toNat=0)(h7:((b:Int)-1)=(u:Int))(h8:u≤b)(hL:ai u a sin r sout):ai b a sin r sout :=
 Li [1,1,1,1,1,1,2,1,1,1,1,1,1,5] [.a,.aR [.o,.o,.o,.o,.o,.o,.o,(iI ((b:Int)-1)),(.nat k),(.ev (.pv (vW v))),.o,(.dec true)],.t,.aR [.o,.o,.o,(iI ((b:Int)-1)),(.fR 0 u [])],.aH [0]] hs (NI (aj h1) (aj h1) (aj h1) (aj h1) (aU h2) (aj h1) (cj h3 h4) (aj h1) (gr (enc:=ah) (f:=fun a=>(vW a)) (fun _=>rfl) h5) (aj h1) (aj h1) (aJ h6) (aU h2) (W9 (Eq.refl (0:Int)) h7 (Or.inl (Eq.refl 0)) (ago u) h8)) hL
theorem c9(b:Nat)(a:Ws)(k:Nat)(v:UInt32){sin:aS}(hs:kF fn sin)(hi:sin.all (fun p=>vJ p.1||(aS.get [(100000,(.pure (((a.take b):Ws).map ah).flatten))] p.1).isSome)=true)(h1:0<b)(h2:az ((b:Int)-1))(h3:((b:Int)-1)=(k:Int))(h4:k<b)(h5:a[k]? = some v)(h6:v.toNat≠0):ai b a sin (.row 100000 0 b 1) [(100000,(.pure (((a.take b):Ws).map ah).flatten))] :=
 FI [1,1,1,1,1,1,2] [.a,.aR [.o,.o,.o,.o,.o,.o,.o,(iI ((b:Int)-1)),(.nat k),(.ev (.pv (vW v))),.o,(.dec true)],.f,.q,.cut 100000 (b*1) (((a.take b):Ws).map ah).flatten,.ord [100000]] hs hi (JV (aj h1) (aj h1) (aj h1) (aj h1) (aU h2) (aj h1) (cj h3 h4) (aj h1) (gr (enc:=ah) (f:=fun a=>(vW a)) (fun _=>rfl) h5) (aj h1) (aj h1) (ax h6) (xm aW (a:Ws) b))
theorem kA(b:Nat)(a:Ws){sin:aS}(hs:kF fn sin)(hi:sin.all (fun p=>vJ p.1||(aS.get [(100000,(.pure (((a.take b):Ws).map ah).flatten))] p.1).isSome)=true)(h1:b≤0):ai b a sin (.row 100000 0 b 1) [(100000,(.pure (((a.take b):Ws).map ah).flatten))] :=
 FI [] [.a,.aR [.o,.o,.o,.o,.skip,.skip,.skip,.skip,.skip,.skip,.skip,(.dec false)],.a,.q,.cut 100000 (b*1) (((a.take b):Ws).map ah).flatten,.ord [100000]] hs hi (y9 (aq h1) (aq h1) (aq h1) (aq h1) (aq h1) (aq h1) (aq h1) (aq h1) (xm aW (a:Ws) b))
end fH
namespace kI
theorem e0(a:av)(h1:a.cD.length=0):Cp 217 [a.pv] (vB (!a.neg)) :=
 eD func217 [] [.q,.h 2 (iL a.cD),.t,.q] (y2 (ak ah a.cD) (aJ h1))
theorem e1(a:av)(k:Nat)(v:UInt32)(h1:a.cD.length≠0)(h2:az ((a.cD.length:Int)-1))(h3:((a.cD.length:Int)-1)=(k:Int))(h4:a.cD[k]? = some v):Cp 217 [a.pv] (vB ((v.toNat:Int) != 0)) :=
 eD func217 [1,1,1,1,3] [.q,.h 2 (iL a.cD),.f,.aR [.o,.o,.o,.o,(iL a.cD),(iI ((a.cD.length:Int)-1)),(.row k (ah v))]] (y5 (ak ah a.cD) (ax h1) (ak ah a.cD) (aU h2) (bm ah h3 h4))
end kI
namespace nj
theorem e0(a:Ws)(i:Int)(k:Nat)(v:UInt32)(h1:i<(a.length:Int))(h2:i=(k:Int))(h3:a[k]? = some v):Cp 232 [af a,vI i] (vU v.toNat) :=
 eD func232 [1,1,3] [.q,.h 2 (iL a),.t,.aR [.o,.o,(.row k (ah v)),.o,iU v.toNat]] (y4 (ak ah a) (br h1) (bm ah h2 h3) (nN v))
theorem e1(a:Ws)(i:Int)(h1:(a.length:Int)≤i):Cp 232 [af a,vI i] (vU 0) :=
 eD func232 [] [.q,.h 2 (iL a),.f,.q] (y2 (ak ah a) (bu h1))
end nj
namespace mz
theorem e0(a:Ws)(b:Nat)(i:Int)(k:Nat)(v:UInt32)(h1:i<(b:Int))(h2:i=(k:Int))(h3:k<b)(h4:a[k]? = some v):au bp 232 [(.row 100000 0 b 1),eI i] [(100000,(pW a))] (.pv (vU v.toNat)) [(100000,(pW a))] :=
 MN func232 [1,2] [.q,.q,.t,.aR [.o,.o,(.nat k),(.ev (.pv (vW v))),iU v.toNat],.ord [100000]] (y4 (br h1) (cj h2 h3) (gr (enc:=ah) (f:=fun a=>(vW a)) (fun _=>rfl) h4) (nN v))
theorem e1(a:Ws)(b:Nat)(i:Int)(h1:(b:Int)≤i):au bp 232 [(.row 100000 0 b 1),eI i] [(100000,(pW a))] (.pv (vU 0)) [(100000,(pW a))] :=
 MN func232 [] [.q,.q,.f,.q,.ord [100000]] (y1 (bu h1))
end mz
namespace dQ
@[reducible] def fn:Func:=Tryz.f233
def a8:List eR:=focus [0,2,0,0,2,1,2,0,2,0,0,2,0,0] [.code (aP fn)]
def inv1(Uz:Int)(x_4:UInt32):St:=⟨[(3,(eI Uz)),(4,(eW x_4))],[]⟩
@[reducible] def ai(Uz:Int)(x_4:UInt32)(r:PV):Prop:=L bp fn a8 (inv1 Uz x_4) r
theorem e0(a:Ws)(h1:a.length=0):Cp 233 [af a] (vI 0) :=
 eD func233 [] [.q,.h 1 (iL a),.t,.q] (y2 (ak ah a) (aJ h1))
theorem e1(a:Ws)(k:Nat)(v:UInt32){r:PV}(h1:a.length≠0)(h2:az ((a.length:Int)-1))(h3:az (32*((a.length:Int)-1)))(h4:((a.length:Int)-1)=(k:Int))(h5:a[k]? = some v)(hL:ai (32*((a.length:Int)-1)) v r):Cp 233 [af a] r :=
 eG func233 [1,1,1,1,1,1,1,3] [.q,.h 1 (iL a),.f,.aR [.o,(iL a),(iI ((a.length:Int)-1)),(iI (32*((a.length:Int)-1)))],.aR [.o,.o,(iL a),(iI ((a.length:Int)-1)),(.row k (ah v))],.aH [3,4]] (y8 (ak ah a) (ax h1) (ak ah a) (aU h2) (o8 h3) (ak ah a) (aU h2) (bm ah h4 h5)) hL
theorem l10(b:Int)(c z:UInt32){r:PV}(h1:0<c.toNat)(h2:az (b+1))(h3:c.toNat/2^(min 1 32)=z.toNat)(hL:ai (b+1) z r):ai b c r :=
 lG [] [.a,.q,.t,.h 1 (iI (b+1)),.h 1 (iW z),.aH [3,4]] (y3 (aj h1) (vT h2) (lk (k := .u64) h3)) hL
theorem c9(b:Int)(c:UInt32)(h1:c.toNat≤0):ai b c (vI b) :=
 lD [] [.a,.q,.f,.q] (y1 (aq h1))
end dQ
namespace xp
theorem e0(a b:ag)(c d g i j k:av)(l:Int)(h1:Cp 52 [a.pv] (.aF [c.pv,d.pv]))(h2:Cp 52 [b.pv] (.aF [g.pv,i.pv]))(h3:Cp 54 [c.pv,i.pv] j.pv)(h4:Cp 54 [g.pv,d.pv] k.pv)(h5:Cp 53 [j.pv,k.pv] (vI l)):Cp 17 [a.pv,b.pv] (vI l) :=
 eD func17 [] [.q,.h 1 (.pv (.aF [c.pv,d.pv])),.h 1 (.pv (.aF [g.pv,i.pv])),dr 7 1 [.none,.none,(.pv j.pv),.none,.none,(.pv k.pv),(.pv (vI l))]] (y5 h1 h2 h3 h4 h5)
end xp
namespace zL
theorem e0(n:Int)(of a:av)(b:ag)(h1:Cp 56 [vI n] of.pv)(h2:Cp 57 [] a.pv)(h3:Cp 55 [of.pv,a.pv] b.pv):Cp 18 [vI n] b.pv :=
 eD func18 [] [.q,.aR [.o,(.pv of.pv),(.pv a.pv),(.pv b.pv)]] (y3 h1 h2 h3)
end zL
namespace qS
theorem e0(a:ag)(b c d:av)(g:Int)(i:ByteArray)(h1:Cp 52 [a.pv] (.aF [b.pv,c.pv]))(h2:Cp 57 [] d.pv)(h3:Cp 53 [c.pv,d.pv] (vI g))(h4:g=0)(h5:Cp 76 [b.pv] (.str i)):Cp 31 [a.pv] (.str i) :=
 eD func31 [] [.q,.h 1 (.pv (.aF [b.pv,c.pv])),dr 4 0 [.none,(.pv d.pv),(.pv (vI g))],.t,.h 1 (.pv (.str i))] (y5 h1 h2 h3 (bQ h4) h5)
theorem e1(a:ag)(b c d:av)(g:Int)(i j:ByteArray)(h1:Cp 52 [a.pv] (.aF [b.pv,c.pv]))(h2:Cp 57 [] d.pv)(h3:Cp 53 [c.pv,d.pv] (vI g))(h4:g≠0)(h5:Cp 76 [b.pv] (.str i))(h6:i.size+(ByteArray.mk #[47]).size<9223372036854775808)(h7:Cp 76 [c.pv] (.str j))(h8:(i++(ByteArray.mk #[47])).size+j.size<9223372036854775808):Cp 31 [a.pv] (.str ((i++(ByteArray.mk #[47]))++j)) :=
 eD func31 [] [.q,.h 1 (.pv (.aF [b.pv,c.pv])),dr 4 0 [.none,(.pv d.pv),(.pv (vI g))],.f,dr 6 1 [.none,(.pv (.str i)),(.pv (.str (i++(ByteArray.mk #[47])))),.none,(.pv (.str j)),(.pv (.str ((i++(ByteArray.mk #[47]))++j)))]] (y8 h1 h2 h3 (bA h4) h5 (xj h6) h7 (xj h8))
end qS
namespace rk
theorem e0(n:Int)(of a:av)(b:ag)(h1:Cp 88 [vI n] of.pv)(h2:Cp 89 [] a.pv)(h3:Cp 87 [of.pv,a.pv] b.pv):Cp 36 [vI n] b.pv :=
 eD func36 [] [.q,.aR [.o,(.pv of.pv),(.pv a.pv),(.pv b.pv)]] (y3 h1 h2 h3)
end rk
namespace cW
theorem e0(a:ag)(h1:a.num.length=0)(h2:a.den.length=0):Cp 50 [a.pv] (vB (!a.neg)) :=
 eD func50 [] [.q,.aR [.o,.o,(iL a.num),.o,.o,.o,.o,(iL a.den),.o,(.dec true)],.t,.q] (y8 (ak ah a.num) (aJ h1) (aJ h1) (aJ h1) (ak ah a.den) (aJ h1) (aJ h1) (aJ h2))
theorem e3(a:ag)(b:Bool)(h1:a.num.length=0)(h2:a.den.length≠0)(h3:Cp 99 [af a.num] (vB b))(h4:b=false):Cp 50 [a.pv] (vB false) :=
 eD func50 [] [.q,.aR [.o,.o,(iL a.num),.o,.o,.o,.o,(iL a.den),.o,(.dec true)],.f,.aR [.o,.o,(.pv (vB b)),.o,.skip,.skip,.skip,(.dec false),.o,.skip,.skip,.skip,.skip,.skip,.skip,.skip,.skip,.skip,.skip]] (y23 (ak ah a.num) (aJ h1) (aJ h1) (aJ h1) (ak ah a.den) (aJ h1) (aJ h1) (ax h2) h3 h4 h4 h4 h4 rF rF rF rF rF rF rF rF rF rF)
theorem e4(a:ag)(b c:Bool)(d g:av)(i:Int)(h1:a.num.length≠0)(h2:Cp 99 [af a.num] (vB b))(h3:b=true)(h4:Cp 99 [af a.den] (vB c))(h5:c=true)(h6:Cp 101 [(⟨false,a.num⟩:av).pv,(⟨false,a.den⟩:av).pv] d.pv)(h7:Cp 89 [] g.pv)(h8:Cp 100 [d.pv,g.pv] (vI i)):Cp 50 [a.pv] (vB (i==0)) :=
 eD func50 [] [.q,.aR [.o,.o,(iL a.num),.o,.o,.skip,.skip,.skip,.skip,(.dec false)],.a,.aR [.o,.o,(.pv (vB b)),.o,.o,.o,(.pv (vB c)),(.dec true),.o,.o,.o,.o,.o,.o,.o,(.pv d.pv),(.pv g.pv),(.pv (vI i)),.o,(.dec true)]] (y26 (ak ah a.num) (ax h1) (ax h1) (ax h1) (ax h1) (ax h1) h2 h3 h3 h3 h4 h3 h5 h5 h5 h5 h5 h5 h5 h6 h5 h7 h5 h8 h5 h5)
theorem e5(a:ag)(b c:Bool)(h1:a.num.length≠0)(h2:Cp 99 [af a.num] (vB b))(h3:b=true)(h4:Cp 99 [af a.den] (vB c))(h5:c=false):Cp 50 [a.pv] (vB false) :=
 eD func50 [] [.q,.aR [.o,.o,(iL a.num),.o,.o,.skip,.skip,.skip,.skip,(.dec false)],.a,.aR [.o,.o,(.pv (vB b)),.o,.o,.o,(.pv (vB c)),(.dec true),.o,.skip,.skip,.skip,.skip,.skip,.skip,.skip,.skip,.skip,.skip,(.dec false)]] (y23 (ak ah a.num) (ax h1) (ax h1) (ax h1) (ax h1) (ax h1) h2 h3 h3 h3 h4 h3 h5 h5 h5 h5 h5 h5 h5 h5 h5 h5 h5)
theorem e6(a:ag)(b:Bool)(h1:a.num.length≠0)(h2:Cp 99 [af a.num] (vB b))(h3:b=false):Cp 50 [a.pv] (vB false) :=
 eD func50 [] [.q,.aR [.o,.o,(iL a.num),.o,.o,.skip,.skip,.skip,.skip,(.dec false)],.a,.aR [.o,.o,(.pv (vB b)),.o,.skip,.skip,.skip,(.dec false),.o,.skip,.skip,.skip,.skip,.skip,.skip,.skip,.skip,.skip,.skip]] (YN (ak ah a.num) (ax h1) (ax h1) (ax h1) (ax h1) (ax h1) h2 h3 h3 h3 h3 rF rF rF rF rF rF rF rF rF rF)
end cW
namespace mA
@[reducible] def fn:Func:=Tryz.f52
theorem e0(a:ag)(b:Bool)(c:av)(h1:Cp 102 [a.pv] (vB b))(h2:b=false)(h3:Cp 57 [] c.pv):Cp 52 [a.pv] (.aF [(⟨false,[]⟩:av).pv,c.pv]) :=
 eD func52 [] [.q,.aR [.o,(.pv (vB b)),.o,.o,.skip,.skip,.skip,.skip,(.dec true)],.a,.h 1 (.pv c.pv)] (y7 h1 (cA h2) (cA h2) (cA h2) (cA h2) (cA h2) h3)
theorem e1(a:ag)(b:Bool)(c:av)(h1:Cp 102 [a.pv] (vB b))(h2:b=true)(h3:a.num.length=0)(h4:Cp 57 [] c.pv):Cp 52 [a.pv] (.aF [(⟨false,[]⟩:av).pv,c.pv]) :=
 eD func52 [] [.q,.aR [.o,(.pv (vB b)),.o,.o,.o,.o,(iL a.num),.o,(.dec false)],.t,.h 1 (.pv c.pv)] (y9 h1 (aM h2) (aM h2) (aM h2) (ak ah a.num) (aM h2) (aM h2) (aJ h3) h4)
theorem RF(a:ag):rf bp FH fn [0,2,0,0,2,1,2,0] [] [.none,.none,.none,.none,.none,(.fR (a.num:List UInt32).length 0 ((a.num:List UInt32).map ah)),.none,.none] ⟨[(1,(.ptr 1 0)),(2,(.ptr 2 0)),(3,(.ptr 3 0))],[(3,(.lit [(eB false),(.pv (.list []))])),(2,(.lit [(eB false),(.pv (.list []))])),(1,(.lit [(eB a.neg),(.pv (af a.num)),(.pv (af a.den))]))]⟩:=by unfold rf Ao;kernel_rfl
theorem RG(a:ag):rf bp FH fn [0,2,0,0,2,1,2,0,2,0] [] [.none,.none,.none,.none,(.fR (a.den:List UInt32).length 0 ((a.den:List UInt32).map ah)),.none,.none,.none] ⟨[(1,(.ptr 1 0)),(2,(.ptr 2 0)),(3,(.ptr 3 0))],[(3,(.lit [(eB false),(.pv (.list []))])),(2,(.lit [(eB a.neg),(.pv (af a.num))])),(1,(.lit [(eB a.neg),(.pv (af a.num)),(.pv (af a.den))]))]⟩:=by unfold rf Ao;kernel_rfl
theorem e2(a:ag)(b:Bool)(h1:Cp 102 [a.pv] (vB b))(h2:b=true)(h3:a.num.length≠0)(h4:(([]:Ws)++a.num:Ws).length*4≤140737488355328)(h5:(([]:Ws)++a.den:Ws).length*4≤140737488355328):Cp 52 [a.pv] (.aF [(⟨a.neg,a.num⟩:av).pv,(⟨false,a.den⟩:av).pv]) :=
 eD func52 [1,1,1,1,1,1,1,1,6,3,1,6,3] [.q,.aR [.o,(.pv (vB b)),.o,.o,.o,.o,(iL a.num),.o,(.dec false)],.f,.aH [1,2,3],.any [] [.none,.none,.none,.none,.none,(.fR (a.num:Ws).length 0 ((a.num:Ws).map ah)),.none,.none],.aH [1,2,3],.any [] [.none,.none,.none,.none,(.fR (a.den:Ws).length 0 ((a.den:Ws).map ah)),.none,.none,.none]] (NI h1 (aM h2) (aM h2) (aM h2) (ak ah a.num) (aM h2) (aM h2) (ax h3) (kE aW ([]:Ws) (a.num:Ws) 4 (Eq.refl ([]:Ws).length) h4 rfl) (cJ aW (a.num:Ws) (Eq.refl (a.num:Ws).length)) (RF a) (kE aW ([]:Ws) (a.den:Ws) 4 (Eq.refl ([]:Ws).length) h5 rfl) (cJ aW (a.den:Ws) (Eq.refl (a.den:Ws).length)) (RG a))
end mA
namespace jz
theorem e0(n d:av)(a:Int)(h1:Cp 103 [n.pv] (vI a))(h2:a=0):Cp 55 [n.pv,d.pv] ((⟨false,[],[]⟩:ag).pv) :=
 eD func55 [] [.q,.h 1 (.pv (vI a)),.t,.q] (y2 h1 (bQ h2))
theorem e1(n d:av)(a b:Int)(c g i:av)(j:Int)(k l m:av)(o:Option Int)(p s:av)(u:Option Int)(h1:Cp 103 [n.pv] (vI a))(h2:a≠0)(h3:Cp 103 [d.pv] (vI b))(h4:b<0)(h5:Cp 109 [n.pv] c.pv)(h6:Cp 109 [d.pv] g.pv)(h7:Cp 110 [c.pv,g.pv] i.pv)(h8:Cp 103 [c.pv] (vI j))(h9:j<0)(cw:Cp 109 [c.pv] k.pv)(fg:Cp 111 [k.pv,i.pv] (.aF [l.pv,m.pv,bJ o]))(iC:Cp 111 [g.pv,i.pv] (.aF [p.pv,s.pv,bJ u])):Cp 55 [n.pv,d.pv] ((⟨(decide (j<0)),l.cD,p.cD⟩:ag).pv) :=
 eD func55 [] [.q,.h 1 (.pv (vI a)),.f,.h 1 (.pv (vI b)),.t,dr 4 2 [.none,(.pv c.pv),.none,(.pv g.pv)],.h 2 (.pv i.pv),.h 1 (.pv (vI j)),.q,.t,.h 1 (.pv k.pv),.h 2 (.pv (.aF [l.pv,m.pv,bJ o])),.h 2 (.pv (.aF [p.pv,s.pv,bJ u])),.q] (Jd h1 (bA h2) h3 (br h4) h5 h6 h7 h8 (br h9) cw fg iC)
theorem e2(n d:av)(a b:Int)(c g i:av)(j:Int)(k l:av)(m:Option Int)(o p:av)(s:Option Int)(h1:Cp 103 [n.pv] (vI a))(h2:a≠0)(h3:Cp 103 [d.pv] (vI b))(h4:b<0)(h5:Cp 109 [n.pv] c.pv)(h6:Cp 109 [d.pv] g.pv)(h7:Cp 110 [c.pv,g.pv] i.pv)(h8:Cp 103 [c.pv] (vI j))(h9:0≤j)(cw:Cp 111 [c.pv,i.pv] (.aF [k.pv,l.pv,bJ m]))(fg:Cp 111 [g.pv,i.pv] (.aF [o.pv,p.pv,bJ s])):Cp 55 [n.pv,d.pv] ((⟨(decide (j<0)),k.cD,o.cD⟩:ag).pv) :=
 eD func55 [] [.q,.h 1 (.pv (vI a)),.f,.h 1 (.pv (vI b)),.t,dr 4 2 [.none,(.pv c.pv),.none,(.pv g.pv)],.h 2 (.pv i.pv),.h 1 (.pv (vI j)),.q,.f,.h 2 (.pv (.aF [k.pv,l.pv,bJ m])),.h 2 (.pv (.aF [o.pv,p.pv,bJ s])),.q] (HY h1 (bA h2) h3 (br h4) h5 h6 h7 h8 (bu h9) cw fg)
theorem e3(n d:av)(a b:Int)(c:av)(g:Int)(i j k:av)(l:Option Int)(m o:av)(p:Option Int)(h1:Cp 103 [n.pv] (vI a))(h2:a≠0)(h3:Cp 103 [d.pv] (vI b))(h4:0≤b)(h5:Cp 110 [n.pv,d.pv] c.pv)(h6:Cp 103 [n.pv] (vI g))(h7:g<0)(h8:Cp 109 [n.pv] i.pv)(h9:Cp 111 [i.pv,c.pv] (.aF [j.pv,k.pv,bJ l]))(cw:Cp 111 [d.pv,c.pv] (.aF [m.pv,o.pv,bJ p])):Cp 55 [n.pv,d.pv] ((⟨(decide (g<0)),j.cD,m.cD⟩:ag).pv) :=
 eD func55 [] [.q,.h 1 (.pv (vI a)),.f,.h 1 (.pv (vI b)),.f,.h 2 (.pv c.pv),.h 1 (.pv (vI g)),.q,.t,.h 1 (.pv i.pv),.h 2 (.pv (.aF [j.pv,k.pv,bJ l])),.h 2 (.pv (.aF [m.pv,o.pv,bJ p])),.q] (JU h1 (bA h2) h3 (bu h4) h5 h6 (br h7) h8 h9 cw)
theorem e4(n d:av)(a b:Int)(c:av)(g:Int)(i j:av)(k:Option Int)(l m:av)(o:Option Int)(h1:Cp 103 [n.pv] (vI a))(h2:a≠0)(h3:Cp 103 [d.pv] (vI b))(h4:0≤b)(h5:Cp 110 [n.pv,d.pv] c.pv)(h6:Cp 103 [n.pv] (vI g))(h7:0≤g)(h8:Cp 111 [n.pv,c.pv] (.aF [i.pv,j.pv,bJ k]))(h9:Cp 111 [d.pv,c.pv] (.aF [l.pv,m.pv,bJ o])):Cp 55 [n.pv,d.pv] ((⟨(decide (g<0)),i.cD,l.cD⟩:ag).pv) :=
 eD func55 [] [.q,.h 1 (.pv (vI a)),.f,.h 1 (.pv (vI b)),.f,.h 2 (.pv c.pv),.h 1 (.pv (vI g)),.q,.f,.h 2 (.pv (.aF [i.pv,j.pv,bJ k])),.h 2 (.pv (.aF [l.pv,m.pv,bJ o])),.q] (y9 h1 (bA h2) h3 (bu h4) h5 h6 (bu h7) h8 h9)
end jz
namespace xr
theorem e0(of:av)(h1:Cp 56 [vI 1] of.pv):Cp 57 [] of.pv :=
 eD func57 [] [.q,.h 0 (.pv of.pv)] (y1 h1)
end xr
namespace xu
theorem e0(a b:ag)(c d g i j k l m:av)(n:ag)(h1:Cp 52 [a.pv] (.aF [c.pv,d.pv]))(h2:Cp 52 [b.pv] (.aF [g.pv,i.pv]))(h3:Cp 54 [c.pv,i.pv] j.pv)(h4:Cp 54 [g.pv,d.pv] k.pv)(h5:Cp 74 [j.pv,k.pv] l.pv)(h6:Cp 54 [d.pv,i.pv] m.pv)(h7:Cp 55 [l.pv,m.pv] n.pv):Cp 62 [a.pv,b.pv] n.pv :=
 eD func62 [] [.q,.h 1 (.pv (.aF [c.pv,d.pv])),.h 1 (.pv (.aF [g.pv,i.pv])),dr 11 1 [.none,.none,(.pv j.pv),.none,.none,(.pv k.pv),(.pv l.pv),.none,.none,(.pv m.pv),(.pv n.pv)]] (y7 h1 h2 h3 h4 h5 h6 h7)
end xu
namespace pn
theorem e0(a:ag)(b c:av)(d:Int)(h1:Cp 150 [a.pv] (.aF [b.pv,c.pv]))(h2:Cp 151 [b.pv] (vI d)):Cp 85 [a.pv] (vI d) :=
 eD func85 [] [.q,.h 1 (.pv (.aF [b.pv,c.pv])),.h 1 (.pv (vI d))] (y2 h1 h2)
end pn
namespace qo
theorem e0(a b:ag)(c d g i j k l m:av)(n:ag)(h1:Cp 150 [a.pv] (.aF [c.pv,d.pv]))(h2:Cp 150 [b.pv] (.aF [g.pv,i.pv]))(h3:Cp 153 [c.pv,i.pv] j.pv)(h4:Cp 153 [g.pv,d.pv] k.pv)(h5:Cp 152 [j.pv,k.pv] l.pv)(h6:Cp 153 [d.pv,i.pv] m.pv)(h7:Cp 87 [l.pv,m.pv] n.pv):Cp 86 [a.pv,b.pv] n.pv :=
 eD func86 [] [.q,.h 1 (.pv (.aF [c.pv,d.pv])),.h 1 (.pv (.aF [g.pv,i.pv])),dr 11 1 [.none,.none,(.pv j.pv),.none,.none,(.pv k.pv),(.pv l.pv),.none,.none,(.pv m.pv),(.pv n.pv)]] (y7 h1 h2 h3 h4 h5 h6 h7)
end qo
namespace ja
theorem e0(n d:av)(a:Int)(h1:Cp 151 [n.pv] (vI a))(h2:a=0):Cp 87 [n.pv,d.pv] ((⟨false,[],[]⟩:ag).pv) :=
 eD func87 [] [.q,.h 1 (.pv (vI a)),.t,.q] (y2 h1 (bQ h2))
theorem e1(n d:av)(a b:Int)(c g i j k:av)(l:Int)(m o:av)(p:Int)(h1:Cp 151 [n.pv] (vI a))(h2:a≠0)(h3:Cp 151 [d.pv] (vI b))(h4:b<0)(h5:Cp 154 [n.pv] c.pv)(h6:Cp 154 [d.pv] g.pv)(h7:Cp 101 [c.pv,g.pv] i.pv)(h8:Cp 155 [c.pv,i.pv] (.aF [j.pv,k.pv,vI l]))(h9:Cp 155 [g.pv,i.pv] (.aF [m.pv,o.pv,vI p])):Cp 87 [n.pv,d.pv] ((⟨j.neg,j.cD,m.cD⟩:ag).pv) :=
 eD func87 [] [.q,.h 1 (.pv (vI a)),.f,.h 1 (.pv (vI b)),.t,dr 4 2 [.none,(.pv c.pv),.none,(.pv g.pv)],.h 2 (.pv i.pv),.h 2 (.pv (.aF [j.pv,k.pv,vI l])),.h 2 (.pv (.aF [m.pv,o.pv,vI p])),.q] (y9 h1 (bA h2) h3 (br h4) h5 h6 h7 h8 h9)
theorem e2(n d:av)(a b:Int)(c g i:av)(j:Int)(k l:av)(m:Int)(h1:Cp 151 [n.pv] (vI a))(h2:a≠0)(h3:Cp 151 [d.pv] (vI b))(h4:0≤b)(h5:Cp 101 [n.pv,d.pv] c.pv)(h6:Cp 155 [n.pv,c.pv] (.aF [g.pv,i.pv,vI j]))(h7:Cp 155 [d.pv,c.pv] (.aF [k.pv,l.pv,vI m])):Cp 87 [n.pv,d.pv] ((⟨g.neg,g.cD,k.cD⟩:ag).pv) :=
 eD func87 [] [.q,.h 1 (.pv (vI a)),.f,.h 1 (.pv (vI b)),.f,.h 2 (.pv c.pv),.h 2 (.pv (.aF [g.pv,i.pv,vI j])),.h 2 (.pv (.aF [k.pv,l.pv,vI m])),.q] (y7 h1 (bA h2) h3 (bu h4) h5 h6 h7)
end ja
namespace qp
theorem e0(of:av)(h1:Cp 88 [vI 1] of.pv):Cp 89 [] of.pv :=
 eD func89 [] [.q,.h 0 (.pv of.pv)] (y1 h1)
end qp
namespace kJ
theorem e0(m:Ws)(k:Nat)(v:UInt32)(h1:0<m.length)(h2:az ((m.length:Int)-1))(h3:((m.length:Int)-1)=(k:Int))(h4:m[k]? = some v):Cp 99 [af m] (vB ((v.toNat:Int) != 0)) :=
 eD func99 [1,1,1,1,1,1,1,1,3] [.q,.aR [.o,(iL m),.o,.o,.o,.o,(iL m),(iI ((m.length:Int)-1)),(.row k (ah v)),.o,.o,(.dec true)]] (Jd (ak ah m) (aj h1) (aj h1) (aj h1) (ak ah m) (aj h1) (aU h2) (aj h1) (bm ah h3 h4) (aj h1) (aj h1) (aj h1))
theorem e1(m:Ws)(h1:m.length≤0):Cp 99 [af m] (vB false) :=
 eD func99 [] [.q,.aR [.o,(iL m),.o,.o,.skip,.skip,.skip,.skip,.skip,.skip,.skip,(.dec false)]] (y9 (ak ah m) (aq h1) (aq h1) (aq h1) (aq h1) (aq h1) (aq h1) (aq h1) (aq h1))
end kJ
namespace gf
theorem e0(a:ag)(h1:a.num.length=0)(h2:a.den.length=0):Cp 102 [a.pv] (vB (!a.neg)) :=
 eD func102 [] [.q,.aR [.o,.o,(iL a.num),.o,.o,.o,.o,(iL a.den),.o,(.dec true)],.t,.q] (y8 (ak ah a.num) (aJ h1) (aJ h1) (aJ h1) (ak ah a.den) (aJ h1) (aJ h1) (aJ h2))
theorem e1(a:ag)(h1:a.num.length=0)(h2:a.den.length≠0):Cp 102 [a.pv] (vB false) :=
 eD func102 [] [.q,.aR [.o,.o,(iL a.num),.o,.o,.o,.o,(iL a.den),.o,(.dec true)],.f,dr 9 1 [],.aR [.o,.o,(iL a.num),.o,.o,.skip,.skip,.skip,.skip,(.dec true),.o,.skip,.skip,.skip,.o,.o,.skip,.skip,.skip],.a,.q] (S5 (ak ah a.num) (aJ h1) (aJ h1) (aJ h1) (ak ah a.den) (aJ h1) (aJ h1) (ax h2) (ak ah a.num) (aJ h1) (aJ h1) (aJ h1) (aJ h1) (aJ h1) rT rT rT rT rT rT)
theorem e2(a:ag)(h1:a.num.length≠0)(h2:a.den.length=0):Cp 102 [a.pv] (vB false) :=
 eD func102 [] [.q,.aR [.o,.o,(iL a.num),.o,.o,.skip,.skip,.skip,.skip,(.dec false)],.a,dr 9 1 [],.aR [.o,.o,(iL a.num),.o,.o,.o,.o,(iL a.den),.o,(.dec false),.o,.skip,.skip,.skip,(.dec true),.o,.skip,.skip,.skip],.a,.q] (S5 (ak ah a.num) (ax h1) (ax h1) (ax h1) (ax h1) (ax h1) (ak ah a.num) (ax h1) (ax h1) (ax h1) (ak ah a.den) (ax h1) (ax h1) (aJ h2) (aJ h2) (aJ h2) (aJ h2) rT rT rT)
theorem e3(a:ag)(b:Bool)(h1:a.num.length≠0)(h2:a.den.length≠0)(h3:Cp 171 [(⟨false,a.num⟩:av).pv] (vB b))(h4:b=false):Cp 102 [a.pv] (vB false) :=
 eD func102 [] [.q,.aR [.o,.o,(iL a.num),.o,.o,.skip,.skip,.skip,.skip,(.dec false)],.a,dr 9 1 [],.aR [.o,.o,(iL a.num),.o,.o,.o,.o,(iL a.den),.o,(.dec false),.o,.o,(.pv (vB b)),.o,(.dec false),.o,.skip,.skip,.skip,(.dec true)],.a,.q] (y22 (ak ah a.num) (ax h1) (ax h1) (ax h1) (ax h1) (ax h1) (ak ah a.num) (ax h1) (ax h1) (ax h1) (ak ah a.den) (ax h1) (ax h1) (ax h2) (ax h2) h3 (ax h2) (ax h2) (cA h4) (cA h4) (cA h4) (cA h4))
theorem e4(a:ag)(b c:Bool)(h1:a.num.length≠0)(h2:a.den.length≠0)(h3:Cp 171 [(⟨false,a.num⟩:av).pv] (vB b))(h4:b=true)(h5:Cp 171 [(⟨false,a.den⟩:av).pv] (vB c))(h6:c=false):Cp 102 [a.pv] (vB false) :=
 eD func102 [] [.q,.aR [.o,.o,(iL a.num),.o,.o,.skip,.skip,.skip,.skip,(.dec false)],.a,dr 9 1 [],.aR [.o,.o,(iL a.num),.o,.o,.o,.o,(iL a.den),.o,(.dec false),.o,.o,(.pv (vB b)),.o,(.dec false),.o,.o,(.pv (vB c)),.o,(.dec false)],.t,.q] (Wf (ak ah a.num) (ax h1) (ax h1) (ax h1) (ax h1) (ax h1) (ak ah a.num) (ax h1) (ax h1) (ax h1) (ak ah a.den) (ax h1) (ax h1) (ax h2) (ax h2) h3 (ax h2) (ax h2) (aM h4) (aM h4) h5 (aM h4) (aM h4) (cA h6))
theorem e5(a:ag)(b c:Bool)(d g:av)(i:Int)(h1:a.num.length≠0)(h2:a.den.length≠0)(h3:Cp 171 [(⟨false,a.num⟩:av).pv] (vB b))(h4:b=true)(h5:Cp 171 [(⟨false,a.den⟩:av).pv] (vB c))(h6:c=true)(h7:Cp 110 [(⟨false,a.num⟩:av).pv,(⟨false,a.den⟩:av).pv] d.pv)(h8:Cp 57 [] g.pv)(h9:Cp 53 [d.pv,g.pv] (vI i)):Cp 102 [a.pv] (vB (i==0)) :=
 eD func102 [] [.q,.aR [.o,.o,(iL a.num),.o,.o,.skip,.skip,.skip,.skip,(.dec false)],.a,dr 9 1 [],.aR [.o,.o,(iL a.num),.o,.o,.o,.o,(iL a.den),.o,(.dec false),.o,.o,(.pv (vB b)),.o,(.dec false),.o,.o,(.pv (vB c)),.o,(.dec false)],.f,.aR [.o,.o,(.pv d.pv),(.pv g.pv),(.pv (vI i))]] (y27 (ak ah a.num) (ax h1) (ax h1) (ax h1) (ax h1) (ax h1) (ak ah a.num) (ax h1) (ax h1) (ax h1) (ak ah a.den) (ax h1) (ax h1) (ax h2) (ax h2) h3 (ax h2) (ax h2) (aM h4) (aM h4) h5 (aM h4) (aM h4) (aM h6) h7 h8 h9)
end gf
namespace xw
theorem e0(a b:ag)(c d g i j k:av)(l:ag)(h1:Cp 52 [a.pv] (.aF [c.pv,d.pv]))(h2:Cp 52 [b.pv] (.aF [g.pv,i.pv]))(h3:Cp 54 [c.pv,g.pv] j.pv)(h4:Cp 54 [d.pv,i.pv] k.pv)(h5:Cp 55 [j.pv,k.pv] l.pv):Cp 117 [a.pv,b.pv] l.pv :=
 eD func117 [] [.q,.h 1 (.pv (.aF [c.pv,d.pv])),.h 1 (.pv (.aF [g.pv,i.pv])),dr 7 1 [.none,.none,(.pv j.pv),.none,.none,(.pv k.pv),(.pv l.pv)]] (y5 h1 h2 h3 h4 h5)
end xw
namespace vn
theorem e0(a:ag)(b c:av)(d:Int)(h1:Cp 52 [a.pv] (.aF [b.pv,c.pv]))(h2:Cp 103 [b.pv] (vI d)):Cp 119 [a.pv] (vI d) :=
 eD func119 [] [.q,.h 1 (.pv (.aF [b.pv,c.pv])),.h 1 (.pv (vI d))] (y2 h1 h2)
end vn
namespace xx
theorem e0(a:ag)(b c d:av)(g:ag)(h1:Cp 52 [a.pv] (.aF [b.pv,c.pv]))(h2:Cp 109 [b.pv] d.pv)(h3:Cp 55 [d.pv,c.pv] g.pv):Cp 128 [a.pv] g.pv :=
 eD func128 [] [.q,.h 1 (.pv (.aF [b.pv,c.pv])),dr 4 1 [.none,(.pv d.pv),.none,(.pv g.pv)]] (y3 h1 h2 h3)
end xx
namespace vo
theorem e1(n d:av)(a:Int)(b:ag)(h1:Cp 103 [d.pv] (vI a))(h2:a≠0)(h3:Cp 55 [n.pv,d.pv] b.pv):Cp 138 [n.pv,d.pv] (.aF [b.pv,.ay]) :=
 eD func138 [] [.q,.h 1 (.pv (vI a)),.f,.h 2 (.pv b.pv)] (y3 h1 (bA h2) h3)
end vo
namespace qq
theorem e0(a:ag)(b c d:av)(g:ag)(h1:Cp 150 [a.pv] (.aF [b.pv,c.pv]))(h2:Cp 154 [b.pv] d.pv)(h3:Cp 87 [d.pv,c.pv] g.pv):Cp 149 [a.pv] g.pv :=
 eD func149 [] [.q,.h 1 (.pv (.aF [b.pv,c.pv])),dr 4 1 [.none,(.pv d.pv),.none,(.pv g.pv)]] (y3 h1 h2 h3)
end qq
namespace gZ
theorem e0(a:ag)(b:Bool)(c:av)(h1:Cp 50 [a.pv] (vB b))(h2:b=false)(h3:Cp 89 [] c.pv):Cp 150 [a.pv] (.aF [(⟨false,[]⟩:av).pv,c.pv]) :=
 eD func150 [] [.q,.aR [.o,(.pv (vB b)),.o,.o,.skip,.skip,.skip,.skip,(.dec true)],.a,.h 1 (.pv c.pv)] (y7 h1 (cA h2) (cA h2) (cA h2) (cA h2) (cA h2) h3)
theorem e1(a:ag)(b:Bool)(c:av)(h1:Cp 50 [a.pv] (vB b))(h2:b=true)(h3:a.num.length=0)(h4:Cp 89 [] c.pv):Cp 150 [a.pv] (.aF [(⟨false,[]⟩:av).pv,c.pv]) :=
 eD func150 [] [.q,.aR [.o,(.pv (vB b)),.o,.o,.o,.o,(iL a.num),.o,(.dec false)],.t,.h 1 (.pv c.pv)] (y9 h1 (aM h2) (aM h2) (aM h2) (ak ah a.num) (aM h2) (aM h2) (aJ h3) h4)
theorem e2(a:ag)(b:Bool)(h1:Cp 50 [a.pv] (vB b))(h2:b=true)(h3:a.num.length≠0):Cp 150 [a.pv] (.aF [(⟨a.neg,a.num⟩:av).pv,(⟨false,a.den⟩:av).pv]) :=
 eD func150 [] [.q,.aR [.o,(.pv (vB b)),.o,.o,.o,.o,(iL a.num),.o,(.dec false)],.f,dr 9 1 []] (y8 h1 (aM h2) (aM h2) (aM h2) (ak ah a.num) (aM h2) (aM h2) (ax h3))
end gZ
namespace qt
theorem e0(a b:ag)(c d g i j k:av)(l:ag)(h1:Cp 150 [a.pv] (.aF [c.pv,d.pv]))(h2:Cp 150 [b.pv] (.aF [g.pv,i.pv]))(h3:Cp 153 [c.pv,g.pv] j.pv)(h4:Cp 153 [d.pv,i.pv] k.pv)(h5:Cp 87 [j.pv,k.pv] l.pv):Cp 157 [a.pv,b.pv] l.pv :=
 eD func157 [] [.q,.h 1 (.pv (.aF [c.pv,d.pv])),.h 1 (.pv (.aF [g.pv,i.pv])),dr 7 1 [.none,.none,(.pv j.pv),.none,.none,(.pv k.pv),(.pv l.pv)]] (y5 h1 h2 h3 h4 h5)
end qt
namespace xy
theorem e0(a b:ag)(c d g i j k:av)(l:ag)(m:Option Int)(h1:Cp 52 [a.pv] (.aF [c.pv,d.pv]))(h2:Cp 52 [b.pv] (.aF [g.pv,i.pv]))(h3:Cp 54 [c.pv,i.pv] j.pv)(h4:Cp 54 [d.pv,g.pv] k.pv)(h5:Cp 138 [j.pv,k.pv] (.aF [l.pv,bJ m])):Cp 180 [a.pv,b.pv] (.aF [l.pv,bJ m]) :=
 eD func180 [] [.q,.h 1 (.pv (.aF [c.pv,d.pv])),.h 1 (.pv (.aF [g.pv,i.pv])),dr 9 2 [.none,.none,(.pv j.pv),.none,.none,(.pv k.pv),(.pv (.aF [l.pv,bJ m]))]] (y5 h1 h2 h3 h4 h5)
end xy
namespace sv
theorem e0(a:ag)(b:Int)(c:ag)(h1:Cp 119 [a.pv] (vI b))(h2:b<0)(h3:Cp 128 [a.pv] c.pv):Cp 181 [a.pv] c.pv :=
 eD func181 [] [.q,.h 1 (.pv (vI b)),.t,.h 1 (.pv c.pv)] (y3 h1 (br h2) h3)
theorem e1(a:ag)(b:Int)(c d:av)(g:ag)(h1:Cp 119 [a.pv] (vI b))(h2:0≤b)(h3:Cp 52 [a.pv] (.aF [c.pv,d.pv]))(h4:Cp 55 [c.pv,d.pv] g.pv):Cp 181 [a.pv] g.pv :=
 eD func181 [] [.q,.h 1 (.pv (vI b)),.f,.aR [.o,(.pv (.aF [c.pv,d.pv])),.o,.o,(.pv g.pv)]] (y4 h1 (bu h2) h3 h4)
end sv
namespace xz
theorem e0(a b c d:ag)(h1:Cp 128 [b.pv] c.pv)(h2:Cp 62 [a.pv,c.pv] d.pv):Cp 186 [a.pv,b.pv] d.pv :=
 eD func186 [] [.q,dr 4 1 [.none,.none,(.pv c.pv),(.pv d.pv)]] (y2 h1 h2)
end xz
namespace tM
theorem e0(a:ag)(b c d g:av)(i:Option Int)(h1:Cp 52 [a.pv] (.aF [b.pv,c.pv]))(h2:Cp 111 [b.pv,c.pv] (.aF [d.pv,g.pv,bJ i])):Cp 188 [a.pv] d.pv :=
 eD func188 [] [.q,.h 1 (.pv (.aF [b.pv,c.pv])),.h 2 (.pv (.aF [d.pv,g.pv,bJ i])),.q] (y2 h1 h2)
end tM
namespace vp
theorem e0(n d:Int)(of a:av)(b:ag)(c:Option Int)(h1:Cp 56 [vI n] of.pv)(h2:Cp 56 [vI d] a.pv)(h3:Cp 138 [of.pv,a.pv] (.aF [b.pv,bJ c])):Cp 224 [vI n,vI d] (.aF [b.pv,bJ c]) :=
 eD func224 [] [.q,.aR [.o,(.pv of.pv),.o,(.pv a.pv),(.pv (.aF [b.pv,bJ c]))]] (y3 h1 h2 h3)
end vp
end Go.Proofs.YtcpnocgollpbhaaGreatDoor.Sym.Path
end
