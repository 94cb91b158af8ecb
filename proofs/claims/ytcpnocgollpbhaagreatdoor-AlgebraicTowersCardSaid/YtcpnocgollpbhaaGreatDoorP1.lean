/- Lemmas for the statements of this seat. -/
import Derived.Test.YtcpnocgollpbhaaGreatDoorT0
noncomputable section
namespace Go.Proofs.YtcpnocgollpbhaaGreatDoor.Sym.Path
open Go Tryz
set_option maxRecDepth 20000
set_option linter.unusedVariables false
namespace nJ
theorem e0(n:Int)(m m1:Nat)(w:UInt32)(z:Nat)(w1:UInt32)(a:az)(h1:n%18446744073709551616=(m:Int))(h2:n<0)(h3:(0-(m:Int))%18446744073709551616=(m1:Int))(h4:m1%4294967296=w.toNat)(h5:m1/2^(min 32 64)=z)(h6:z%4294967296=w1.toNat)(h7:Cp 156 [(vB (decide (n<0))),(af [w,w1])] a.pv):Cp 88 [vI n] a.pv :=
 eD func88 [1,1,1,1,1,1,3] [.q,.h 1 (iU m),.q,.t,.h 1 (iU m1),.aR [.o,.o,.o,iW w,.o,iU z,iW w1,(.fj 0 0 (([w,w1]:Ws).map aj)),(.pv a.pv)]] (y8 (Gy h1) (bA h2) (Df h3) (cL h4) (cS (k := .u64) h5) (cL h6) (kV bc ([w,w1]:Ws)) h7)
theorem e1(n:Int)(m:Nat)(w:UInt32)(z:Nat)(w1:UInt32)(a:az)(h1:n%18446744073709551616=(m:Int))(h2:0≤n)(h3:m%4294967296=w.toNat)(h4:m/2^(min 32 64)=z)(h5:z%4294967296=w1.toNat)(h6:Cp 156 [(vB (decide (n<0))),(af [w,w1])] a.pv):Cp 88 [vI n] a.pv :=
 eD func88 [1,1,1,1,1,3] [.q,.h 1 (iU m),.q,.f,.aR [.o,.o,.o,iW w,.o,iU z,iW w1,(.fj 0 0 (([w,w1]:Ws).map aj)),(.pv a.pv)]] (y7 (Gy h1) (bm h2) (cL h3) (cS (k := .u64) h4) (cL h5) (kV bc ([w,w1]:Ws)) h6)
end nJ
namespace qW
theorem e0(a b c:az)(d:Int)(h1:Cp 168 [a.pv,b.pv] c.pv)(h2:Cp 151 [c.pv] (vI d)):Cp 100 [a.pv,b.pv] (vI d) :=
 eD func100 [] [.q,.aR [.o,.o,(.pv c.pv),(.pv (vI d))]] (y2 h1 h2)
end qW
namespace qX
theorem e0(a b:az)(c d g:Ws)(i:az)(h1:Cp 170 [a.pv] (af c))(h2:Cp 170 [b.pv] (af d))(h3:Cp 169 [af c,af d] (af g))(h4:Cp 156 [vB false,af g] i.pv):Cp 101 [a.pv,b.pv] i.pv :=
 eD func101 [] [.q,dr 6 1 [.none,(.pv (af c)),.none,(.pv (af d)),(.pv (af g)),(.pv i.pv)]] (y4 h1 h2 h3 h4)
end qX
namespace jr
theorem e0(a:az)(b:Ws)(h1:Cp 170 [a.pv] (af b))(h2:b.length=0):Cp 151 [a.pv] (vI 0) :=
 eD func151 [] [.q,.aR [.o,(.pv (af b)),(iL b)],.t,.q] (y3 h1 (an aj b) (aM h2))
theorem e1(a:az)(b:Ws)(c:Bool)(h1:Cp 170 [a.pv] (af b))(h2:b.length≠0)(h3:Cp 197 [a.pv] (vB c))(h4:c=true):Cp 151 [a.pv] (vI (-1)) :=
 eD func151 [] [.q,.aR [.o,(.pv (af b)),(iL b)],.f,.h 1 (.pv (vB c)),.t,.q] (y5 h1 (an aj b) (aB h2) h3 h4)
theorem e2(a:az)(b:Ws)(c:Bool)(h1:Cp 170 [a.pv] (af b))(h2:b.length≠0)(h3:Cp 197 [a.pv] (vB c))(h4:c=false):Cp 151 [a.pv] (vI 1) :=
 eD func151 [] [.q,.aR [.o,(.pv (af b)),(iL b)],.f,.h 1 (.pv (vB c)),.f,.q] (y5 h1 (an aj b) (aB h2) h3 h4)
end jr
namespace jY
theorem e0(a b:az)(c d:Ws)(g i j:Bool)(k:Ws)(l:az)(h1:Cp 170 [a.pv] (af c))(h2:Cp 170 [b.pv] (af d))(h3:Cp 197 [a.pv] (vB g))(h4:Cp 197 [b.pv] (vB i))(h5:g=i)(h6:Cp 197 [a.pv] (vB j))(h7:Cp 198 [af c,af d] (af k))(h8:Cp 156 [vB j,af k] l.pv):Cp 152 [a.pv,b.pv] l.pv :=
 eD func152 [] [.q,dr 4 2 [.none,(.pv (af c)),.none,(.pv (af d))],dr 5 0 [.none,(.pv (vB g)),.none,(.pv (vB i))],.t,.aR [.o,(.pv (vB j)),.o,.o,(.pv (af k)),(.pv l.pv)]] (y8 h1 h2 h3 h4 (qR h5) h6 h7 h8)
theorem e1(a b:az)(c d:Ws)(g i:Bool)(j:Int)(k:Bool)(l:Ws)(m:az)(h1:Cp 170 [a.pv] (af c))(h2:Cp 170 [b.pv] (af d))(h3:Cp 197 [a.pv] (vB g))(h4:Cp 197 [b.pv] (vB i))(h5:g≠i)(h6:Cp 199 [af c,af d] (vI j))(h7:0≤j)(h8:Cp 197 [a.pv] (vB k))(h9:Cp 200 [af c,af d] (af l))(bQ:Cp 156 [vB k,af l] m.pv):Cp 152 [a.pv,b.pv] m.pv :=
 eD func152 [] [.q,dr 4 2 [.none,(.pv (af c)),.none,(.pv (af d))],dr 5 0 [.none,(.pv (vB g)),.none,(.pv (vB i))],.f,.h 2 (.pv (vI j)),.t,.aR [.o,(.pv (vB k)),.o,.o,(.pv (af l)),(.pv m.pv)]] (JT h1 h2 h3 h4 (wz h5) h6 (bg h7) h8 h9 bQ)
theorem e2(a b:az)(c d:Ws)(g i:Bool)(j:Int)(k:Bool)(l:Ws)(m:az)(h1:Cp 170 [a.pv] (af c))(h2:Cp 170 [b.pv] (af d))(h3:Cp 197 [a.pv] (vB g))(h4:Cp 197 [b.pv] (vB i))(h5:g≠i)(h6:Cp 199 [af c,af d] (vI j))(h7:j<0)(h8:Cp 197 [b.pv] (vB k))(h9:Cp 200 [af d,af c] (af l))(bQ:Cp 156 [vB k,af l] m.pv):Cp 152 [a.pv,b.pv] m.pv :=
 eD func152 [] [.q,dr 4 2 [.none,(.pv (af c)),.none,(.pv (af d))],dr 5 0 [.none,(.pv (vB g)),.none,(.pv (vB i))],.f,.h 2 (.pv (vI j)),.f,.aR [.o,(.pv (vB k)),.o,.o,(.pv (af l)),(.pv m.pv)]] (JT h1 h2 h3 h4 (wz h5) h6 (fc h7) h8 h9 bQ)
end jY
namespace qY
theorem e0(a b:az)(c d:Bool)(g i j:Ws)(k:az)(h1:Cp 197 [a.pv] (vB c))(h2:Cp 197 [b.pv] (vB d))(h3:Cp 170 [a.pv] (af g))(h4:Cp 170 [b.pv] (af i))(h5:Cp 201 [af g,af i] (af j))(h6:Cp 156 [(vB (!(c==d))),af j] k.pv):Cp 153 [a.pv,b.pv] k.pv :=
 eD func153 [] [.q,dr 11 1 [.none,(.pv (vB c)),.none,(.pv (vB d)),.none,.none,(.pv (af g)),.none,(.pv (af i)),(.pv (af j)),(.pv k.pv)]] (y6 h1 h2 h3 h4 h5 h6)
end qY
namespace qZ
theorem e0(a:az)(b:Bool)(c:Ws)(d:az)(h1:Cp 197 [a.pv] (vB b))(h2:Cp 170 [a.pv] (af c))(h3:Cp 156 [(vB (!b)),af c] d.pv):Cp 154 [a.pv] d.pv :=
 eD func154 [] [.q,dr 6 1 [.none,(.pv (vB b)),.none,.none,(.pv (af c)),(.pv d.pv)]] (y3 h1 h2 h3)
end qZ
namespace jZ
@[reducible] def fn:Func:=Tryz.f155
theorem R9(a b:az)(cJ div aa7:List UInt32)(neg:Bool)(plu aa8 aa9:List UInt32):qF bu Fi fn [0,2,0,0,2,1,2,0,2,0,0,2,0] [0,5] [.none,(.fj 0 0 (([(1:UInt32)]:List UInt32).map aj)),(.pv (af plu)),.none,(.pv (af aa8)),.none,(.pv (af aa9)),.none,.none] ⟨[(2,(.ptr 2 0)),(3,(.ptr 3 0)),(4,(.ptr 4 0)),(5,(.ptr 5 0)),(7,(.pv (af div))),(8,(.pv (af aa7)))],[(5,(.lit [(eB false),(.pv (.list []))])),(4,(.lit [(eB false),(.pv (.list []))])),(3,(.lit [(eB b.neg),(.pv (af b.cJ))])),(2,(.lit [(eB a.neg),(.pv (af a.cJ))]))]⟩:=by unfold qF z6;kernel_rfl
theorem e1(a b:az)(c:Int)(d g i j:Ws)(k:Bool)(l m n:Ws)(p s:Bool)(u v:az)(h1:Cp 151 [b.pv] (vI c))(h2:c≠0)(h3:Cp 170 [a.pv] (af d))(h4:Cp 170 [b.pv] (af g))(h5:Cp 202 [af d,af g] (.aF [af i,af j]))(h6:Cp 197 [a.pv] (vB k))(h7:k=true)(h8:0<j.length)(h9:Cp 198 [af i,(af [(1:UInt32)])] (af l))(bQ:Cp 170 [b.pv] (af m))(dU:Cp 200 [af m,af j] (af n))(fP:Cp 197 [a.pv] (vB p))(k7:Cp 197 [b.pv] (vB s))(oS:Cp 156 [(vB (!(p==s))),af l] u.pv)(nz:Cp 156 [vB false,af n] v.pv):Cp 155 [a.pv,b.pv] (.aF [u.pv,v.pv,vI 0]) :=
 eD func155 [1,1,1,1,1,1,1,1,1,1,1,1,3] [.q,.h 1 (.pv (vI c)),.f,dr 9 1 [.none,(.pv (af d)),.none,(.pv (af g)),(.pv (.aF [af i,af j]))],.aR [.o,(.pv (vB k)),.o,.o,(iL j),.o,(.dec true)],.t,.aG [2,3,4,5,7,8],.any [0,5] [.none,(.fj 0 0 (([(1:UInt32)]:Ws).map aj)),(.pv (af l)),.none,(.pv (af m)),.none,(.pv (af n)),.none,.none],dr 9 3 [.none,(.pv (vB p)),.none,(.pv (vB s)),.none,.none,(.pv u.pv),.none,(.pv v.pv)]] (U4 h1 (bf h2) h3 h4 h5 h6 h7 h7 (an aj j) h7 h7 (ai h8) (kV bc ([(1:UInt32)]:Ws)) h9 bQ dU (R9 a b d i j k l m n) fP k7 oS nz)
theorem e2(a b:az)(c:Int)(d g i j:Ws)(k l m:Bool)(n p:az)(h1:Cp 151 [b.pv] (vI c))(h2:c≠0)(h3:Cp 170 [a.pv] (af d))(h4:Cp 170 [b.pv] (af g))(h5:Cp 202 [af d,af g] (.aF [af i,af j]))(h6:Cp 197 [a.pv] (vB k))(h7:k=true)(h8:j.length≤0)(h9:Cp 197 [a.pv] (vB l))(bQ:Cp 197 [b.pv] (vB m))(dU:Cp 156 [(vB (!(l==m))),af i] n.pv)(fP:Cp 156 [vB false,af j] p.pv):Cp 155 [a.pv,b.pv] (.aF [n.pv,p.pv,vI 0]) :=
 eD func155 [] [.q,.h 1 (.pv (vI c)),.f,dr 9 1 [.none,(.pv (af d)),.none,(.pv (af g)),(.pv (.aF [af i,af j]))],.aR [.o,(.pv (vB k)),.o,.o,(iL j),.o,(.dec true)],.f,dr 9 3 [.none,(.pv (vB l)),.none,(.pv (vB m)),.none,.none,(.pv n.pv),.none,(.pv p.pv)]] (HM h1 (bf h2) h3 h4 h5 h6 h7 h7 (an aj j) h7 h7 (ar h8) h9 bQ dU fP)
theorem e3(a b:az)(c:Int)(d g i j:Ws)(k l m:Bool)(n p:az)(h1:Cp 151 [b.pv] (vI c))(h2:c≠0)(h3:Cp 170 [a.pv] (af d))(h4:Cp 170 [b.pv] (af g))(h5:Cp 202 [af d,af g] (.aF [af i,af j]))(h6:Cp 197 [a.pv] (vB k))(h7:k=false)(h8:Cp 197 [a.pv] (vB l))(h9:Cp 197 [b.pv] (vB m))(bQ:Cp 156 [(vB (!(l==m))),af i] n.pv)(dU:Cp 156 [vB false,af j] p.pv):Cp 155 [a.pv,b.pv] (.aF [n.pv,p.pv,vI 0]) :=
 eD func155 [] [.q,.h 1 (.pv (vI c)),.f,dr 9 1 [.none,(.pv (af d)),.none,(.pv (af g)),(.pv (.aF [af i,af j]))],.aR [.o,(.pv (vB k)),.o,.skip,.skip,.skip,(.dec false)],.a,dr 9 3 [.none,(.pv (vB l)),.none,(.pv (vB m)),.none,.none,(.pv n.pv),.none,(.pv p.pv)]] (Nv h1 (bf h2) h3 h4 h5 h6 h7 h7 h7 h7 h8 h9 bQ dU)
end jZ
namespace lT
theorem e0(a:Bool)(m b:Ws)(h1:Cp 203 [af m] (af b))(h2:b.length=0):Cp 156 [vB a,af m] ((⟨false,[]⟩:az).pv) :=
 eD func156 [] [.q,.h 1 (.pv (af b)),.h 1 (iL b),.t,.q] (y3 h1 (an aj b) (aM h2))
theorem e1(a:Bool)(m b:Ws)(h1:Cp 203 [af m] (af b))(h2:b.length≠0):Cp 156 [vB a,af m] ((⟨a,b⟩:az).pv) :=
 eD func156 [] [.q,.h 1 (.pv (af b)),.h 1 (iL b),.f,.q] (y3 h1 (an aj b) (aB h2))
end lT
namespace q7
theorem e0(a b c d:az)(h1:Cp 154 [b.pv] c.pv)(h2:Cp 152 [a.pv,c.pv] d.pv):Cp 168 [a.pv,b.pv] d.pv :=
 eD func168 [] [.q,dr 4 1 [.none,.none,(.pv c.pv),(.pv d.pv)]] (y2 h1 h2)
end q7
namespace a7
@[reducible] def fn:Func:=Tryz.f169
def aY:List dJ:=focus [0,2,0,2,0,0,2,1,2,0,0,2,1,2,0,2,0,0,0] [.code (aL fn)]
def inv1(pS pT lU:Nat)(eH jo:List UInt32):St:=⟨[(0,(.row 7 0 pS 1)),(1,(.row 9 0 pT 1)),(5,(eI (lU:Int)))],[(7,(.pure ((eH:List UInt32).map aj).flatten)),(9,(.pure ((jo:List UInt32).map aj).flatten))]⟩
@[reducible] def ah(pS pT lU:Nat)(eH jo:List UInt32)(r:PV):Prop:=L bu fn aY (inv1 pS pT lU eH jo) r
def kZ:List dJ:=focus [0,2,0,2,0,0,2,1,2,0,0,2,1,2,0,2,0,0,0,0,0,0,2,1,2,2,2,2,0,0,0] [.code (aL fn)]
def inv2(pS pT lU:Nat)(eH jo:List UInt32):St:=⟨[(0,(.row 7 0 pS 1)),(1,(.row 9 0 pT 1)),(5,(eI (lU:Int)))],[(7,(.pure ((eH:List UInt32).map aj).flatten)),(9,(.pure ((jo:List UInt32).map aj).flatten))]⟩
@[reducible] def a8(pS pT lU:Nat)(eH jo:List UInt32)(r:PV):Prop:=L bu fn kZ (inv2 pS pT lU eH jo) r
def KH:List dJ:=focus [0,2,0,2,0,0,2,1,2,0,0,2,1,2,0,2,0,0,0,0,0,0,2,1,2,2,2,2,0,0,0,0,0,0,2,0,2,0,0,0,0] [.code (aL fn)]
def KI(pS pT lU:Nat)(eH jo:List UInt32):St:=⟨[(0,(.row 7 0 pS 1)),(1,(.row 9 0 pT 1)),(5,(eI (lU:Int)))],[(7,(.pure ((eH:List UInt32).map aj).flatten)),(9,(.pure ((jo:List UInt32).map aj).flatten))]⟩
@[reducible] def j5(pS pT lU:Nat)(eH jo:List UInt32)(r:PV):Prop:=L bu fn KH (KI pS pT lU eH jo) r
def U9:List dJ:=focus [0,2,0,2,0,0,2,1,2,0,0,2,1,2,0,2,0,0,0,0,0,0,2,1,2,2,2,2,0,0,0,0,0,0,2,1,2,2,2,2,0,0,2,0,0] [.code (aL fn)]
def Va(b_1:List UInt32)(ym Vb:Nat):St:=⟨[(1,(.pv (af b_1))),(64,(eI (ym:Int))),(65,(eI (Vb:Int)))],[]⟩
@[reducible] def uG(b_1:List UInt32)(ym Vb:Nat)(r:PV):Prop:=L bu fn U9 (Va b_1 ym Vb) r
def aab:List dJ:=focus [0,2,0,2,0,0,2,1,2,0,0,2,1,2,0,2,0,0,0,0,0,0,2,1,2,2,2,2,0,0,0,0,0,0,2,0,2,0,0,0,0,0,0,0,2,1,2,2,2,2,0,0,0] [.code (aL fn)]
def aac(pS pT lU:Nat)(eH jo:List UInt32):St:=⟨[(0,(.row 7 0 pS 1)),(1,(.row 9 0 pT 1)),(5,(eI (lU:Int)))],[(7,(.pure ((eH:List UInt32).map aj).flatten)),(9,(.pure ((jo:List UInt32).map aj).flatten))]⟩
@[reducible] def Dw(pS pT lU:Nat)(eH jo:List UInt32)(r:PV):Prop:=L bu fn aab (aac pS pT lU eH jo) r
theorem e0(a b z:Ws)(n:Nat)(z1:Ws)(n1:Nat)(h1:au bu 203 [.pv (af a)] [] (.row 0 0 n 1) [(0,(pW z))])(h2:au bu 203 [.pv (af b)] [] (.row 0 0 n1 1) [(0,(pW z1))])(h3:n=0)(h4:n1=z1.length):Cp 169 [af a,af b] (af z1) :=
 eD func169 [1,1,1,3] [.q,.aR [.o,(.bJ [] (some (0,7)) (.row 0 0 n 1) [(0,(pW z))]),.o,(.bJ [] (some (0,9)) (.row 0 0 n1 1) [(0,(pW z1))])],.q,.t,.q,.dH 4 ((z1:Ws).map aj)] (y4 h1 h2 (aM h3) (bU bc (z1:Ws) h4))
theorem e1(a b z:Ws)(n:Nat)(z1:Ws)(n1:Nat)(h1:au bu 203 [.pv (af a)] [] (.row 0 0 n 1) [(0,(pW z))])(h2:au bu 203 [.pv (af b)] [] (.row 0 0 n1 1) [(0,(pW z1))])(h3:n≠0)(h4:n1=0)(h5:n=z.length):Cp 169 [af a,af b] (af z) :=
 eD func169 [1,1,1,1,3] [.q,.aR [.o,(.bJ [] (some (0,7)) (.row 0 0 n 1) [(0,(pW z))]),.o,(.bJ [] (some (0,9)) (.row 0 0 n1 1) [(0,(pW z1))])],.q,.f,.q,.t,.q,.dH 4 ((z:Ws).map aj)] (y5 h1 h2 (aB h3) (aM h4) (bU bc (z:Ws) h5))
theorem e2(a b z:Ws)(n:Nat)(z1:Ws)(n1:Nat){r:PV}(h1:au bu 203 [.pv (af a)] [] (.row 0 0 n 1) [(0,(pW z))])(h2:au bu 203 [.pv (af b)] [] (.row 0 0 n1 1) [(0,(pW z1))])(h3:n≠0)(h4:n1≠0)(hL:ah n n1 0 z z1 r):Cp 169 [af a,af b] r :=
 eG func169 [] [.q,.aR [.o,(.bJ [] (some (0,7)) (.row 0 0 n 1) [(0,(pW z))]),.o,(.bJ [] (some (0,9)) (.row 0 0 n1 1) [(0,(pW z1))])],.q,.f,.q,.f,.q,.aG [0,1,5],.ord [7,9]] (y4 h1 h2 (aB h3) (aB h4)) hL
theorem l10(b c d:Nat)(g i:Ws)(v z v1 z1:UInt32)(z2:Ws)(n:Nat)(z3:Ws)(n1:Nat){r:PV}(h1:0<b)(h2:g[0]? = some v)(h3:(v.toNat%4294967296) &&& (1%4294967296)=z.toNat)(h4:z.toNat=0)(h5:0<c)(h6:i[0]? = some v1)(h7:(v1.toNat%4294967296) &&& (1%4294967296)=z1.toNat)(h8:z1.toNat=0)(h9:au bu 214 [.row 100000 0 b 1] [(100000,(pW g))] (.row 100000 0 n 1) [(100000,(pW z2))])(bQ:au bu 214 [.row 100000 0 c 1] [(100000,(pW i))] (.row 100000 0 n1 1) [(100000,(pW z3))])(dU:(d+1)<9223372036854775808)(hL:ah n n1 (d+1) z2 z3 r):ah b c d g i r :=
 lG [2,1,1,1,1,2] [.a,.aR [.o,(.nat 0),(.ev (.pv (vW v))),iW z,.o,.o,.o,(.nat 0),(.ev (.pv (vW v1))),iW z1,.o,(.dec true)],.t,.aR [.o,(.bJ [(7,100000)] none (.row 100000 0 n 1) [(100000,(pW z2))]),.o,(.bJ [(9,100000)] none (.row 100000 0 n1 1) [(100000,(pW z3))])],.h 1 (iI (((d+1):Nat):Int)),.aG [0,1,5]] (HM (cj (Eq.refl (0:Int)) h1) (fK (enc:=aj) (f:=fun a=>(vW a)) (fun _=>rfl) h2) (gz h3) (aM h4) (aM h4) (cj (Eq.refl (0:Int)) h5) (aM h4) (fK (enc:=aj) (f:=fun a=>(vW a)) (fun _=>rfl) h6) (aM h4) (gz h7) (aM h4) (aM h4) (aM h8) h9 bQ (aJ dU)) hL
theorem cB(b c d:Nat)(g i:Ws)(v z v1 z1:UInt32){r:PV}(h1:0<b)(h2:g[0]? = some v)(h3:(v.toNat%4294967296) &&& (1%4294967296)=z.toNat)(h4:z.toNat=0)(h5:0<c)(h6:i[0]? = some v1)(h7:(v1.toNat%4294967296) &&& (1%4294967296)=z1.toNat)(h8:z1.toNat≠0)(hL:a8 b c d g i r):ah b c d g i r :=
 lG [2,1,1,1,1,2] [.a,.aR [.o,(.nat 0),(.ev (.pv (vW v))),iW z,.o,.o,.o,(.nat 0),(.ev (.pv (vW v1))),iW z1,.o,(.dec true)],.f,.aG [0,1,5]] (IG (cj (Eq.refl (0:Int)) h1) (fK (enc:=aj) (f:=fun a=>(vW a)) (fun _=>rfl) h2) (gz h3) (aM h4) (aM h4) (cj (Eq.refl (0:Int)) h5) (aM h4) (fK (enc:=aj) (f:=fun a=>(vW a)) (fun _=>rfl) h6) (aM h4) (gz h7) (aM h4) (aM h4) (aB h8)) hL
theorem jT(b c d:Nat)(g i:Ws)(v z:UInt32){r:PV}(h1:0<b)(h2:g[0]? = some v)(h3:(v.toNat%4294967296) &&& (1%4294967296)=z.toNat)(h4:z.toNat≠0)(hL:a8 b c d g i r):ah b c d g i r :=
 lG [2] [.a,.aR [.o,(.nat 0),(.ev (.pv (vW v))),iW z,.o,.o,.skip,.skip,.skip,.skip,.skip,(.dec false)],.a,.aG [0,1,5]] (y9 (cj (Eq.refl (0:Int)) h1) (fK (enc:=aj) (f:=fun a=>(vW a)) (fun _=>rfl) h2) (gz h3) (aB h4) (aB h4) (aB h4) (aB h4) (aB h4) (aB h4)) hL
theorem uF(b c d:Nat)(g i:Ws){r:PV}(h1:0<b)(hL:j5 b c d g i r):a8 b c d g i r :=
 lG [] [.a,.q,.t,.aG [0,1,5]] (y1 (ai h1)) hL
theorem xe(b c d:Nat)(g i:Ws){r:PV}(h1:b≤0)(h2:c=i.length)(hL:uG i d 0 r):a8 b c d g i r :=
 lG [1,3] [.a,.q,.f,.q,.dH 1 ((i:Ws).map aj),.aG [1,64,65],.drop [7]] (y2 (ar h1) (bU bc (i:Ws) h2)) hL
theorem Xz(b c d:Nat)(g i:Ws)(v z:UInt32)(z1:Ws)(n:Nat){r:PV}(h1:0<b)(h2:g[0]? = some v)(h3:(v.toNat%4294967296) &&& (1%4294967296)=z.toNat)(h4:z.toNat=0)(h5:au bu 214 [.row 100000 0 b 1] [(100000,(pW g))] (.row 100000 0 n 1) [(100000,(pW z1))])(hL:j5 n c d z1 i r):j5 b c d g i r :=
 lG [2] [.a,.aR [.o,(.nat 0),(.ev (.pv (vW v))),iW z],.t,.h 1 (.bJ [(7,100000)] none (.row 100000 0 n 1) [(100000,(pW z1))]),.aG [0,1,5]] (y5 (cj (Eq.refl (0:Int)) h1) (fK (enc:=aj) (f:=fun a=>(vW a)) (fun _=>rfl) h2) (gz h3) (aM h4) h5) hL
theorem XA(b c d:Nat)(g i:Ws)(v z:UInt32){r:PV}(h1:0<b)(h2:g[0]? = some v)(h3:(v.toNat%4294967296) &&& (1%4294967296)=z.toNat)(h4:z.toNat≠0)(hL:Dw b c d g i r):j5 b c d g i r :=
 lG [2] [.a,.aR [.o,(.nat 0),(.ev (.pv (vW v))),iW z],.f,.aG [0,1,5]] (y4 (cj (Eq.refl (0:Int)) h1) (fK (enc:=aj) (f:=fun a=>(vW a)) (fun _=>rfl) h2) (gz h3) (aB h4)) hL
theorem l40(b:Ws)(c d:Nat)(g:Ws){r:PV}(h1:d<c)(h2:Cp 198 [af b,af b] (af g))(h3:(d+1)<9223372036854775808)(hL:uG g c (d+1) r):uG b c d r :=
 lG [] [.a,.q,.t,.h 2 (.pv (af g)),.h 0 (iI (((d+1):Nat):Int)),.aG [1,64,65]] (y3 (ai h1) h2 (aJ h3)) hL
theorem l41(b:Ws)(c d:Nat)(h1:c≤d):uG b c d (af b) :=
 lD [] [.a,.q,.f,.q] (y1 (ar h1))
theorem l50(b c d:Nat)(g i:Ws)(v z:UInt32)(z1:Ws)(n:Nat){r:PV}(h1:0<c)(h2:i[0]? = some v)(h3:(v.toNat%4294967296) &&& (1%4294967296)=z.toNat)(h4:z.toNat=0)(h5:au bu 214 [.row 100000 0 c 1] [(100000,(pW i))] (.row 100000 0 n 1) [(100000,(pW z1))])(hL:Dw b n d g z1 r):Dw b c d g i r :=
 lG [2] [.a,.aR [.o,(.nat 0),(.ev (.pv (vW v))),iW z],.t,.h 1 (.bJ [(9,100000)] none (.row 100000 0 n 1) [(100000,(pW z1))]),.aG [0,1,5]] (y5 (cj (Eq.refl (0:Int)) h1) (fK (enc:=aj) (f:=fun a=>(vW a)) (fun _=>rfl) h2) (gz h3) (aM h4) h5) hL
theorem l51(b c d:Nat)(g i:Ws)(v z:UInt32)(z1 z2:Ws)(j:Int)(z3 z4 z5:Ws)(n:Nat){r:PV}(h1:0<c)(h2:i[0]? = some v)(h3:(v.toNat%4294967296) &&& (1%4294967296)=z.toNat)(h4:z.toNat≠0)(h5:au bu 199 [.row 100000 0 b 1,.row 100001 0 c 1] [(100000,(pW g)),(100001,(pW i))] (.pv (vI j)) [(100000,(pW z1)),(100001,(pW z2))])(h6:j<0)(h7:au bu 215 [.row 100000 0 c 1,.row 100001 0 b 1] [(100000,(pW z2)),(100001,(pW z1))] (.pv (.aF [])) [(100000,(pW z3)),(100001,(pW z4))])(h8:au bu 216 [.row 100000 0 c 1] [(100000,(pW z3))] (.row 100000 0 n 1) [(100000,(pW z5))])(hL:a8 n b d z5 z4 r):Dw b c d g i r :=
 lG [2] [.a,.aR [.o,(.nat 0),(.ev (.pv (vW v))),iW z],.f,.h 2 (.bJ [(7,100000),(9,100001)] none (.pv (vI j)) [(100000,(pW z1)),(100001,(pW z2))]),.t,.q,.h 2 (.bJ [(9,100000),(7,100001)] none (.pv (.aF [])) [(100000,(pW z3)),(100001,(pW z4))]),.h 1 (.bJ [(9,100000)] none (.row 100000 0 n 1) [(100000,(pW z5))]),.aG [0,1,5],.pn 9 71,.pn 7 9,.pn 71 7,.ord [7,9]] (y8 (cj (Eq.refl (0:Int)) h1) (fK (enc:=aj) (f:=fun a=>(vW a)) (fun _=>rfl) h2) (gz h3) (aB h4) h5 (bA h6) h7 h8) hL
theorem l52(b c d:Nat)(g i:Ws)(v z:UInt32)(z1 z2:Ws)(j:Int)(z3 z4 z5:Ws)(n:Nat){r:PV}(h1:0<c)(h2:i[0]? = some v)(h3:(v.toNat%4294967296) &&& (1%4294967296)=z.toNat)(h4:z.toNat≠0)(h5:au bu 199 [.row 100000 0 b 1,.row 100001 0 c 1] [(100000,(pW g)),(100001,(pW i))] (.pv (vI j)) [(100000,(pW z1)),(100001,(pW z2))])(h6:0≤j)(h7:au bu 215 [.row 100000 0 b 1,.row 100001 0 c 1] [(100000,(pW z1)),(100001,(pW z2))] (.pv (.aF [])) [(100000,(pW z3)),(100001,(pW z4))])(h8:au bu 216 [.row 100000 0 b 1] [(100000,(pW z3))] (.row 100000 0 n 1) [(100000,(pW z5))])(hL:a8 n c d z5 z4 r):Dw b c d g i r :=
 lG [2] [.a,.aR [.o,(.nat 0),(.ev (.pv (vW v))),iW z],.f,.h 2 (.bJ [(7,100000),(9,100001)] none (.pv (vI j)) [(100000,(pW z1)),(100001,(pW z2))]),.f,.h 2 (.bJ [(7,100000),(9,100001)] none (.pv (.aF [])) [(100000,(pW z3)),(100001,(pW z4))]),.h 1 (.bJ [(7,100000)] none (.row 100000 0 n 1) [(100000,(pW z5))]),.aG [0,1,5]] (y8 (cj (Eq.refl (0:Int)) h1) (fK (enc:=aj) (f:=fun a=>(vW a)) (fun _=>rfl) h2) (gz h3) (aB h4) h5 (bm h6) h7 h8) hL
end a7
namespace mL
theorem e0(a:az)(b:Bool)(h1:Cp 217 [a.pv] (vB b))(h2:b=false):Cp 170 [a.pv] (af []) :=
 eD func170 [] [.q,.h 1 (.pv (vB b)),.t,.q] (y2 h1 (dm h2))
theorem e1(a:az)(b:Bool)(h1:Cp 217 [a.pv] (vB b))(h2:b=true):Cp 170 [a.pv] (af a.cJ) :=
 eD func170 [] [.q,.h 1 (.pv (vB b)),.f,.q] (y2 h1 (bw h2))
end mL
namespace mM
theorem e0(a:az)(b:Bool)(h1:Cp 217 [a.pv] (vB b))(h2:b=true):Cp 197 [a.pv] (vB a.neg) :=
 eD func197 [] [.q,.aR [.o,(.pv (vB b)),.o,.o,.o,(.dec true)]] (y4 h1 h2 h2 h2)
theorem e1(a:az)(b:Bool)(h1:Cp 217 [a.pv] (vB b))(h2:b=false):Cp 197 [a.pv] (vB false) :=
 eD func197 [] [.q,.aR [.o,(.pv (vB b)),.o,.skip,.skip,(.dec false)]] (y4 h1 h2 h2 h2)
end mM
namespace gB
@[reducible] def fn:Func:=Tryz.f198
def aY:List dJ:=focus [0,2,0,2,0,2,0,0,2,0,0] [.code (aL fn)]
def inv1(a b BQ:List UInt32)(s5 xg:Nat):St:=⟨[(0,(.pv (af a))),(1,(.pv (af b))),(5,(.row 31 0 BQ.length 1)),(6,(eU s5)),(14,(eI ((((max a.length b.length)+1):Nat):Int))),(15,(eI (xg:Int)))],[(31,(.pure ((BQ:List UInt32).map aj).flatten))]⟩
@[reducible] def ah(a b BQ:List UInt32)(s5 xg:Nat)(r:PV):Prop:=L bu fn aY (inv1 a b BQ s5 xg) r
theorem e0(a b:Ws){r:PV}(h1:((max a.length b.length)+1)<9223372036854775808)(hL:ah a b [] 0 0 r):Cp 198 [af a,af b] r :=
 eG func198 [] [.q,.h 0 .nil,.iK 5 31 1,.q,.aR [.o,(iL a),.o,(iL b),(iI (((max a.length b.length):Nat):Int)),(iI ((((max a.length b.length)+1):Nat):Int))],.aG [0,1,5,6,14,15]] (y4 (an aj a) (an aj b) (oK a.length b.length) (aJ h1)) hL
theorem l10(a b c:Ws)(d g i j s s1:Nat)(w:UInt32)(z:Nat){r:PV}(h1:g<((max a.length b.length)+1))(h2:Cp 232 [af a,(vI (g:Int))] (vU i))(h3:Cp 232 [af b,(vI (g:Int))] (vU j))(h4:(i+j)%18446744073709551616=s)(h5:(s+d)%18446744073709551616=s1)(h6:s1%4294967296=w.toNat)(h7:((c++[w]):Ws).length*4≤140737488355328)(h8:s1/2^(min 32 64)=z)(h9:(g+1)<9223372036854775808)(hL:ah a b (c++[w]) z (g+1) r):ah a b c d g r :=
 lG [1,1,1,1,1,1,6] [.a,.q,.t,.q,.aR [.o,.o,(.pv (vU i)),.o,.o,(.pv (vU j)),iU s,.o,iU s1],.aR [.o,.o,iW w,.o,(.app ((c++[w]):Ws).length (((c++[w]):Ws).map aj).flatten),.o,iU z],.h 0 (iI (((g+1):Nat):Int)),.aG [0,1,5,6,14,15],.drop [30]] (y9 (ai h1) h2 h3 (dM h4) (dM h5) (cL h6) (fv bc (c:Ws) ([w]:Ws) 4 (Eq.refl (c:Ws).length) (Eq.refl ([w]:Ws).length) h7 rfl) (cS (k := .u64) h8) (aJ h9)) hL
theorem cB(a b c:Ws)(d g:Nat)(i:Ws)(h1:((max a.length b.length)+1)≤g)(h2:Cp 203 [af c] (af i)):ah a b c d g (af i) :=
 lD [1,3] [.a,.q,.f,.dH 5 ((c:Ws).map aj),.h 1 (.pv (af i))] (y3 (ar h1) (bU bc (c:Ws) (Eq.refl (c:Ws).length)) h2)
end gB
namespace dp
@[reducible] def fn:Func:=Tryz.f199
def aY:List dJ:=focus [0,2,0,0,2,0,0] [.code (aL fn)]
def inv1(a b:List UInt32)(Dp:Int):St:=⟨[(0,(.pv (af a))),(1,(.pv (af b))),(5,(eI Dp))],[]⟩
@[reducible] def ah(a b:List UInt32)(Dp:Int)(r:PV):Prop:=L bu fn aY (inv1 a b Dp) r
theorem e0(a b:Ws){r:PV}(h1:ay ((((max a.length b.length):Nat):Int)-1))(hL:ah a b ((((max a.length b.length):Nat):Int)-1) r):Cp 199 [af a,af b] r :=
 eG func199 [] [.q,.aR [.o,(iL a),.o,(iL b),(iI (((max a.length b.length):Nat):Int)),(iI ((((max a.length b.length):Nat):Int)-1))],.aG [0,1,5]] (y4 (an aj a) (an aj b) (oK a.length b.length) (aQ h1)) hL
theorem l10(a b:Ws)(c:Int)(d g i j:Nat)(h1:0≤c)(h2:Cp 232 [af a,vI c] (vU d))(h3:Cp 232 [af b,vI c] (vU g))(h4:d≠g)(h5:Cp 232 [af a,vI c] (vU i))(h6:Cp 232 [af b,vI c] (vU j))(h7:i<j):ah a b c (vI (-1)) :=
 lD [] [.a,.q,.t,.aR [.o,.o,(.pv (vU d)),.o,.o,(.pv (vU g))],.t,.aR [.o,.o,(.pv (vU i)),.o,.o,(.pv (vU j))],.t,.q] (y7 (bg h1) h2 h3 (dj h4) h5 h6 (ai h7))
theorem cB(a b:Ws)(c:Int)(d g i j:Nat)(h1:0≤c)(h2:Cp 232 [af a,vI c] (vU d))(h3:Cp 232 [af b,vI c] (vU g))(h4:d≠g)(h5:Cp 232 [af a,vI c] (vU i))(h6:Cp 232 [af b,vI c] (vU j))(h7:j≤i):ah a b c (vI 1) :=
 lD [] [.a,.q,.t,.aR [.o,.o,(.pv (vU d)),.o,.o,(.pv (vU g))],.t,.aR [.o,.o,(.pv (vU i)),.o,.o,(.pv (vU j))],.f,.q] (y7 (bg h1) h2 h3 (dj h4) h5 h6 (ar h7))
theorem jT(a b:Ws)(c:Int)(d g:Nat){r:PV}(h1:0≤c)(h2:Cp 232 [af a,vI c] (vU d))(h3:Cp 232 [af b,vI c] (vU g))(h4:d=g)(h5:ay (c-1))(hL:ah a b (c-1) r):ah a b c r :=
 lG [] [.a,.q,.t,.aR [.o,.o,(.pv (vU d)),.o,.o,(.pv (vU g))],.f,.h 1 (iI (c-1)),.aG [0,1,5]] (y5 (bg h1) h2 h3 (dk h4) (aQ h5)) hL
theorem tN(a b:Ws)(c:Int)(h1:c<0):ah a b c (vI 0) :=
 lD [] [.a,.q,.f,.q] (y1 (fc h1))
end dp
namespace cT
@[reducible] def fn:Func:=Tryz.f199
def aY:List dJ:=focus [0,2,0,0,2,0,0] [.code (aL fn)]
def inv1(len:Nat)(b:List UInt32)(Dp:Int)(bG:List UInt32):St:=⟨[(0,(.row 100000 0 len 1)),(1,(.pv (af b))),(5,(eI Dp))],[(100000,(.pure ((bG:List UInt32).map aj).flatten))]⟩
@[reducible] def ah(len:Nat)(b:List UInt32)(Dp:Int)(bG:List UInt32)(sin:aT)(r:EV)(sout:aT):Prop:=LX bu fn aY (inv1 len b Dp bG) sin r sout
theorem e0(a:Ws)(c:Nat)(b:Ws){r:EV}{sout:aT}(h1:ay ((((max c b.length):Nat):Int)-1))(hL:ah c b ((((max c b.length):Nat):Int)-1) a [(100000,(pW a))] r sout):au bu 199 [(.row 100000 0 c 1),(.pv (af b))] [(100000,(pW a))] r sout :=
 Nu func199 [] [.q,.aR [.o,.o,.o,(iL b),(iI (((max c b.length):Nat):Int)),(iI ((((max c b.length):Nat):Int)-1))],.aG [0,1,5]] (y3 (an aj b) (oK c b.length) (aQ h1)) hL
theorem l10(c:Nat)(b:Ws)(d:Int)(g z:Ws)(i j:Nat)(z1:Ws)(k l:Nat){sin:aT}(hs:jR fn sin)(hi:sin.all (fun p=>wo p.1||(aT.get [(100000,(pW z1))] p.1).isSome)=true)(h1:0≤d)(h2:au bu 232 [.row 100000 0 c 1,.pv (vI d)] [(100000,(pW g))] (.pv (vU i)) [(100000,(pW z))])(h3:Cp 232 [af b,vI d] (vU j))(h4:i≠j)(h5:au bu 232 [.row 100000 0 c 1,.pv (vI d)] [(100000,(pW z))] (.pv (vU k)) [(100000,(pW z1))])(h6:Cp 232 [af b,vI d] (vU l))(h7:k<l):ah c b d g sin (.pv (vI (-1))) [(100000,(pW z1))] :=
 Fj [] [.a,.q,.t,.aR [.o,.o,(.bJ [(100000,100000)] none (.pv (vU i)) [(100000,(pW z))]),.o,.o,(.pv (vU j))],.t,.aR [.o,.o,(.bJ [(100000,100000)] none (.pv (vU k)) [(100000,(pW z1))]),.o,.o,(.pv (vU l))],.t,.q,.ord [100000]] hs hi (y7 (bg h1) h2 h3 (dj h4) h5 h6 (ai h7))
theorem cB(c:Nat)(b:Ws)(d:Int)(g z:Ws)(i j:Nat)(z1:Ws)(k l:Nat){sin:aT}(hs:jR fn sin)(hi:sin.all (fun p=>wo p.1||(aT.get [(100000,(pW z1))] p.1).isSome)=true)(h1:0≤d)(h2:au bu 232 [.row 100000 0 c 1,.pv (vI d)] [(100000,(pW g))] (.pv (vU i)) [(100000,(pW z))])(h3:Cp 232 [af b,vI d] (vU j))(h4:i≠j)(h5:au bu 232 [.row 100000 0 c 1,.pv (vI d)] [(100000,(pW z))] (.pv (vU k)) [(100000,(pW z1))])(h6:Cp 232 [af b,vI d] (vU l))(h7:l≤k):ah c b d g sin (.pv (vI 1)) [(100000,(pW z1))] :=
 Fj [] [.a,.q,.t,.aR [.o,.o,(.bJ [(100000,100000)] none (.pv (vU i)) [(100000,(pW z))]),.o,.o,(.pv (vU j))],.t,.aR [.o,.o,(.bJ [(100000,100000)] none (.pv (vU k)) [(100000,(pW z1))]),.o,.o,(.pv (vU l))],.f,.q,.ord [100000]] hs hi (y7 (bg h1) h2 h3 (dj h4) h5 h6 (ar h7))
theorem jT(c:Nat)(b:Ws)(d:Int)(g z:Ws)(i j:Nat){r:EV}{sout:aT}{sin:aT}(hs:jR fn sin)(h1:0≤d)(h2:au bu 232 [.row 100000 0 c 1,.pv (vI d)] [(100000,(pW g))] (.pv (vU i)) [(100000,(pW z))])(h3:Cp 232 [af b,vI d] (vU j))(h4:i=j)(h5:ay (d-1))(hL:ah c b (d-1) z sin r sout):ah c b d g sin r sout :=
 IE [] [.a,.q,.t,.aR [.o,.o,(.bJ [(100000,100000)] none (.pv (vU i)) [(100000,(pW z))]),.o,.o,(.pv (vU j))],.f,.h 1 (iI (d-1)),.aG [0,1,5]] hs (y5 (bg h1) h2 h3 (dk h4) (aQ h5)) hL
theorem tN(c:Nat)(b:Ws)(d:Int)(g:Ws){sin:aT}(hs:jR fn sin)(hi:sin.all (fun p=>wo p.1||(aT.get [(100000,(pW g))] p.1).isSome)=true)(h1:d<0):ah c b d g sin (.pv (vI 0)) [(100000,(pW g))] :=
 Fj [] [.a,.q,.f,.q,.ord [100000]] hs hi (y1 (fc h1))
end cT
namespace cO
@[reducible] def fn:Func:=Tryz.f199
def aY:List dJ:=focus [0,2,0,0,2,0,0] [.code (aL fn)]
def inv1(len lz:Nat)(Dp:Int)(bG kl:List UInt32):St:=⟨[(0,(.row 100000 0 len 1)),(1,(.row 100001 0 lz 1)),(5,(eI Dp))],[(100000,(.pure ((bG:List UInt32).map aj).flatten)),(100001,(.pure ((kl:List UInt32).map aj).flatten))]⟩
@[reducible] def ah(len lz:Nat)(Dp:Int)(bG kl:List UInt32)(sin:aT)(r:EV)(sout:aT):Prop:=LX bu fn aY (inv1 len lz Dp bG kl) sin r sout
theorem e0(a:Ws)(c:Nat)(b:Ws)(d:Nat){r:EV}{sout:aT}(h1:ay ((((max c d):Nat):Int)-1))(hL:ah c d ((((max c d):Nat):Int)-1) a b [(100000,(pW a)),(100001,(pW b))] r sout):au bu 199 [(.row 100000 0 c 1),(.row 100001 0 d 1)] [(100000,(pW a)),(100001,(pW b))] r sout :=
 Nu func199 [] [.q,.aR [.o,.o,.o,.o,(iI (((max c d):Nat):Int)),(iI ((((max c d):Nat):Int)-1))],.aG [0,1,5]] (y2 (oK c d) (aQ h1)) hL
theorem l10(b c:Nat)(d:Int)(g i z:Ws)(j:Nat)(z1:Ws)(k:Nat)(z2:Ws)(l:Nat)(z3:Ws)(m:Nat){sin:aT}(hs:jR fn sin)(hi:sin.all (fun p=>wo p.1||(aT.get [(100000,(pW z2)),(100001,(pW z3))] p.1).isSome)=true)(h1:0≤d)(h2:au bu 232 [.row 100000 0 b 1,.pv (vI d)] [(100000,(pW g))] (.pv (vU j)) [(100000,(pW z))])(h3:au bu 232 [.row 100000 0 c 1,.pv (vI d)] [(100000,(pW i))] (.pv (vU k)) [(100000,(pW z1))])(h4:j≠k)(h5:au bu 232 [.row 100000 0 b 1,.pv (vI d)] [(100000,(pW z))] (.pv (vU l)) [(100000,(pW z2))])(h6:au bu 232 [.row 100000 0 c 1,.pv (vI d)] [(100000,(pW z1))] (.pv (vU m)) [(100000,(pW z3))])(h7:l<m):ah b c d g i sin (.pv (vI (-1))) [(100000,(pW z2)),(100001,(pW z3))] :=
 Fj [] [.a,.q,.t,.aR [.o,.o,(.bJ [(100000,100000)] none (.pv (vU j)) [(100000,(pW z))]),.o,.o,(.bJ [(100001,100000)] none (.pv (vU k)) [(100000,(pW z1))])],.t,.aR [.o,.o,(.bJ [(100000,100000)] none (.pv (vU l)) [(100000,(pW z2))]),.o,.o,(.bJ [(100001,100000)] none (.pv (vU m)) [(100000,(pW z3))])],.t,.q,.ord [100000,100001]] hs hi (y7 (bg h1) h2 h3 (dj h4) h5 h6 (ai h7))
theorem cB(b c:Nat)(d:Int)(g i z:Ws)(j:Nat)(z1:Ws)(k:Nat)(z2:Ws)(l:Nat)(z3:Ws)(m:Nat){sin:aT}(hs:jR fn sin)(hi:sin.all (fun p=>wo p.1||(aT.get [(100000,(pW z2)),(100001,(pW z3))] p.1).isSome)=true)(h1:0≤d)(h2:au bu 232 [.row 100000 0 b 1,.pv (vI d)] [(100000,(pW g))] (.pv (vU j)) [(100000,(pW z))])(h3:au bu 232 [.row 100000 0 c 1,.pv (vI d)] [(100000,(pW i))] (.pv (vU k)) [(100000,(pW z1))])(h4:j≠k)(h5:au bu 232 [.row 100000 0 b 1,.pv (vI d)] [(100000,(pW z))] (.pv (vU l)) [(100000,(pW z2))])(h6:au bu 232 [.row 100000 0 c 1,.pv (vI d)] [(100000,(pW z1))] (.pv (vU m)) [(100000,(pW z3))])(h7:m≤l):ah b c d g i sin (.pv (vI 1)) [(100000,(pW z2)),(100001,(pW z3))] :=
 Fj [] [.a,.q,.t,.aR [.o,.o,(.bJ [(100000,100000)] none (.pv (vU j)) [(100000,(pW z))]),.o,.o,(.bJ [(100001,100000)] none (.pv (vU k)) [(100000,(pW z1))])],.t,.aR [.o,.o,(.bJ [(100000,100000)] none (.pv (vU l)) [(100000,(pW z2))]),.o,.o,(.bJ [(100001,100000)] none (.pv (vU m)) [(100000,(pW z3))])],.f,.q,.ord [100000,100001]] hs hi (y7 (bg h1) h2 h3 (dj h4) h5 h6 (ar h7))
theorem jT(b c:Nat)(d:Int)(g i z:Ws)(j:Nat)(z1:Ws)(k:Nat){r:EV}{sout:aT}{sin:aT}(hs:jR fn sin)(h1:0≤d)(h2:au bu 232 [.row 100000 0 b 1,.pv (vI d)] [(100000,(pW g))] (.pv (vU j)) [(100000,(pW z))])(h3:au bu 232 [.row 100000 0 c 1,.pv (vI d)] [(100000,(pW i))] (.pv (vU k)) [(100000,(pW z1))])(h4:j=k)(h5:ay (d-1))(hL:ah b c (d-1) z z1 sin r sout):ah b c d g i sin r sout :=
 IE [] [.a,.q,.t,.aR [.o,.o,(.bJ [(100000,100000)] none (.pv (vU j)) [(100000,(pW z))]),.o,.o,(.bJ [(100001,100000)] none (.pv (vU k)) [(100000,(pW z1))])],.f,.h 1 (iI (d-1)),.aG [0,1,5]] hs (y5 (bg h1) h2 h3 (dk h4) (aQ h5)) hL
theorem tN(b c:Nat)(d:Int)(g i:Ws){sin:aT}(hs:jR fn sin)(hi:sin.all (fun p=>wo p.1||(aT.get [(100000,(pW g)),(100001,(pW i))] p.1).isSome)=true)(h1:d<0):ah b c d g i sin (.pv (vI 0)) [(100000,(pW g)),(100001,(pW i))] :=
 Fj [] [.a,.q,.f,.q,.ord [100000,100001]] hs hi (y1 (fc h1))
end cO
namespace fZ
@[reducible] def fn:Func:=Tryz.f200
def aY:List dJ:=focus [0,2,0,2,0,2,0,0,2,0,0] [.code (aL fn)]
def inv1(a b o8:List UInt32)(pQ KJ:Nat):St:=⟨[(0,(.pv (af a))),(1,(.pv (af b))),(5,(.row 28 0 o8.length 1)),(6,(eU pQ)),(10,(eI (a.length:Int))),(11,(eI (KJ:Int)))],[(28,(.pure ((o8:List UInt32).map aj).flatten))]⟩
@[reducible] def ah(a b o8:List UInt32)(pQ KJ:Nat)(r:PV):Prop:=L bu fn aY (inv1 a b o8 pQ KJ) r
theorem e0 (a b : Ws) {r : PV}  (hL : ah a b [] 0 0 r) : Cp 200 [af a, af b] r :=
 eG func200 [] [.q,.h 0 .nil,.iK 5 28 1,.q,.h 1 (iL a),.aG [0,1,5,6,10,11]] (y1 (an aj a)) hL
theorem l10(a b c:Ws)(g i j s l d d1:Nat)(w:UInt32)(z d2:Nat){r:PV}(h1:i<a.length)(h2:Cp 232 [af a,(vI (i:Int))] (vU j))(h3:(4294967296+j)%18446744073709551616=s)(h4:Cp 232 [af b,(vI (i:Int))] (vU l))(h5:((s:Nat)-(l:Nat):Int)%18446744073709551616=(d:Int))(h6:((d:Nat)-(g:Nat):Int)%18446744073709551616=(d1:Int))(h7:d1%4294967296=w.toNat)(h8:((c++[w]):Ws).length*4≤140737488355328)(h9:d1/2^(min 32 64)=z)(bQ:((1:Nat)-(z:Nat):Int)%18446744073709551616=(d2:Int))(dU:(i+1)<9223372036854775808)(hL:ah a b (c++[w]) d2 (i+1) r):ah a b c g i r :=
 lG [1,1,1,1,1,1,1,6] [.a,.q,.t,.q,.aR [.o,.o,(.pv (vU j)),iU s,.o,.o,(.pv (vU l)),iU d,.o,iU d1],.aR [.o,.o,iW w,.o,(.app ((c++[w]):Ws).length (((c++[w]):Ws).map aj).flatten),.o,iU z,iU d2],.h 0 (iI (((i+1):Nat):Int)),.aG [0,1,5,6,10,11],.drop [27]] (EK (ai h1) h2 (dM h3) h4 (dB h5) (dB h6) (cL h7) (fv bc (c:Ws) ([w]:Ws) 4 (Eq.refl (c:Ws).length) (Eq.refl ([w]:Ws).length) h8 rfl) (cS (k := .u64) h9) (dB bQ) (aJ dU)) hL
theorem cB(a b c:Ws)(d g:Nat)(i:Ws)(h1:a.length≤g)(h2:Cp 203 [af c] (af i)):ah a b c d g (af i) :=
 lD [1,3] [.a,.q,.f,.dH 5 ((c:Ws).map aj),.h 1 (.pv (af i))] (y3 (ar h1) (bU bc (c:Ws) (Eq.refl (c:Ws).length)) h2)
end fZ
namespace cM
@[reducible] def fn:Func:=Tryz.f201
def aY:List dJ:=focus [0,2,0,2,0,0,2,0,0] [.code (aL fn)]
def inv1(a b:List UInt32)(KK:Nat)(js:List UInt32):St:=⟨[(0,(.pv (af a))),(1,(.pv (af b))),(5,(.row 15 0 (a.length+b.length) 1)),(17,(eI (a.length:Int))),(18,(eI (KK:Int)))],[(15,(.pure ((js:List UInt32).map aj).flatten))]⟩
@[reducible] def ah(a b:List UInt32)(KK:Nat)(js:List UInt32)(r:PV):Prop:=L bu fn aY (inv1 a b KK js) r
def kZ:List dJ:=focus [0,2,0,2,0,0,2,0,0,0,0,2,0,0,2,0,0,0,2,0,2,0,0,2,0,0] [.code (aL fn)]
def inv2(a b:List UInt32)(Px tc KK Vc:Nat)(js:List UInt32):St:=⟨[(0,(.pv (af a))),(1,(.pv (af b))),(5,(.row 15 0 (a.length+b.length) 1)),(6,(eI (Px:Int))),(7,(eU tc)),(17,(eI (a.length:Int))),(18,(eI (KK:Int))),(22,(eI (b.length:Int))),(23,(eI (Vc:Int)))],[(15,(.pure ((js:List UInt32).map aj).flatten))]⟩
@[reducible] def a8(a b:List UInt32)(Px tc KK Vc:Nat)(js:List UInt32)(r:PV):Prop:=L bu fn kZ (inv2 a b Px tc KK Vc js) r
theorem e0(a b:Ws){r:PV}(h1:(a.length+b.length)<9223372036854775808)(h2:4*(a.length+b.length)≤140737488355328)(hL:ah a b 0 (List.replicate (a.length+b.length) (0:UInt32)) r):Cp 201 [af a,af b] r :=
 eG func201 [1,1,1,5] [.q,.aR [.o,(iL a),.o,(iL b),(iI (((a.length+b.length):Nat):Int)),(.app (a.length+b.length) ((List.replicate (a.length+b.length) (0:UInt32):Ws).map aj).flatten)],.h 1 (iL a),.aG [0,1,5,17,18]] (y5 (an aj a) (an aj b) (aJ h1) (sj aj 0 4 (a.length+b.length) (rN (a.length+b.length)) h2 rfl) (an aj a)) hL
theorem l10(a b:Ws)(c:Nat)(d:Ws){r:PV}(h1:c<a.length)(hL:a8 a b c 0 c 0 d r):ah a b c d r :=
 lG [] [.a,.q,.t,.q,.q,.h 1 (iL b),.aG [0,1,5,6,7,17,18,22,23]] (y2 (ai h1) (an aj b)) hL
theorem cB(a b:Ws)(c:Nat)(d g:Ws)(h1:a.length≤c)(h2:(a.length+b.length)=d.length)(h3:Cp 203 [af d] (af g)):ah a b c d (af g) :=
 lD [1,3] [.a,.q,.f,.dH 5 ((d:Ws).map aj),.h 1 (.pv (af g))] (y3 (ar h1) (bU bc (d:Ws) h2) h3)
theorem uF(a b:Ws)(c d g i:Nat)(j:Ws)(v v1:UInt32)(p:Nat)(v2:UInt32)(s s1:Nat)(w:UInt32)(z:Nat){r:PV}(h1:i<b.length)(h2:a[c]? = some v)(h3:b[i]? = some v1)(h4:(v.toNat*v1.toNat)%18446744073709551616=p)(h5:(c+i)<9223372036854775808)(h6:(c+i)<(a.length+b.length))(h7:j[(c+i)]? = some v2)(h8:(p+v2.toNat)%18446744073709551616=s)(h9:(s+d)%18446744073709551616=s1)(bQ:s1%4294967296=w.toNat)(dU:s1/2^(min 32 64)=z)(fP:(c+i)<j.length)(k7:(i+1)<9223372036854775808)(hL:a8 a b c z g (i+1) (j.set (c+i) w) r):a8 a b c d g i j r :=
 lG [1,3,1,3,1,1,1,2,1,1,1,1,1,1,1,2,2] [.a,.q,.t,.q,dr 21 1 [.none,.none,(.row c (aj v)),.none,iU v.toNat,.none,.none,(.row i (aj v1)),.none,iU v1.toNat,iU p,.none,.none,.none,(iI (((c+i):Nat):Int)),(.nat (c+i)),(.ev (.pv (vW v2))),iU v2.toNat,iU s,.none,iU s1],.aR [.o,.o,.o,(iI (((c+i):Nat):Int)),.o,iW w,.o,iU z,(.nat (c+i)),(.cells (.pure (((j.set (c+i) w):Ws).map aj).flatten))],.h 0 (iI (((i+1):Nat):Int)),.aG [0,1,5,6,7,17,18,22,23]] (U3 (ai h1) (ba aj (rN c) h2) (n8 v) (ba aj (rN i) h3) (n8 v1) (nF h4) (aJ h5) (cj (rN (c+i)) h6) (fK (enc:=aj) (f:=fun a=>(vW a)) (fun _=>rfl) h7) (n8 v2) (dM h8) (dM h9) (aJ h5) (cL bQ) (cS (k := .u64) dU) (cj (rN (c+i)) h6) (gu bc (j:Ws) w fP) (aJ k7)) hL
theorem xe(a b:Ws)(c d g i:Nat)(j:Ws)(w:UInt32){r:PV}(h1:b.length≤i)(h2:(c+b.length)<9223372036854775808)(h3:d%4294967296=w.toNat)(h4:(c+b.length)<(a.length+b.length))(h5:(c+b.length)<j.length)(h6:(g+1)<9223372036854775808)(hL:ah a b (g+1) (j.set (c+b.length) w) r):a8 a b c d g i j r :=
 lG [1,1,1,1,2,2] [.a,.q,.f,.aR [.o,.o,.o,(iL b),(iI (((c+b.length):Nat):Int)),.o,iW w,(.nat (c+b.length)),(.cells (.pure (((j.set (c+b.length) w):Ws).map aj).flatten))],.h 0 (iI (((g+1):Nat):Int)),.aG [0,1,5,17,18]] (y7 (ar h1) (an aj b) (aJ h2) (cL h3) (cj (rN (c+b.length)) h4) (gu bc (j:Ws) w h5) (aJ h6)) hL
end cM
namespace cd
@[reducible] def fn:Func:=Tryz.f202
def aY:List dJ:=focus [0,2,0,2,0,2,0,0,2,0,0] [.code (aL fn)]
def inv1(a b:List UInt32)(Dr:Int)(td cA:List UInt32):St:=⟨[(0,(.pv (af a))),(1,(.pv (af b))),(6,(.row 13 0 a.length 1)),(7,(.row 17 0 (b.length+1) 1)),(8,(eI Dr))],[(13,(.pure ((td:List UInt32).map aj).flatten)),(17,(.pure ((cA:List UInt32).map aj).flatten))]⟩
@[reducible] def ah(a b:List UInt32)(Dr:Int)(td cA:List UInt32)(r:PV):Prop:=L bu fn aY (inv1 a b Dr td cA) r
def kZ:List dJ:=focus [0,2,0,2,0,2,0,0,2,0,0,0,0,0,2,0,2,0,0,0,2,0,0,2,0,0] [.code (aL fn)]
def inv2(a b:List UInt32)(Dr:Int)(GG:UInt32)(Vd:Nat)(td cA:List UInt32):St:=⟨[(0,(.pv (af a))),(1,(.pv (af b))),(6,(.row 13 0 a.length 1)),(7,(.row 17 0 (b.length+1) 1)),(8,(eI Dr)),(9,(eW GG)),(35,(eI (((b.length+1):Nat):Int))),(36,(eI (Vd:Int)))],[(13,(.pure ((td:List UInt32).map aj).flatten)),(17,(.pure ((cA:List UInt32).map aj).flatten))]⟩
@[reducible] def a8(a b:List UInt32)(Dr:Int)(GG:UInt32)(Vd:Nat)(td cA:List UInt32)(r:PV):Prop:=L bu fn kZ (inv2 a b Dr GG Vd td cA) r
theorem e0(a b:Ws)(c:Int){r:PV}(h1:4*a.length≤140737488355328)(h2:(b.length+1)<9223372036854775808)(h3:4*(b.length+1)≤140737488355328)(h4:Cp 233 [af a] (vI c))(h5:ay (c-1))(hL:ah a b (c-1) (List.replicate a.length (0:UInt32)) (List.replicate (b.length+1) (0:UInt32)) r):Cp 202 [af a,af b] r :=
 eG func202 [1,5,1,1,5] [.q,.aR [.o,(iL a),(.app a.length ((List.replicate a.length (0:UInt32):Ws).map aj).flatten)],.aR [.o,(iL b),(iI (((b.length+1):Nat):Int)),(.app (b.length+1) ((List.replicate (b.length+1) (0:UInt32):Ws).map aj).flatten)],.aR [.o,(.pv (vI c)),(iI (c-1))],.aG [0,1,6,7,8],.ord [13,17]] (y7 (an aj a) (sj aj 0 4 a.length (rN a.length) h1 rfl) (an aj b) (aJ h2) (sj aj 0 4 (b.length+1) (rN (b.length+1)) h3 rfl) h4 (aQ h5)) hL
theorem l10(a b:Ws)(c:Int)(d g:Ws)(k:Nat)(v:UInt32)(k1:Nat)(z z1:UInt32){r:PV}(h1:0≤c)(h2:c=(k:Int))(h3:k<9223372036854775808)(h4:a[(k/32)]? = some v)(h5:c=(k1:Int))(h6:v.toNat/2^(min (k1%32) 32)=z.toNat)(h7:(z.toNat%4294967296) &&& (1%4294967296)=z1.toNat)(hL:a8 a b c z1 0 d g r):ah a b c d g r :=
 lG [1,1,3] [.a,.q,.t,.aR [.o,.o,(iI (((k/32):Nat):Int)),(.row (k/32) (aj v)),.o,.o,(iI (((k1%32):Nat):Int)),iW z,iW z1],.q,.aG [0,1,6,7,8,9,35,36]] (y6 (bg h1) (Nr h2 (cC (y:=32) (by decide) h3)) (ba aj (rN (k/32)) h4) (Nr h5 (LZ (x:=k1) (y:=32) (by decide))) (lQ (k := .i64) h6) (gz h7)) hL
theorem cB(a b:Ws)(c:Int)(d g i j:Ws)(h1:c<0)(h2:a.length=d.length)(h3:(b.length+1)=g.length)(h4:Cp 203 [af d] (af i))(h5:Cp 203 [af g] (af j)):ah a b c d g (.aF [af i,af j]) :=
 lD [1,3,3] [.a,.q,.f,.dH 6 ((d:Ws).map aj),.dH 7 ((g:Ws).map aj),.aR [.o,(.pv (af i)),.o,(.pv (af j))]] (y5 (fc h1) (bU bc (d:Ws) h2) (bU bc (g:Ws) h3) h4 h5)
theorem uF(a b:Ws)(c:Int)(d:UInt32)(g:Nat)(i j:Ws)(v z z1 z2:UInt32){r:PV}(h1:g<(b.length+1))(h2:j[g]? = some v)(h3:(v.toNat*2^(min 1 32))%4294967296=z.toNat)(h4:(z.toNat%4294967296) ||| (d.toNat%4294967296)=z1.toNat)(h5:v.toNat/2^(min 31 32)=z2.toNat)(h6:g<j.length)(h7:(g+1)<9223372036854775808)(hL:a8 a b c z2 (g+1) i (j.set g z1) r):a8 a b c d g i j r :=
 lG [1,2,1,1,1,2,1,1,2,2] [.a,.q,.t,.q,dr 16 1 [.none,.none,.none,.none,(.nat g),(.ev (.pv (vW v))),iW z,.none,iW z1,.none,.none,(.nat g),(.ev (.pv (vW v))),iW z2,(.nat g),(.cells (.pure (((j.set g z1):Ws).map aj).flatten))],.h 0 (iI (((g+1):Nat):Int)),.aG [0,1,6,7,8,9,35,36]] (EK (ai h1) (cj (rN g) h1) (fK (enc:=aj) (f:=fun a=>(vW a)) (fun _=>rfl) h2) (Dd (k := .u64) h3) (vt h4) (cj (rN g) h1) (fK (enc:=aj) (f:=fun a=>(vW a)) (fun _=>rfl) h2) (lQ (k := .u64) h5) (cj (rN g) h1) (gu bc (j:Ws) z1 h6) (aJ h7)) hL
theorem xe(a b:Ws)(c:Int)(d:UInt32)(g:Nat)(i j z:Ws)(l:Int)(z1:Ws)(k:Nat)(v:UInt32)(k1:Nat)(z2 z3:UInt32){r:PV}(h1:(b.length+1)≤g)(h2:au bu 199 [.row 100000 0 (b.length+1) 1,.pv (af b)] [(100000,(pW j))] (.pv (vI l)) [(100000,(pW z))])(h3:0≤l)(h4:au bu 215 [.row 100000 0 (b.length+1) 1,.pv (af b)] [(100000,(pW z))] (.pv (.aF [])) [(100000,(pW z1))])(h5:c=(k:Int))(h6:k<9223372036854775808)(h7:(k/32)<a.length)(h8:i[(k/32)]? = some v)(h9:c=(k1:Int))(bQ:(1*2^(min (k1%32) 32))%4294967296=z2.toNat)(dU:(v.toNat%4294967296) ||| (z2.toNat%4294967296)=z3.toNat)(fP:(k/32)<i.length)(k7:ay (c-1))(hL:ah a b (c-1) (i.set (k/32) z3) z1 r):a8 a b c d g i j r :=
 lG [1,1,1,1,1,2,1,1,1,1,2,2] [.a,.q,.f,.h 2 (.bJ [(17,100000)] none (.pv (vI l)) [(100000,(pW z))]),.t,.h 2 (.bJ [(17,100000)] none (.pv (.aF [])) [(100000,(pW z1))]),dr 10 1 [.none,.none,(iI (((k/32):Nat):Int)),(.nat (k/32)),(.ev (.pv (vW v))),.none,(iI (((k1%32):Nat):Int)),iW z2,iW z3,(.nat (k/32)),(.cells (.pure (((i.set (k/32) z3):Ws).map aj).flatten))],.h 1 (iI (c-1)),.aG [0,1,6,7,8]] (IG (ar h1) h2 (bg h3) h4 (Nr h5 (cC (y:=32) (by decide) h6)) (cj (rN (k/32)) h7) (fK (enc:=aj) (f:=fun a=>(vW a)) (fun _=>rfl) h8) (Nr h9 (LZ (x:=k1) (y:=32) (by decide))) (Dd (k := .i64) bQ) (vt dU) (cj (rN (k/32)) h7) (gu bc (i:Ws) z3 fP) (aQ k7)) hL
theorem Py(a b:Ws)(c:Int)(d:UInt32)(g:Nat)(i j z:Ws)(k:Int){r:PV}(h1:(b.length+1)≤g)(h2:au bu 199 [.row 100000 0 (b.length+1) 1,.pv (af b)] [(100000,(pW j))] (.pv (vI k)) [(100000,(pW z))])(h3:k<0)(h4:ay (c-1))(hL:ah a b (c-1) i z r):a8 a b c d g i j r :=
 lG [] [.a,.q,.f,.h 2 (.bJ [(17,100000)] none (.pv (vI k)) [(100000,(pW z))]),.f,.h 1 (iI (c-1)),.aG [0,1,6,7,8]] (y4 (ar h1) h2 (fc h3) (aQ h4)) hL
end cd
namespace fw
@[reducible] def fn:Func:=Tryz.f203
def aY:List dJ:=focus [0,2,0,2,0,0,0] [.code (aL fn)]
def inv1(jt:List UInt32):St:=⟨[(3,(.row 6 0 jt.length 1))],[(6,(.pure ((jt:List UInt32).map aj).flatten))]⟩
@[reducible] def ah(jt:List UInt32)(r:PV):Prop:=L bu fn aY (inv1 jt) r
theorem e0(a:Ws){r:PV}(h1:(([]:Ws)++a:Ws).length*4≤140737488355328)(hL:ah a r):Cp 203 [af a] r :=
 eG func203 [6] [.q,.h 2 (.app (a:Ws).length ((a:Ws).map aj).flatten),.aG [3]] (y1 (iw bc ([]:Ws) (a:Ws) 4 (Eq.refl ([]:Ws).length) h1 rfl)) hL
theorem l10(b:Ws)(k:Nat)(v:UInt32)(u:Nat){r:PV}(h1:0<b.length)(h2:ay ((b.length:Int)-1))(h3:((b.length:Int)-1)=(k:Int))(h4:k<b.length)(h5:b[k]? = some v)(h6:v.toNat=0)(h7:((b.length:Int)-1)=(u:Int))(h8:u≤(b:Ws).length)(hL:ah (b.take u) r):ah b r :=
 lG [1,1,1,1,1,1,2,1,1,1,1,1,1,5] [.a,.aR [.o,.o,.o,.o,.o,.o,.o,(iI ((b.length:Int)-1)),(.nat k),(.ev (.pv (vW v))),.o,(.dec true)],.t,.aR [.o,.o,.o,(iI ((b.length:Int)-1)),(.fj 0 ((b.take u).length) [])],.cut 6 (u*1) (((b.take u):Ws).map aj).flatten,.aG [3]] (Nx (ai h1) (ai h1) (ai h1) (ai h1) (aQ h2) (ai h1) (cj h3 h4) (ai h1) (fK (enc:=aj) (f:=fun a=>(vW a)) (fun _=>rfl) h5) (ai h1) (ai h1) (aM h6) (aQ h2) (ID (b:Ws) h7 h8) (uz bc (b:Ws) u)) hL
theorem cB(b:Ws)(k:Nat)(v:UInt32)(h1:0<b.length)(h2:ay ((b.length:Int)-1))(h3:((b.length:Int)-1)=(k:Int))(h4:k<b.length)(h5:b[k]? = some v)(h6:v.toNat≠0):ah b (af b) :=
 lD [1,1,1,1,1,1,2,1,1,1,1,1,3] [.a,.aR [.o,.o,.o,.o,.o,.o,.o,(iI ((b.length:Int)-1)),(.nat k),(.ev (.pv (vW v))),.o,(.dec true)],.f,.q,.dH 2 ((b:Ws).map aj)] (IG (ai h1) (ai h1) (ai h1) (ai h1) (aQ h2) (ai h1) (cj h3 h4) (ai h1) (fK (enc:=aj) (f:=fun a=>(vW a)) (fun _=>rfl) h5) (ai h1) (ai h1) (aB h6) (bU bc (b:Ws) (Eq.refl (b:Ws).length)))
theorem jT(b:Ws)(h1:b.length≤0):ah b (af b) :=
 lD [1,1,1,1,1,1,1,1,3] [.a,.aR [.o,.o,.o,.o,.skip,.skip,.skip,.skip,.skip,.skip,.skip,(.dec false)],.a,.q,.dH 2 ((b:Ws).map aj)] (y9 (ar h1) (ar h1) (ar h1) (ar h1) (ar h1) (ar h1) (ar h1) (ar h1) (bU bc (b:Ws) (Eq.refl (b:Ws).length)))
end fw
namespace eX
@[reducible] def fn:Func:=Tryz.f203
def aY:List dJ:=focus [0,2,0,2,0,0,0] [.code (aL fn)]
def inv1(jt:List UInt32):St:=⟨[(3,(.row 6 0 jt.length 1))],[(6,(.pure ((jt:List UInt32).map aj).flatten))]⟩
@[reducible] def ah(jt:List UInt32)(sin:aT)(r:EV)(sout:aT):Prop:=LX bu fn aY (inv1 jt) sin r sout
theorem e0(a:Ws){r:EV}{sout:aT}(h1:(([]:Ws)++a:Ws).length*4≤140737488355328)(hL:ah a [] r sout):au bu 203 [(.pv (af a))] [] r sout :=
 Nu func203 [6] [.q,.h 2 (.app (a:Ws).length ((a:Ws).map aj).flatten),.aG [3]] (y1 (iw bc ([]:Ws) (a:Ws) 4 (Eq.refl ([]:Ws).length) h1 rfl)) hL
theorem l10(b:Ws)(k:Nat)(v:UInt32)(u:Nat){r:EV}{sout:aT}{sin:aT}(hs:jR fn sin)(h1:0<b.length)(h2:ay ((b.length:Int)-1))(h3:((b.length:Int)-1)=(k:Int))(h4:k<b.length)(h5:b[k]? = some v)(h6:v.toNat=0)(h7:((b.length:Int)-1)=(u:Int))(h8:u≤(b:Ws).length)(hL:ah (b.take u) sin r sout):ah b sin r sout :=
 IE [1,1,1,1,1,1,2,1,1,1,1,1,1,5] [.a,.aR [.o,.o,.o,.o,.o,.o,.o,(iI ((b.length:Int)-1)),(.nat k),(.ev (.pv (vW v))),.o,(.dec true)],.t,.aR [.o,.o,.o,(iI ((b.length:Int)-1)),(.fj 0 ((b.take u).length) [])],.cut 6 (u*1) (((b.take u):Ws).map aj).flatten,.aG [3]] hs (Nx (ai h1) (ai h1) (ai h1) (ai h1) (aQ h2) (ai h1) (cj h3 h4) (ai h1) (fK (enc:=aj) (f:=fun a=>(vW a)) (fun _=>rfl) h5) (ai h1) (ai h1) (aM h6) (aQ h2) (ID (b:Ws) h7 h8) (uz bc (b:Ws) u)) hL
theorem cB(b:Ws)(k:Nat)(v:UInt32){sin:aT}(hs:jR fn sin)(hi:sin.all (fun p=>wo p.1||(aT.get [(0,(pW b))] p.1).isSome)=true)(h1:0<b.length)(h2:ay ((b.length:Int)-1))(h3:((b.length:Int)-1)=(k:Int))(h4:k<b.length)(h5:b[k]? = some v)(h6:v.toNat≠0):ah b sin (.row 0 0 b.length 1) [(0,(pW b))] :=
 Fj [1,1,1,1,1,1,2] [.a,.aR [.o,.o,.o,.o,.o,.o,.o,(iI ((b.length:Int)-1)),(.nat k),(.ev (.pv (vW v))),.o,(.dec true)],.f,.q,.pn 6 0,.ord [0]] hs hi (IF (ai h1) (ai h1) (ai h1) (ai h1) (aQ h2) (ai h1) (cj h3 h4) (ai h1) (fK (enc:=aj) (f:=fun a=>(vW a)) (fun _=>rfl) h5) (ai h1) (ai h1) (aB h6))
theorem jT(b:Ws){sin:aT}(hs:jR fn sin)(hi:sin.all (fun p=>wo p.1||(aT.get [(0,(pW b))] p.1).isSome)=true)(h1:b.length≤0):ah b sin (.row 0 0 b.length 1) [(0,(pW b))] :=
 Fj [] [.a,.aR [.o,.o,.o,.o,.skip,.skip,.skip,.skip,.skip,.skip,.skip,(.dec false)],.a,.q,.pn 6 0,.ord [0]] hs hi (y8 (ar h1) (ar h1) (ar h1) (ar h1) (ar h1) (ar h1) (ar h1) (ar h1))
end eX
namespace ga
@[reducible] def fn:Func:=Tryz.f214
def aY:List dJ:=focus [0,2,0,0,2,0,0] [.code (aL fn)]
def inv1(len Ve:Nat)(bG:List UInt32):St:=⟨[(0,(.row 100000 0 len 1)),(5,(eI (len:Int))),(6,(eI (Ve:Int)))],[(100000,(.pure ((bG:List UInt32).map aj).flatten))]⟩
@[reducible] def ah(len Ve:Nat)(bG:List UInt32)(sin:aT)(r:EV)(sout:aT):Prop:=LX bu fn aY (inv1 len Ve bG) sin r sout
theorem e0 (a : Ws) (b : Nat) {r : EV} {sout : aT}  (hL : ah b 0 a [(100000, (pW a))] r sout) : au bu 214 [(.row 100000 0 b 1)] [(100000, (pW a))] r sout :=
 Nu func214 [] [.q,.q,.aG [0,5,6]] True.intro hL
theorem l10(b c:Nat)(d z:Ws)(g z1:Nat)(z2:Ws)(i z3 z4:Nat)(w:UInt32){r:EV}{sout:aT}{sin:aT}(hs:jR fn sin)(h1:c<b)(h2:au bu 232 [.row 100000 0 b 1,.pv (vI (c:Int))] [(100000,(pW d))] (.pv (vU g)) [(100000,(pW z))])(h3:g/2^(min 1 64)=z1)(h4:(c+1)<9223372036854775808)(h5:au bu 232 [.row 100000 0 b 1,.pv (vI (((c+1):Nat):Int))] [(100000,(pW z))] (.pv (vU i)) [(100000,(pW z2))])(h6:(i*2^(min 31 64))%18446744073709551616=z3)(h7:(z1%18446744073709551616) ||| (z3%18446744073709551616)=z4)(h8:z4%4294967296=w.toNat)(h9:c<z2.length)(hL:ah b (c+1) (z2.set c w) sin r sout):ah b c d sin r sout :=
 IE [1,1,1,1,1,1,1,1,2,2] [.a,.q,.t,.q,.aR [.o,.o,.o,.o,(.bJ [(100000,100000)] none (.pv (vU g)) [(100000,(pW z))]),iU z1,.o,.o,(iI (((c+1):Nat):Int)),(.bJ [(100000,100000)] none (.pv (vU i)) [(100000,(pW z2))]),iU z3,iU z4,iW w,(.nat c),(.cells (.pure (((z2.set c w):Ws).map aj).flatten))],.h 0 (iI (((c+1):Nat):Int)),.aG [0,5,6]] hs (EK (ai h1) h2 (cS (k := .u64) h3) (aJ h4) h5 (jk (k := .u64) h6) (nG h7) (cL h8) (cj (rN c) h1) (gu bc (z2:Ws) w h9) (aJ h4)) hL
theorem cB(b c:Nat)(d z:Ws)(n:Nat){sin:aT}(hs:jR fn sin)(hi:sin.all (fun p=>wo p.1||(aT.get [(100000,(.pure (((z.take n):Ws).map aj).flatten))] p.1).isSome)=true)(h1:b≤c)(h2:au bu 216 [.row 100000 0 b 1] [(100000,(pW d))] (.row 100000 0 n 1) [(100000,(pW z))]):ah b c d sin (.row 100000 0 n 1) [(100000,(.pure (((z.take n):Ws).map aj).flatten))] :=
 Fj [] [.a,.q,.f,.h 1 (.bJ [(100000,100000)] none (.row 100000 0 n 1) [(100000,(pW z))]),.cut 100000 (n*1) (((z.take n):Ws).map aj).flatten,.ord [100000]] hs hi (y3 (ar h1) h2 (uz bc (z:Ws) n))
end ga
namespace gC
@[reducible] def fn:Func:=Tryz.f215
def aY:List dJ:=focus [0,2,0,2,0,0] [.code (aL fn)]
def inv1(len:Nat)(b:List UInt32)(pU Pz:Nat)(bG:List UInt32):St:=⟨[(0,(.row 100000 0 len 1)),(1,(.pv (af b))),(4,(eU pU)),(8,(eI (len:Int))),(9,(eI (Pz:Int)))],[(100000,(.pure ((bG:List UInt32).map aj).flatten))]⟩
@[reducible] def ah(len:Nat)(b:List UInt32)(pU Pz:Nat)(bG:List UInt32)(sin:aT)(r:EV)(sout:aT):Prop:=LX bu fn aY (inv1 len b pU Pz bG) sin r sout
theorem e0 (a : Ws) (c : Nat) (b : Ws) {r : EV} {sout : aT}  (hL : ah c b 0 0 a [(100000, (pW a))] r sout) : au bu 215 [(.row 100000 0 c 1), (.pv (af b))] [(100000, (pW a))] r sout :=
 Nu func215 [] [.q,.q,.aG [0,1,4,8,9]] True.intro hL
theorem l10(c:Nat)(b:Ws)(g i:Nat)(j z:Ws)(l s m d d1:Nat)(w:UInt32)(z1 d2:Nat){r:EV}{sout:aT}{sin:aT}(hs:jR fn sin)(h1:i<c)(h2:au bu 232 [.row 100000 0 c 1,.pv (vI (i:Int))] [(100000,(pW j))] (.pv (vU l)) [(100000,(pW z))])(h3:(4294967296+l)%18446744073709551616=s)(h4:Cp 232 [af b,(vI (i:Int))] (vU m))(h5:((s:Nat)-(m:Nat):Int)%18446744073709551616=(d:Int))(h6:((d:Nat)-(g:Nat):Int)%18446744073709551616=(d1:Int))(h7:d1%4294967296=w.toNat)(h8:d1/2^(min 32 64)=z1)(h9:((1:Nat)-(z1:Nat):Int)%18446744073709551616=(d2:Int))(bQ:i<z.length)(dU:(i+1)<9223372036854775808)(hL:ah c b d2 (i+1) (z.set i w) sin r sout):ah c b g i j sin r sout :=
 IE [1,1,1,1,1,1,1,1,1,2,2] [.a,.q,.t,.q,.aR [.o,.o,(.bJ [(100000,100000)] none (.pv (vU l)) [(100000,(pW z))]),iU s,.o,.o,(.pv (vU m)),iU d,.o,iU d1],.aR [.o,.o,.o,iW w,.o,iU z1,iU d2,(.nat i),(.cells (.pure (((z.set i w):Ws).map aj).flatten))],.h 0 (iI (((i+1):Nat):Int)),.aG [0,1,4,8,9]] hs (IF (ai h1) h2 (dM h3) h4 (dB h5) (dB h6) (cL h7) (cS (k := .u64) h8) (dB h9) (cj (rN i) h1) (gu bc (z:Ws) w bQ) (aJ dU)) hL
theorem cB(c:Nat)(b:Ws)(d g:Nat)(i:Ws){sin:aT}(hs:jR fn sin)(hi:sin.all (fun p=>wo p.1||(aT.get [(100000,(pW i))] p.1).isSome)=true)(h1:c≤g):ah c b d g i sin (.pv (.aF [])) [(100000,(pW i))] :=
 Fj [] [.a,.q,.f,.ord [100000]] hs hi (y1 (ar h1))
end gC
namespace gb
@[reducible] def fn:Func:=Tryz.f215
def aY:List dJ:=focus [0,2,0,2,0,0] [.code (aL fn)]
def inv1(len lz pU Pz:Nat)(bG kl:List UInt32):St:=⟨[(0,(.row 100000 0 len 1)),(1,(.row 100001 0 lz 1)),(4,(eU pU)),(8,(eI (len:Int))),(9,(eI (Pz:Int)))],[(100000,(.pure ((bG:List UInt32).map aj).flatten)),(100001,(.pure ((kl:List UInt32).map aj).flatten))]⟩
@[reducible] def ah(len lz pU Pz:Nat)(bG kl:List UInt32)(sin:aT)(r:EV)(sout:aT):Prop:=LX bu fn aY (inv1 len lz pU Pz bG kl) sin r sout
theorem e0 (a : Ws) (c : Nat) (b : Ws) (d : Nat) {r : EV} {sout : aT}  (hL : ah c d 0 0 a b [(100000, (pW a)), (100001, (pW b))] r sout) : au bu 215 [(.row 100000 0 c 1), (.row 100001 0 d 1)] [(100000, (pW a)), (100001, (pW b))] r sout :=
 Nu func215 [] [.q,.q,.aG [0,1,4,8,9]] True.intro hL
theorem l10(b c g i:Nat)(j l z:Ws)(m s:Nat)(z1:Ws)(n d d1:Nat)(w:UInt32)(z2 d2:Nat){r:EV}{sout:aT}{sin:aT}(hs:jR fn sin)(h1:i<b)(h2:au bu 232 [.row 100000 0 b 1,.pv (vI (i:Int))] [(100000,(pW j))] (.pv (vU m)) [(100000,(pW z))])(h3:(4294967296+m)%18446744073709551616=s)(h4:au bu 232 [.row 100000 0 c 1,.pv (vI (i:Int))] [(100000,(pW l))] (.pv (vU n)) [(100000,(pW z1))])(h5:((s:Nat)-(n:Nat):Int)%18446744073709551616=(d:Int))(h6:((d:Nat)-(g:Nat):Int)%18446744073709551616=(d1:Int))(h7:d1%4294967296=w.toNat)(h8:d1/2^(min 32 64)=z2)(h9:((1:Nat)-(z2:Nat):Int)%18446744073709551616=(d2:Int))(bQ:i<z.length)(dU:(i+1)<9223372036854775808)(hL:ah b c d2 (i+1) (z.set i w) z1 sin r sout):ah b c g i j l sin r sout :=
 IE [1,1,1,1,1,1,1,1,1,2,2] [.a,.q,.t,.q,.aR [.o,.o,(.bJ [(100000,100000)] none (.pv (vU m)) [(100000,(pW z))]),iU s,.o,.o,(.bJ [(100001,100000)] none (.pv (vU n)) [(100000,(pW z1))]),iU d,.o,iU d1],.aR [.o,.o,.o,iW w,.o,iU z2,iU d2,(.nat i),(.cells (.pure (((z.set i w):Ws).map aj).flatten))],.h 0 (iI (((i+1):Nat):Int)),.aG [0,1,4,8,9]] hs (IF (ai h1) h2 (dM h3) h4 (dB h5) (dB h6) (cL h7) (cS (k := .u64) h8) (dB h9) (cj (rN i) h1) (gu bc (z:Ws) w bQ) (aJ dU)) hL
theorem cB(b c d g:Nat)(i j:Ws){sin:aT}(hs:jR fn sin)(hi:sin.all (fun p=>wo p.1||(aT.get [(100000,(pW i)),(100001,(pW j))] p.1).isSome)=true)(h1:b≤g):ah b c d g i j sin (.pv (.aF [])) [(100000,(pW i)),(100001,(pW j))] :=
 Fj [] [.a,.q,.f,.ord [100000,100001]] hs hi (y1 (ar h1))
end gb
namespace fS
@[reducible] def fn:Func:=Tryz.f216
def aY:List dJ:=focus [0,2,0,0,0] [.code (aL fn)]
def inv1(xh:Nat)(a:List UInt32):St:=⟨[(0,(.row 100000 0 xh 1))],[(100000,(.pure ((a:List UInt32).map aj).flatten))]⟩
@[reducible] def ah(xh:Nat)(a:List UInt32)(sin:aT)(r:EV)(sout:aT):Prop:=LX bu fn aY (inv1 xh a) sin r sout
theorem e0 (a : Ws) (b : Nat) {r : EV} {sout : aT}  (hL : ah b a [(100000, (pW a))] r sout) : au bu 216 [(.row 100000 0 b 1)] [(100000, (pW a))] r sout :=
 Nu func216 [] [.q,.aG [0]] True.intro hL
theorem l10(b:Nat)(a:Ws)(k:Nat)(v:UInt32)(u:Nat){r:EV}{sout:aT}{sin:aT}(hs:jR fn sin)(h1:0<b)(h2:ay ((b:Int)-1))(h3:((b:Int)-1)=(k:Int))(h4:k<b)(h5:a[k]? = some v)(h6:v.toNat=0)(h7:((b:Int)-1)=(u:Int))(h8:u≤b)(hL:ah u a sin r sout):ah b a sin r sout :=
 IE [1,1,1,1,1,1,2,1,1,1,1,1,1,5] [.a,.aR [.o,.o,.o,.o,.o,.o,.o,(iI ((b:Int)-1)),(.nat k),(.ev (.pv (vW v))),.o,(.dec true)],.t,.aR [.o,.o,.o,(iI ((b:Int)-1)),(.fj 0 u [])],.aG [0]] hs (Nv (ai h1) (ai h1) (ai h1) (ai h1) (aQ h2) (ai h1) (cj h3 h4) (ai h1) (fK (enc:=aj) (f:=fun a=>(vW a)) (fun _=>rfl) h5) (ai h1) (ai h1) (aM h6) (aQ h2) (Xv (Eq.refl (0:Int)) h7 (Or.inl (Eq.refl 0)) (ag0 u) h8)) hL
theorem cB(b:Nat)(a:Ws)(k:Nat)(v:UInt32){sin:aT}(hs:jR fn sin)(hi:sin.all (fun p=>wo p.1||(aT.get [(100000,(.pure (((a.take b):Ws).map aj).flatten))] p.1).isSome)=true)(h1:0<b)(h2:ay ((b:Int)-1))(h3:((b:Int)-1)=(k:Int))(h4:k<b)(h5:a[k]? = some v)(h6:v.toNat≠0):ah b a sin (.row 100000 0 b 1) [(100000,(.pure (((a.take b):Ws).map aj).flatten))] :=
 Fj [1,1,1,1,1,1,2] [.a,.aR [.o,.o,.o,.o,.o,.o,.o,(iI ((b:Int)-1)),(.nat k),(.ev (.pv (vW v))),.o,(.dec true)],.f,.q,.cut 100000 (b*1) (((a.take b):Ws).map aj).flatten,.ord [100000]] hs hi (IG (ai h1) (ai h1) (ai h1) (ai h1) (aQ h2) (ai h1) (cj h3 h4) (ai h1) (fK (enc:=aj) (f:=fun a=>(vW a)) (fun _=>rfl) h5) (ai h1) (ai h1) (aB h6) (uz bc (a:Ws) b))
theorem jT(b:Nat)(a:Ws){sin:aT}(hs:jR fn sin)(hi:sin.all (fun p=>wo p.1||(aT.get [(100000,(.pure (((a.take b):Ws).map aj).flatten))] p.1).isSome)=true)(h1:b≤0):ah b a sin (.row 100000 0 b 1) [(100000,(.pure (((a.take b):Ws).map aj).flatten))] :=
 Fj [] [.a,.aR [.o,.o,.o,.o,.skip,.skip,.skip,.skip,.skip,.skip,.skip,(.dec false)],.a,.q,.cut 100000 (b*1) (((a.take b):Ws).map aj).flatten,.ord [100000]] hs hi (y9 (ar h1) (ar h1) (ar h1) (ar h1) (ar h1) (ar h1) (ar h1) (ar h1) (uz bc (a:Ws) b))
end fS
namespace k8
theorem e0(a:az)(h1:a.cJ.length=0):Cp 217 [a.pv] (vB (!a.neg)) :=
 eD func217 [] [.q,.h 2 (iL a.cJ),.t,.q] (y2 (an aj a.cJ) (aM h1))
theorem e1(a:az)(k:Nat)(v:UInt32)(h1:a.cJ.length≠0)(h2:ay ((a.cJ.length:Int)-1))(h3:((a.cJ.length:Int)-1)=(k:Int))(h4:a.cJ[k]? = some v):Cp 217 [a.pv] (vB ((v.toNat:Int) != 0)) :=
 eD func217 [1,1,1,1,3] [.q,.h 2 (iL a.cJ),.f,.aR [.o,.o,.o,.o,(iL a.cJ),(iI ((a.cJ.length:Int)-1)),(.row k (aj v))]] (y5 (an aj a.cJ) (aB h1) (an aj a.cJ) (aQ h2) (ba aj h3 h4))
end k8
namespace nK
theorem e0(a:Ws)(i:Int)(k:Nat)(v:UInt32)(h1:i<(a.length:Int))(h2:i=(k:Int))(h3:a[k]? = some v):Cp 232 [af a,vI i] (vU v.toNat) :=
 eD func232 [1,1,3] [.q,.h 2 (iL a),.t,.aR [.o,.o,(.row k (aj v)),.o,iU v.toNat]] (y4 (an aj a) (bA h1) (ba aj h2 h3) (n8 v))
theorem e1(a:Ws)(i:Int)(h1:(a.length:Int)≤i):Cp 232 [af a,vI i] (vU 0) :=
 eD func232 [] [.q,.h 2 (iL a),.f,.q] (y2 (an aj a) (bm h1))
end nK
namespace mN
theorem e0(a:Ws)(b:Nat)(i:Int)(k:Nat)(v:UInt32)(h1:i<(b:Int))(h2:i=(k:Int))(h3:k<b)(h4:a[k]? = some v):au bu 232 [(.row 100000 0 b 1),eI i] [(100000,(pW a))] (.pv (vU v.toNat)) [(100000,(pW a))] :=
 HL func232 [1,2] [.q,.q,.t,.aR [.o,.o,(.nat k),(.ev (.pv (vW v))),iU v.toNat],.ord [100000]] (y4 (bA h1) (cj h2 h3) (fK (enc:=aj) (f:=fun a=>(vW a)) (fun _=>rfl) h4) (n8 v))
theorem e1(a:Ws)(b:Nat)(i:Int)(h1:(b:Int)≤i):au bu 232 [(.row 100000 0 b 1),eI i] [(100000,(pW a))] (.pv (vU 0)) [(100000,(pW a))] :=
 HL func232 [] [.q,.q,.f,.q,.ord [100000]] (y1 (bm h1))
end mN
namespace eg
@[reducible] def fn:Func:=Tryz.f233
def aY:List dJ:=focus [0,2,0,0,2,1,2,0,2,0,0,2,0,0] [.code (aL fn)]
def inv1(U7:Int)(x_4:UInt32):St:=⟨[(3,(eI U7)),(4,(eW x_4))],[]⟩
@[reducible] def ah(U7:Int)(x_4:UInt32)(r:PV):Prop:=L bu fn aY (inv1 U7 x_4) r
theorem e0(a:Ws)(h1:a.length=0):Cp 233 [af a] (vI 0) :=
 eD func233 [] [.q,.h 1 (iL a),.t,.q] (y2 (an aj a) (aM h1))
theorem e1(a:Ws)(k:Nat)(v:UInt32){r:PV}(h1:a.length≠0)(h2:ay ((a.length:Int)-1))(h3:ay (32*((a.length:Int)-1)))(h4:((a.length:Int)-1)=(k:Int))(h5:a[k]? = some v)(hL:ah (32*((a.length:Int)-1)) v r):Cp 233 [af a] r :=
 eG func233 [1,1,1,1,1,1,1,3] [.q,.h 1 (iL a),.f,.aR [.o,(iL a),(iI ((a.length:Int)-1)),(iI (32*((a.length:Int)-1)))],.aR [.o,.o,(iL a),(iI ((a.length:Int)-1)),(.row k (aj v))],.aG [3,4]] (y8 (an aj a) (aB h1) (an aj a) (aQ h2) (pL h3) (an aj a) (aQ h2) (ba aj h4 h5)) hL
theorem l10(b:Int)(c z:UInt32){r:PV}(h1:0<c.toNat)(h2:ay (b+1))(h3:c.toNat/2^(min 1 32)=z.toNat)(hL:ah (b+1) z r):ah b c r :=
 lG [] [.a,.q,.t,.h 1 (iI (b+1)),.h 1 (iW z),.aG [3,4]] (y3 (ai h1) (rO h2) (lQ (k := .u64) h3)) hL
theorem cB(b:Int)(c:UInt32)(h1:c.toNat≤0):ah b c (vI b) :=
 lD [] [.a,.q,.f,.q] (y1 (ar h1))
end eg
namespace yn
theorem e0(a b:ag)(c d g i j k:az)(l:Int)(h1:Cp 52 [a.pv] (.aF [c.pv,d.pv]))(h2:Cp 52 [b.pv] (.aF [g.pv,i.pv]))(h3:Cp 54 [c.pv,i.pv] j.pv)(h4:Cp 54 [g.pv,d.pv] k.pv)(h5:Cp 53 [j.pv,k.pv] (vI l)):Cp 17 [a.pv,b.pv] (vI l) :=
 eD func17 [] [.q,.h 1 (.pv (.aF [c.pv,d.pv])),.h 1 (.pv (.aF [g.pv,i.pv])),dr 7 1 [.none,.none,(.pv j.pv),.none,.none,(.pv k.pv),(.pv (vI l))]] (y5 h1 h2 h3 h4 h5)
end yn
namespace A5
theorem e0(n:Int)(of a:az)(b:ag)(h1:Cp 56 [vI n] of.pv)(h2:Cp 57 [] a.pv)(h3:Cp 55 [of.pv,a.pv] b.pv):Cp 18 [vI n] b.pv :=
 eD func18 [] [.q,.aR [.o,(.pv of.pv),(.pv a.pv),(.pv b.pv)]] (y3 h1 h2 h3)
end A5
namespace rU
theorem e0(a:ag)(b c d:az)(g:Int)(i:ByteArray)(h1:Cp 52 [a.pv] (.aF [b.pv,c.pv]))(h2:Cp 57 [] d.pv)(h3:Cp 53 [c.pv,d.pv] (vI g))(h4:g=0)(h5:Cp 76 [b.pv] (.str i)):Cp 31 [a.pv] (.str i) :=
 eD func31 [] [.q,.h 1 (.pv (.aF [b.pv,c.pv])),dr 4 0 [.none,(.pv d.pv),(.pv (vI g))],.t,.h 1 (.pv (.str i))] (y5 h1 h2 h3 (aU h4) h5)
theorem e1(a:ag)(b c d:az)(g:Int)(i j:ByteArray)(h1:Cp 52 [a.pv] (.aF [b.pv,c.pv]))(h2:Cp 57 [] d.pv)(h3:Cp 53 [c.pv,d.pv] (vI g))(h4:g≠0)(h5:Cp 76 [b.pv] (.str i))(h6:i.size+(ByteArray.mk #[47]).size<9223372036854775808)(h7:Cp 76 [c.pv] (.str j))(h8:(i++(ByteArray.mk #[47])).size+j.size<9223372036854775808):Cp 31 [a.pv] (.str ((i++(ByteArray.mk #[47]))++j)) :=
 eD func31 [] [.q,.h 1 (.pv (.aF [b.pv,c.pv])),dr 4 0 [.none,(.pv d.pv),(.pv (vI g))],.f,dr 6 1 [.none,(.pv (.str i)),(.pv (.str (i++(ByteArray.mk #[47])))),.none,(.pv (.str j)),(.pv (.str ((i++(ByteArray.mk #[47]))++j)))]] (y8 h1 h2 h3 (bf h4) h5 (yi h6) h7 (yi h8))
end rU
namespace so
theorem e0(n:Int)(of a:az)(b:ag)(h1:Cp 88 [vI n] of.pv)(h2:Cp 89 [] a.pv)(h3:Cp 87 [of.pv,a.pv] b.pv):Cp 36 [vI n] b.pv :=
 eD func36 [] [.q,.aR [.o,(.pv of.pv),(.pv a.pv),(.pv b.pv)]] (y3 h1 h2 h3)
end so
namespace q8
theorem e0(a b c:ag)(d:Int)(h1:Cp 95 [a.pv,b.pv] c.pv)(h2:Cp 85 [c.pv] (vI d)):Cp 45 [a.pv,b.pv] (vI d) :=
 eD func45 [] [.q,.aR [.o,.o,(.pv c.pv),(.pv (vI d))]] (y2 h1 h2)
end q8
namespace dc
theorem e0(a:ag)(h1:a.num.length=0)(h2:a.den.length=0):Cp 50 [a.pv] (vB (!a.neg)) :=
 eD func50 [] [.q,.aR [.o,.o,(iL a.num),.o,.o,.o,.o,(iL a.den),.o,(.dec true)],.t,.q] (y8 (an aj a.num) (aM h1) (aM h1) (aM h1) (an aj a.den) (aM h1) (aM h1) (aM h2))
theorem e3(a:ag)(b:Bool)(h1:a.num.length=0)(h2:a.den.length≠0)(h3:Cp 99 [af a.num] (vB b))(h4:b=false):Cp 50 [a.pv] (vB false) :=
 eD func50 [] [.q,.aR [.o,.o,(iL a.num),.o,.o,.o,.o,(iL a.den),.o,(.dec true)],.f,.aR [.o,.o,(.pv (vB b)),.o,.skip,.skip,.skip,(.dec false),.o,.skip,.skip,.skip,.skip,.skip,.skip,.skip,.skip,.skip,.skip]] (y23 (an aj a.num) (aM h1) (aM h1) (aM h1) (an aj a.den) (aM h1) (aM h1) (aB h2) h3 h4 h4 h4 h4 rF rF rF rF rF rF rF rF rF rF)
theorem e4(a:ag)(b c:Bool)(d g:az)(i:Int)(h1:a.num.length≠0)(h2:Cp 99 [af a.num] (vB b))(h3:b=true)(h4:Cp 99 [af a.den] (vB c))(h5:c=true)(h6:Cp 101 [(⟨false,a.num⟩:az).pv,(⟨false,a.den⟩:az).pv] d.pv)(h7:Cp 89 [] g.pv)(h8:Cp 100 [d.pv,g.pv] (vI i)):Cp 50 [a.pv] (vB (i==0)) :=
 eD func50 [] [.q,.aR [.o,.o,(iL a.num),.o,.o,.skip,.skip,.skip,.skip,(.dec false)],.a,.aR [.o,.o,(.pv (vB b)),.o,.o,.o,(.pv (vB c)),(.dec true),.o,.o,.o,.o,.o,.o,.o,(.pv d.pv),(.pv g.pv),(.pv (vI i)),.o,(.dec true)]] (y26 (an aj a.num) (aB h1) (aB h1) (aB h1) (aB h1) (aB h1) h2 h3 h3 h3 h4 h3 h5 h5 h5 h5 h5 h5 h5 h6 h5 h7 h5 h8 h5 h5)
theorem e5(a:ag)(b c:Bool)(h1:a.num.length≠0)(h2:Cp 99 [af a.num] (vB b))(h3:b=true)(h4:Cp 99 [af a.den] (vB c))(h5:c=false):Cp 50 [a.pv] (vB false) :=
 eD func50 [] [.q,.aR [.o,.o,(iL a.num),.o,.o,.skip,.skip,.skip,.skip,(.dec false)],.a,.aR [.o,.o,(.pv (vB b)),.o,.o,.o,(.pv (vB c)),(.dec true),.o,.skip,.skip,.skip,.skip,.skip,.skip,.skip,.skip,.skip,.skip,(.dec false)]] (y23 (an aj a.num) (aB h1) (aB h1) (aB h1) (aB h1) (aB h1) h2 h3 h3 h3 h4 h3 h5 h5 h5 h5 h5 h5 h5 h5 h5 h5 h5)
theorem e6(a:ag)(b:Bool)(h1:a.num.length≠0)(h2:Cp 99 [af a.num] (vB b))(h3:b=false):Cp 50 [a.pv] (vB false) :=
 eD func50 [] [.q,.aR [.o,.o,(iL a.num),.o,.o,.skip,.skip,.skip,.skip,(.dec false)],.a,.aR [.o,.o,(.pv (vB b)),.o,.skip,.skip,.skip,(.dec false),.o,.skip,.skip,.skip,.skip,.skip,.skip,.skip,.skip,.skip,.skip]] (U4 (an aj a.num) (aB h1) (aB h1) (aB h1) (aB h1) (aB h1) h2 h3 h3 h3 h3 rF rF rF rF rF rF rF rF rF rF)
end dc
namespace mO
@[reducible] def fn:Func:=Tryz.f52
theorem e0(a:ag)(b:Bool)(c:az)(h1:Cp 102 [a.pv] (vB b))(h2:b=false)(h3:Cp 57 [] c.pv):Cp 52 [a.pv] (.aF [(⟨false,[]⟩:az).pv,c.pv]) :=
 eD func52 [] [.q,.aR [.o,(.pv (vB b)),.o,.o,.skip,.skip,.skip,.skip,(.dec true)],.a,.h 1 (.pv c.pv)] (y7 h1 (dm h2) (dm h2) (dm h2) (dm h2) (dm h2) h3)
theorem e1(a:ag)(b:Bool)(c:az)(h1:Cp 102 [a.pv] (vB b))(h2:b=true)(h3:a.num.length=0)(h4:Cp 57 [] c.pv):Cp 52 [a.pv] (.aF [(⟨false,[]⟩:az).pv,c.pv]) :=
 eD func52 [] [.q,.aR [.o,(.pv (vB b)),.o,.o,.o,.o,(iL a.num),.o,(.dec false)],.t,.h 1 (.pv c.pv)] (y9 h1 (bw h2) (bw h2) (bw h2) (an aj a.num) (bw h2) (bw h2) (aM h3) h4)
theorem Sa(a:ag):qF bu Fi fn [0,2,0,0,2,1,2,0] [] [.none,.none,.none,.none,.none,(.fj (a.num:List UInt32).length 0 ((a.num:List UInt32).map aj)),.none,.none] ⟨[(1,(.ptr 1 0)),(2,(.ptr 2 0)),(3,(.ptr 3 0))],[(3,(.lit [(eB false),(.pv (.list []))])),(2,(.lit [(eB false),(.pv (.list []))])),(1,(.lit [(eB a.neg),(.pv (af a.num)),(.pv (af a.den))]))]⟩:=by unfold qF z6;kernel_rfl
theorem Sb(a:ag):qF bu Fi fn [0,2,0,0,2,1,2,0,2,0] [] [.none,.none,.none,.none,(.fj (a.den:List UInt32).length 0 ((a.den:List UInt32).map aj)),.none,.none,.none] ⟨[(1,(.ptr 1 0)),(2,(.ptr 2 0)),(3,(.ptr 3 0))],[(3,(.lit [(eB false),(.pv (.list []))])),(2,(.lit [(eB a.neg),(.pv (af a.num))])),(1,(.lit [(eB a.neg),(.pv (af a.num)),(.pv (af a.den))]))]⟩:=by unfold qF z6;kernel_rfl
theorem e2(a:ag)(b:Bool)(h1:Cp 102 [a.pv] (vB b))(h2:b=true)(h3:a.num.length≠0)(h4:(([]:Ws)++a.num:Ws).length*4≤140737488355328)(h5:(([]:Ws)++a.den:Ws).length*4≤140737488355328):Cp 52 [a.pv] (.aF [(⟨a.neg,a.num⟩:az).pv,(⟨false,a.den⟩:az).pv]) :=
 eD func52 [1,1,1,1,1,1,1,1,6,3,1,6,3] [.q,.aR [.o,(.pv (vB b)),.o,.o,.o,.o,(iL a.num),.o,(.dec false)],.f,.aG [1,2,3],.any [] [.none,.none,.none,.none,.none,(.fj (a.num:Ws).length 0 ((a.num:Ws).map aj)),.none,.none],.aG [1,2,3],.any [] [.none,.none,.none,.none,(.fj (a.den:Ws).length 0 ((a.den:Ws).map aj)),.none,.none,.none]] (Nv h1 (bw h2) (bw h2) (bw h2) (an aj a.num) (bw h2) (bw h2) (aB h3) (iw bc ([]:Ws) (a.num:Ws) 4 (Eq.refl ([]:Ws).length) h4 rfl) (bU bc (a.num:Ws) (Eq.refl (a.num:Ws).length)) (Sa a) (iw bc ([]:Ws) (a.den:Ws) 4 (Eq.refl ([]:Ws).length) h5 rfl) (bU bc (a.den:Ws) (Eq.refl (a.den:Ws).length)) (Sb a))
end mO
namespace jO
theorem e0(n d:az)(a:Int)(h1:Cp 103 [n.pv] (vI a))(h2:a=0):Cp 55 [n.pv,d.pv] ((⟨false,[],[]⟩:ag).pv) :=
 eD func55 [] [.q,.h 1 (.pv (vI a)),.t,.q] (y2 h1 (aU h2))
theorem e1(n d:az)(a b:Int)(c g i:az)(j:Int)(k l m:az)(o:Option Int)(p s:az)(u:Option Int)(h1:Cp 103 [n.pv] (vI a))(h2:a≠0)(h3:Cp 103 [d.pv] (vI b))(h4:b<0)(h5:Cp 109 [n.pv] c.pv)(h6:Cp 109 [d.pv] g.pv)(h7:Cp 110 [c.pv,g.pv] i.pv)(h8:Cp 103 [c.pv] (vI j))(h9:j<0)(bQ:Cp 109 [c.pv] k.pv)(dU:Cp 111 [k.pv,i.pv] (.aF [l.pv,m.pv,bW o]))(fP:Cp 111 [g.pv,i.pv] (.aF [p.pv,s.pv,bW u])):Cp 55 [n.pv,d.pv] ((⟨(decide (j<0)),l.cJ,p.cJ⟩:ag).pv) :=
 eD func55 [] [.q,.h 1 (.pv (vI a)),.f,.h 1 (.pv (vI b)),.t,dr 4 2 [.none,(.pv c.pv),.none,(.pv g.pv)],.h 2 (.pv i.pv),.h 1 (.pv (vI j)),.q,.t,.h 1 (.pv k.pv),.h 2 (.pv (.aF [l.pv,m.pv,bW o])),.h 2 (.pv (.aF [p.pv,s.pv,bW u])),.q] (IF h1 (bf h2) h3 (bA h4) h5 h6 h7 h8 (bA h9) bQ dU fP)
theorem e2(n d:az)(a b:Int)(c g i:az)(j:Int)(k l:az)(m:Option Int)(o p:az)(s:Option Int)(h1:Cp 103 [n.pv] (vI a))(h2:a≠0)(h3:Cp 103 [d.pv] (vI b))(h4:b<0)(h5:Cp 109 [n.pv] c.pv)(h6:Cp 109 [d.pv] g.pv)(h7:Cp 110 [c.pv,g.pv] i.pv)(h8:Cp 103 [c.pv] (vI j))(h9:0≤j)(bQ:Cp 111 [c.pv,i.pv] (.aF [k.pv,l.pv,bW m]))(dU:Cp 111 [g.pv,i.pv] (.aF [o.pv,p.pv,bW s])):Cp 55 [n.pv,d.pv] ((⟨(decide (j<0)),k.cJ,o.cJ⟩:ag).pv) :=
 eD func55 [] [.q,.h 1 (.pv (vI a)),.f,.h 1 (.pv (vI b)),.t,dr 4 2 [.none,(.pv c.pv),.none,(.pv g.pv)],.h 2 (.pv i.pv),.h 1 (.pv (vI j)),.q,.f,.h 2 (.pv (.aF [k.pv,l.pv,bW m])),.h 2 (.pv (.aF [o.pv,p.pv,bW s])),.q] (EK h1 (bf h2) h3 (bA h4) h5 h6 h7 h8 (bm h9) bQ dU)
theorem e3(n d:az)(a b:Int)(c:az)(g:Int)(i j k:az)(l:Option Int)(m o:az)(p:Option Int)(h1:Cp 103 [n.pv] (vI a))(h2:a≠0)(h3:Cp 103 [d.pv] (vI b))(h4:0≤b)(h5:Cp 110 [n.pv,d.pv] c.pv)(h6:Cp 103 [n.pv] (vI g))(h7:g<0)(h8:Cp 109 [n.pv] i.pv)(h9:Cp 111 [i.pv,c.pv] (.aF [j.pv,k.pv,bW l]))(bQ:Cp 111 [d.pv,c.pv] (.aF [m.pv,o.pv,bW p])):Cp 55 [n.pv,d.pv] ((⟨(decide (g<0)),j.cJ,m.cJ⟩:ag).pv) :=
 eD func55 [] [.q,.h 1 (.pv (vI a)),.f,.h 1 (.pv (vI b)),.f,.h 2 (.pv c.pv),.h 1 (.pv (vI g)),.q,.t,.h 1 (.pv i.pv),.h 2 (.pv (.aF [j.pv,k.pv,bW l])),.h 2 (.pv (.aF [m.pv,o.pv,bW p])),.q] (JT h1 (bf h2) h3 (bm h4) h5 h6 (bA h7) h8 h9 bQ)
theorem e4(n d:az)(a b:Int)(c:az)(g:Int)(i j:az)(k:Option Int)(l m:az)(o:Option Int)(h1:Cp 103 [n.pv] (vI a))(h2:a≠0)(h3:Cp 103 [d.pv] (vI b))(h4:0≤b)(h5:Cp 110 [n.pv,d.pv] c.pv)(h6:Cp 103 [n.pv] (vI g))(h7:0≤g)(h8:Cp 111 [n.pv,c.pv] (.aF [i.pv,j.pv,bW k]))(h9:Cp 111 [d.pv,c.pv] (.aF [l.pv,m.pv,bW o])):Cp 55 [n.pv,d.pv] ((⟨(decide (g<0)),i.cJ,l.cJ⟩:ag).pv) :=
 eD func55 [] [.q,.h 1 (.pv (vI a)),.f,.h 1 (.pv (vI b)),.f,.h 2 (.pv c.pv),.h 1 (.pv (vI g)),.q,.f,.h 2 (.pv (.aF [i.pv,j.pv,bW k])),.h 2 (.pv (.aF [l.pv,m.pv,bW o])),.q] (y9 h1 (bf h2) h3 (bm h4) h5 h6 (bm h7) h8 h9)
end jO
namespace yo
theorem e0(of:az)(h1:Cp 56 [vI 1] of.pv):Cp 57 [] of.pv :=
 eD func57 [] [.q,.h 0 (.pv of.pv)] (y1 h1)
end yo
namespace yp
theorem e0(a b:ag)(c d g i j k l m:az)(n:ag)(h1:Cp 52 [a.pv] (.aF [c.pv,d.pv]))(h2:Cp 52 [b.pv] (.aF [g.pv,i.pv]))(h3:Cp 54 [c.pv,i.pv] j.pv)(h4:Cp 54 [g.pv,d.pv] k.pv)(h5:Cp 74 [j.pv,k.pv] l.pv)(h6:Cp 54 [d.pv,i.pv] m.pv)(h7:Cp 55 [l.pv,m.pv] n.pv):Cp 62 [a.pv,b.pv] n.pv :=
 eD func62 [] [.q,.h 1 (.pv (.aF [c.pv,d.pv])),.h 1 (.pv (.aF [g.pv,i.pv])),dr 11 1 [.none,.none,(.pv j.pv),.none,.none,(.pv k.pv),(.pv l.pv),.none,.none,(.pv m.pv),(.pv n.pv)]] (y7 h1 h2 h3 h4 h5 h6 h7)
end yp
namespace pV
theorem e0(a:ag)(b c:az)(d:Int)(h1:Cp 150 [a.pv] (.aF [b.pv,c.pv]))(h2:Cp 151 [b.pv] (vI d)):Cp 85 [a.pv] (vI d) :=
 eD func85 [] [.q,.h 1 (.pv (.aF [b.pv,c.pv])),.h 1 (.pv (vI d))] (y2 h1 h2)
end pV
namespace q9
theorem e0(a b:ag)(c d g i j k l m:az)(n:ag)(h1:Cp 150 [a.pv] (.aF [c.pv,d.pv]))(h2:Cp 150 [b.pv] (.aF [g.pv,i.pv]))(h3:Cp 153 [c.pv,i.pv] j.pv)(h4:Cp 153 [g.pv,d.pv] k.pv)(h5:Cp 152 [j.pv,k.pv] l.pv)(h6:Cp 153 [d.pv,i.pv] m.pv)(h7:Cp 87 [l.pv,m.pv] n.pv):Cp 86 [a.pv,b.pv] n.pv :=
 eD func86 [] [.q,.h 1 (.pv (.aF [c.pv,d.pv])),.h 1 (.pv (.aF [g.pv,i.pv])),dr 11 1 [.none,.none,(.pv j.pv),.none,.none,(.pv k.pv),(.pv l.pv),.none,.none,(.pv m.pv),(.pv n.pv)]] (y7 h1 h2 h3 h4 h5 h6 h7)
end q9
namespace ju
theorem e0(n d:az)(a:Int)(h1:Cp 151 [n.pv] (vI a))(h2:a=0):Cp 87 [n.pv,d.pv] ((⟨false,[],[]⟩:ag).pv) :=
 eD func87 [] [.q,.h 1 (.pv (vI a)),.t,.q] (y2 h1 (aU h2))
theorem e1(n d:az)(a b:Int)(c g i j k:az)(l:Int)(m o:az)(p:Int)(h1:Cp 151 [n.pv] (vI a))(h2:a≠0)(h3:Cp 151 [d.pv] (vI b))(h4:b<0)(h5:Cp 154 [n.pv] c.pv)(h6:Cp 154 [d.pv] g.pv)(h7:Cp 101 [c.pv,g.pv] i.pv)(h8:Cp 155 [c.pv,i.pv] (.aF [j.pv,k.pv,vI l]))(h9:Cp 155 [g.pv,i.pv] (.aF [m.pv,o.pv,vI p])):Cp 87 [n.pv,d.pv] ((⟨j.neg,j.cJ,m.cJ⟩:ag).pv) :=
 eD func87 [] [.q,.h 1 (.pv (vI a)),.f,.h 1 (.pv (vI b)),.t,dr 4 2 [.none,(.pv c.pv),.none,(.pv g.pv)],.h 2 (.pv i.pv),.h 2 (.pv (.aF [j.pv,k.pv,vI l])),.h 2 (.pv (.aF [m.pv,o.pv,vI p])),.q] (y9 h1 (bf h2) h3 (bA h4) h5 h6 h7 h8 h9)
theorem e2(n d:az)(a b:Int)(c g i:az)(j:Int)(k l:az)(m:Int)(h1:Cp 151 [n.pv] (vI a))(h2:a≠0)(h3:Cp 151 [d.pv] (vI b))(h4:0≤b)(h5:Cp 101 [n.pv,d.pv] c.pv)(h6:Cp 155 [n.pv,c.pv] (.aF [g.pv,i.pv,vI j]))(h7:Cp 155 [d.pv,c.pv] (.aF [k.pv,l.pv,vI m])):Cp 87 [n.pv,d.pv] ((⟨g.neg,g.cJ,k.cJ⟩:ag).pv) :=
 eD func87 [] [.q,.h 1 (.pv (vI a)),.f,.h 1 (.pv (vI b)),.f,.h 2 (.pv c.pv),.h 2 (.pv (.aF [g.pv,i.pv,vI j])),.h 2 (.pv (.aF [k.pv,l.pv,vI m])),.q] (y7 h1 (bf h2) h3 (bm h4) h5 h6 h7)
end ju
namespace ra
theorem e0(of:az)(h1:Cp 88 [vI 1] of.pv):Cp 89 [] of.pv :=
 eD func89 [] [.q,.h 0 (.pv of.pv)] (y1 h1)
end ra
namespace rb
theorem e0(a b c d:ag)(h1:Cp 149 [b.pv] c.pv)(h2:Cp 86 [a.pv,c.pv] d.pv):Cp 95 [a.pv,b.pv] d.pv :=
 eD func95 [] [.q,dr 4 1 [.none,.none,(.pv c.pv),(.pv d.pv)]] (y2 h1 h2)
end rb
namespace pX
theorem e0(a b:ag)(c:Bool)(h1:Cp 96 [a.pv,b.pv] (vB c)):Cp 97 [a.pv,b.pv] (vB c) :=
 eD func97 [] [.q,.h 2 (.pv (vB c))] (y1 h1)
end pX
namespace k9
theorem e0(m:Ws)(k:Nat)(v:UInt32)(h1:0<m.length)(h2:ay ((m.length:Int)-1))(h3:((m.length:Int)-1)=(k:Int))(h4:m[k]? = some v):Cp 99 [af m] (vB ((v.toNat:Int) != 0)) :=
 eD func99 [1,1,1,1,1,1,1,1,3] [.q,.aR [.o,(iL m),.o,.o,.o,.o,(iL m),(iI ((m.length:Int)-1)),(.row k (aj v)),.o,.o,(.dec true)]] (IF (an aj m) (ai h1) (ai h1) (ai h1) (an aj m) (ai h1) (aQ h2) (ai h1) (ba aj h3 h4) (ai h1) (ai h1) (ai h1))
theorem e1(m:Ws)(h1:m.length≤0):Cp 99 [af m] (vB false) :=
 eD func99 [] [.q,.aR [.o,(iL m),.o,.o,.skip,.skip,.skip,.skip,.skip,.skip,.skip,(.dec false)]] (y9 (an aj m) (ar h1) (ar h1) (ar h1) (ar h1) (ar h1) (ar h1) (ar h1) (ar h1))
end k9
namespace gD
theorem e0(a:ag)(h1:a.num.length=0)(h2:a.den.length=0):Cp 102 [a.pv] (vB (!a.neg)) :=
 eD func102 [] [.q,.aR [.o,.o,(iL a.num),.o,.o,.o,.o,(iL a.den),.o,(.dec true)],.t,.q] (y8 (an aj a.num) (aM h1) (aM h1) (aM h1) (an aj a.den) (aM h1) (aM h1) (aM h2))
theorem e1(a:ag)(h1:a.num.length=0)(h2:a.den.length≠0):Cp 102 [a.pv] (vB false) :=
 eD func102 [] [.q,.aR [.o,.o,(iL a.num),.o,.o,.o,.o,(iL a.den),.o,(.dec true)],.f,dr 9 1 [],.aR [.o,.o,(iL a.num),.o,.o,.skip,.skip,.skip,.skip,(.dec true),.o,.skip,.skip,.skip,.o,.o,.skip,.skip,.skip],.a,.q] (Pu (an aj a.num) (aM h1) (aM h1) (aM h1) (an aj a.den) (aM h1) (aM h1) (aB h2) (an aj a.num) (aM h1) (aM h1) (aM h1) (aM h1) (aM h1) rT rT rT rT rT rT)
theorem e2(a:ag)(h1:a.num.length≠0)(h2:a.den.length=0):Cp 102 [a.pv] (vB false) :=
 eD func102 [] [.q,.aR [.o,.o,(iL a.num),.o,.o,.skip,.skip,.skip,.skip,(.dec false)],.a,dr 9 1 [],.aR [.o,.o,(iL a.num),.o,.o,.o,.o,(iL a.den),.o,(.dec false),.o,.skip,.skip,.skip,(.dec true),.o,.skip,.skip,.skip],.a,.q] (Pu (an aj a.num) (aB h1) (aB h1) (aB h1) (aB h1) (aB h1) (an aj a.num) (aB h1) (aB h1) (aB h1) (an aj a.den) (aB h1) (aB h1) (aM h2) (aM h2) (aM h2) (aM h2) rT rT rT)
theorem e3(a:ag)(b:Bool)(h1:a.num.length≠0)(h2:a.den.length≠0)(h3:Cp 171 [(⟨false,a.num⟩:az).pv] (vB b))(h4:b=false):Cp 102 [a.pv] (vB false) :=
 eD func102 [] [.q,.aR [.o,.o,(iL a.num),.o,.o,.skip,.skip,.skip,.skip,(.dec false)],.a,dr 9 1 [],.aR [.o,.o,(iL a.num),.o,.o,.o,.o,(iL a.den),.o,(.dec false),.o,.o,(.pv (vB b)),.o,(.dec false),.o,.skip,.skip,.skip,(.dec true)],.a,.q] (y22 (an aj a.num) (aB h1) (aB h1) (aB h1) (aB h1) (aB h1) (an aj a.num) (aB h1) (aB h1) (aB h1) (an aj a.den) (aB h1) (aB h1) (aB h2) (aB h2) h3 (aB h2) (aB h2) (dm h4) (dm h4) (dm h4) (dm h4))
theorem e4(a:ag)(b c:Bool)(h1:a.num.length≠0)(h2:a.den.length≠0)(h3:Cp 171 [(⟨false,a.num⟩:az).pv] (vB b))(h4:b=true)(h5:Cp 171 [(⟨false,a.den⟩:az).pv] (vB c))(h6:c=false):Cp 102 [a.pv] (vB false) :=
 eD func102 [] [.q,.aR [.o,.o,(iL a.num),.o,.o,.skip,.skip,.skip,.skip,(.dec false)],.a,dr 9 1 [],.aR [.o,.o,(iL a.num),.o,.o,.o,.o,(iL a.den),.o,(.dec false),.o,.o,(.pv (vB b)),.o,(.dec false),.o,.o,(.pv (vB c)),.o,(.dec false)],.t,.q] (Xx (an aj a.num) (aB h1) (aB h1) (aB h1) (aB h1) (aB h1) (an aj a.num) (aB h1) (aB h1) (aB h1) (an aj a.den) (aB h1) (aB h1) (aB h2) (aB h2) h3 (aB h2) (aB h2) (bw h4) (bw h4) h5 (bw h4) (bw h4) (dm h6))
theorem e5(a:ag)(b c:Bool)(d g:az)(i:Int)(h1:a.num.length≠0)(h2:a.den.length≠0)(h3:Cp 171 [(⟨false,a.num⟩:az).pv] (vB b))(h4:b=true)(h5:Cp 171 [(⟨false,a.den⟩:az).pv] (vB c))(h6:c=true)(h7:Cp 110 [(⟨false,a.num⟩:az).pv,(⟨false,a.den⟩:az).pv] d.pv)(h8:Cp 57 [] g.pv)(h9:Cp 53 [d.pv,g.pv] (vI i)):Cp 102 [a.pv] (vB (i==0)) :=
 eD func102 [] [.q,.aR [.o,.o,(iL a.num),.o,.o,.skip,.skip,.skip,.skip,(.dec false)],.a,dr 9 1 [],.aR [.o,.o,(iL a.num),.o,.o,.o,.o,(iL a.den),.o,(.dec false),.o,.o,(.pv (vB b)),.o,(.dec false),.o,.o,(.pv (vB c)),.o,(.dec false)],.f,.aR [.o,.o,(.pv d.pv),(.pv g.pv),(.pv (vI i))]] (y27 (an aj a.num) (aB h1) (aB h1) (aB h1) (aB h1) (aB h1) (an aj a.num) (aB h1) (aB h1) (aB h1) (an aj a.den) (aB h1) (aB h1) (aB h2) (aB h2) h3 (aB h2) (aB h2) (bw h4) (bw h4) h5 (bw h4) (bw h4) (bw h6) h7 h8 h9)
end gD
namespace yr
theorem e0(a b:ag)(c d g i j k:az)(l:ag)(h1:Cp 52 [a.pv] (.aF [c.pv,d.pv]))(h2:Cp 52 [b.pv] (.aF [g.pv,i.pv]))(h3:Cp 54 [c.pv,g.pv] j.pv)(h4:Cp 54 [d.pv,i.pv] k.pv)(h5:Cp 55 [j.pv,k.pv] l.pv):Cp 117 [a.pv,b.pv] l.pv :=
 eD func117 [] [.q,.h 1 (.pv (.aF [c.pv,d.pv])),.h 1 (.pv (.aF [g.pv,i.pv])),dr 7 1 [.none,.none,(.pv j.pv),.none,.none,(.pv k.pv),(.pv l.pv)]] (y5 h1 h2 h3 h4 h5)
end yr
namespace wB
theorem e0(a:ag)(b c:az)(d:Int)(h1:Cp 52 [a.pv] (.aF [b.pv,c.pv]))(h2:Cp 103 [b.pv] (vI d)):Cp 119 [a.pv] (vI d) :=
 eD func119 [] [.q,.h 1 (.pv (.aF [b.pv,c.pv])),.h 1 (.pv (vI d))] (y2 h1 h2)
end wB
namespace yu
theorem e0(a:ag)(b c d:az)(g:ag)(h1:Cp 52 [a.pv] (.aF [b.pv,c.pv]))(h2:Cp 109 [b.pv] d.pv)(h3:Cp 55 [d.pv,c.pv] g.pv):Cp 128 [a.pv] g.pv :=
 eD func128 [] [.q,.h 1 (.pv (.aF [b.pv,c.pv])),dr 4 1 [.none,(.pv d.pv),.none,(.pv g.pv)]] (y3 h1 h2 h3)
end yu
namespace wC
theorem e1(n d:az)(a:Int)(b:ag)(h1:Cp 103 [d.pv] (vI a))(h2:a≠0)(h3:Cp 55 [n.pv,d.pv] b.pv):Cp 138 [n.pv,d.pv] (.aF [b.pv,.aC]) :=
 eD func138 [] [.q,.h 1 (.pv (vI a)),.f,.h 2 (.pv b.pv)] (y3 h1 (bf h2) h3)
end wC
namespace re
theorem e0(a:ag)(b c d:az)(g:ag)(h1:Cp 150 [a.pv] (.aF [b.pv,c.pv]))(h2:Cp 154 [b.pv] d.pv)(h3:Cp 87 [d.pv,c.pv] g.pv):Cp 149 [a.pv] g.pv :=
 eD func149 [] [.q,.h 1 (.pv (.aF [b.pv,c.pv])),dr 4 1 [.none,(.pv d.pv),.none,(.pv g.pv)]] (y3 h1 h2 h3)
end re
namespace iD
theorem e0(a:ag)(b:Bool)(c:az)(h1:Cp 50 [a.pv] (vB b))(h2:b=false)(h3:Cp 89 [] c.pv):Cp 150 [a.pv] (.aF [(⟨false,[]⟩:az).pv,c.pv]) :=
 eD func150 [] [.q,.aR [.o,(.pv (vB b)),.o,.o,.skip,.skip,.skip,.skip,(.dec true)],.a,.h 1 (.pv c.pv)] (y7 h1 (dm h2) (dm h2) (dm h2) (dm h2) (dm h2) h3)
theorem e1(a:ag)(b:Bool)(c:az)(h1:Cp 50 [a.pv] (vB b))(h2:b=true)(h3:a.num.length=0)(h4:Cp 89 [] c.pv):Cp 150 [a.pv] (.aF [(⟨false,[]⟩:az).pv,c.pv]) :=
 eD func150 [] [.q,.aR [.o,(.pv (vB b)),.o,.o,.o,.o,(iL a.num),.o,(.dec false)],.t,.h 1 (.pv c.pv)] (y9 h1 (bw h2) (bw h2) (bw h2) (an aj a.num) (bw h2) (bw h2) (aM h3) h4)
theorem e2(a:ag)(b:Bool)(h1:Cp 50 [a.pv] (vB b))(h2:b=true)(h3:a.num.length≠0):Cp 150 [a.pv] (.aF [(⟨a.neg,a.num⟩:az).pv,(⟨false,a.den⟩:az).pv]) :=
 eD func150 [] [.q,.aR [.o,(.pv (vB b)),.o,.o,.o,.o,(iL a.num),.o,(.dec false)],.f,dr 9 1 []] (y8 h1 (bw h2) (bw h2) (bw h2) (an aj a.num) (bw h2) (bw h2) (aB h3))
end iD
namespace rf
theorem e0(a b:ag)(c d g i j k:az)(l:ag)(h1:Cp 150 [a.pv] (.aF [c.pv,d.pv]))(h2:Cp 150 [b.pv] (.aF [g.pv,i.pv]))(h3:Cp 153 [c.pv,g.pv] j.pv)(h4:Cp 153 [d.pv,i.pv] k.pv)(h5:Cp 87 [j.pv,k.pv] l.pv):Cp 157 [a.pv,b.pv] l.pv :=
 eD func157 [] [.q,.h 1 (.pv (.aF [c.pv,d.pv])),.h 1 (.pv (.aF [g.pv,i.pv])),dr 7 1 [.none,.none,(.pv j.pv),.none,.none,(.pv k.pv),(.pv l.pv)]] (y5 h1 h2 h3 h4 h5)
end rf
namespace yv
theorem e0(a b:ag)(c d g i j k:az)(l:ag)(m:Option Int)(h1:Cp 52 [a.pv] (.aF [c.pv,d.pv]))(h2:Cp 52 [b.pv] (.aF [g.pv,i.pv]))(h3:Cp 54 [c.pv,i.pv] j.pv)(h4:Cp 54 [d.pv,g.pv] k.pv)(h5:Cp 138 [j.pv,k.pv] (.aF [l.pv,bW m])):Cp 180 [a.pv,b.pv] (.aF [l.pv,bW m]) :=
 eD func180 [] [.q,.h 1 (.pv (.aF [c.pv,d.pv])),.h 1 (.pv (.aF [g.pv,i.pv])),dr 9 2 [.none,.none,(.pv j.pv),.none,.none,(.pv k.pv),(.pv (.aF [l.pv,bW m]))]] (y5 h1 h2 h3 h4 h5)
end yv
namespace tg
theorem e0(a:ag)(b:Int)(c:ag)(h1:Cp 119 [a.pv] (vI b))(h2:b<0)(h3:Cp 128 [a.pv] c.pv):Cp 181 [a.pv] c.pv :=
 eD func181 [] [.q,.h 1 (.pv (vI b)),.t,.h 1 (.pv c.pv)] (y3 h1 (bA h2) h3)
theorem e1(a:ag)(b:Int)(c d:az)(g:ag)(h1:Cp 119 [a.pv] (vI b))(h2:0≤b)(h3:Cp 52 [a.pv] (.aF [c.pv,d.pv]))(h4:Cp 55 [c.pv,d.pv] g.pv):Cp 181 [a.pv] g.pv :=
 eD func181 [] [.q,.h 1 (.pv (vI b)),.f,.aR [.o,(.pv (.aF [c.pv,d.pv])),.o,.o,(.pv g.pv)]] (y4 h1 (bm h2) h3 h4)
end tg
namespace yw
theorem e0(a b c d:ag)(h1:Cp 128 [b.pv] c.pv)(h2:Cp 62 [a.pv,c.pv] d.pv):Cp 186 [a.pv,b.pv] d.pv :=
 eD func186 [] [.q,dr 4 1 [.none,.none,(.pv c.pv),(.pv d.pv)]] (y2 h1 h2)
end yw
namespace uH
theorem e0(a:ag)(b c d g:az)(i:Option Int)(h1:Cp 52 [a.pv] (.aF [b.pv,c.pv]))(h2:Cp 111 [b.pv,c.pv] (.aF [d.pv,g.pv,bW i])):Cp 188 [a.pv] d.pv :=
 eD func188 [] [.q,.h 1 (.pv (.aF [b.pv,c.pv])),.h 2 (.pv (.aF [d.pv,g.pv,bW i])),.q] (y2 h1 h2)
end uH
namespace rh
theorem e0(a b:ag)(c d g i j k:az)(l:ag)(m:Int)(h1:Cp 150 [a.pv] (.aF [c.pv,d.pv]))(h2:Cp 150 [b.pv] (.aF [g.pv,i.pv]))(h3:Cp 153 [c.pv,i.pv] j.pv)(h4:Cp 153 [d.pv,g.pv] k.pv)(h5:Cp 234 [j.pv,k.pv] (.aF [l.pv,vI m])):Cp 205 [a.pv,b.pv] (.aF [l.pv,vI m]) :=
 eD func205 [] [.q,.h 1 (.pv (.aF [c.pv,d.pv])),.h 1 (.pv (.aF [g.pv,i.pv])),dr 9 2 [.none,.none,(.pv j.pv),.none,.none,(.pv k.pv),(.pv (.aF [l.pv,vI m]))]] (y5 h1 h2 h3 h4 h5)
end rh
namespace mP
theorem e0(a:ag)(b:Int)(c:ag)(h1:Cp 85 [a.pv] (vI b))(h2:b<0)(h3:Cp 149 [a.pv] c.pv):Cp 206 [a.pv] c.pv :=
 eD func206 [] [.q,.h 1 (.pv (vI b)),.t,.h 1 (.pv c.pv)] (y3 h1 (bA h2) h3)
theorem e1(a:ag)(b:Int)(c:ag)(h1:Cp 85 [a.pv] (vI b))(h2:0≤b)(h3:Cp 86 [a.pv,(⟨false,[],[]⟩:ag).pv] c.pv):Cp 206 [a.pv] c.pv :=
 eD func206 [] [.q,.h 1 (.pv (vI b)),.f,.h 2 (.pv c.pv)] (y3 h1 (bm h2) h3)
end mP
namespace wD
theorem e0(n d:Int)(of a:az)(b:ag)(c:Option Int)(h1:Cp 56 [vI n] of.pv)(h2:Cp 56 [vI d] a.pv)(h3:Cp 138 [of.pv,a.pv] (.aF [b.pv,bW c])):Cp 224 [vI n,vI d] (.aF [b.pv,bW c]) :=
 eD func224 [] [.q,.aR [.o,(.pv of.pv),.o,(.pv a.pv),(.pv (.aF [b.pv,bW c]))]] (y3 h1 h2 h3)
end wD
namespace pY
theorem e1(n d:az)(a:Int)(b:ag)(h1:Cp 151 [d.pv] (vI a))(h2:a≠0)(h3:Cp 87 [n.pv,d.pv] b.pv):Cp 234 [n.pv,d.pv] (.aF [b.pv,vI 0]) :=
 eD func234 [] [.q,.h 1 (.pv (vI a)),.f,.h 2 (.pv b.pv)] (y3 h1 (bf h2) h3)
end pY
namespace pZ
theorem e0(n d:Int)(of a:az)(b:ag)(c:Int)(h1:Cp 88 [vI n] of.pv)(h2:Cp 88 [vI d] a.pv)(h3:Cp 234 [of.pv,a.pv] (.aF [b.pv,vI c])):Cp 236 [vI n,vI d] (.aF [b.pv,vI c]) :=
 eD func236 [] [.q,.aR [.o,(.pv of.pv),.o,(.pv a.pv),(.pv (.aF [b.pv,vI c]))]] (y3 h1 h2 h3)
end pZ
end Go.Proofs.YtcpnocgollpbhaaGreatDoor.Sym.Path
end
