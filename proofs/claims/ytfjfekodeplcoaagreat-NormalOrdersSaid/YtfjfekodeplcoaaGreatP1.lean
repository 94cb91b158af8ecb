/- Lemmas for the statements of this seat. -/
import Derived.Test.YtfjfekodeplcoaaGreatT0
noncomputable section
namespace Go.Proofs.YtfjfekodeplcoaaGreat.Sym.Path
open Go Tryz
set_option maxRecDepth 20000
set_option linter.unusedVariables false
namespace oQ
theorem e0(a b c:aB)(d:Int)(h1:Cp 88 [a.pv,b.pv] c.pv)(h2:Cp 48 [c.pv] (vI d)):Cp 44 [a.pv,b.pv] (vI d) :=
 eD func44 72 [1,1] [.q,.aQ [.o,.o,(.pv c.pv),(.pv (vI d))]] (y2 h1 h2)
end oQ
namespace oR
theorem e0(a b:aB)(c d g:Ws)(i:aB)(h1:Cp 91 [a.pv] (ae c))(h2:Cp 91 [b.pv] (ae d))(h3:Cp 90 [ae c,ae d] (ae g))(h4:Cp 89 [vB false,ae g] i.pv):Cp 45 [a.pv,b.pv] i.pv :=
 eD func45 72 [1,1,1,1] [.q,dr 6 1 [.none,(.pv (ae c)),.none,(.pv (ae d)),(.pv (ae g)),(.pv i.pv)]] (y4 h1 h2 h3 h4)
end oR
namespace ia
theorem e0(a:aB)(b:Ws)(h1:Cp 91 [a.pv] (ae b))(h2:b.length=0):Cp 48 [a.pv] (vI 0) :=
 eD func48 84 [1,1,1] [.q,.aQ [.o,(.pv (ae b)),(iI (b.length:Int))],.t,.q] (y3 h1 (av ai b) (bd h2))
theorem e1(a:aB)(b:Ws)(c:Bool)(h1:Cp 91 [a.pv] (ae b))(h2:b.length≠0)(h3:Cp 92 [a.pv] (vB c))(h4:c=true):Cp 48 [a.pv] (vI (-1)) :=
 eD func48 99 [1,1,1,1,1] [.q,.aQ [.o,(.pv (ae b)),(iI (b.length:Int))],.f,.h 1 (.pv (vB c)),.t,.q] (y5 h1 (av ai b) (aR h2) h3 h4)
theorem e2(a:aB)(b:Ws)(c:Bool)(h1:Cp 91 [a.pv] (ae b))(h2:b.length≠0)(h3:Cp 92 [a.pv] (vB c))(h4:c=false):Cp 48 [a.pv] (vI 1) :=
 eD func48 102 [1,1,1,1,1] [.q,.aQ [.o,(.pv (ae b)),(iI (b.length:Int))],.f,.h 1 (.pv (vB c)),.f,.q] (y5 h1 (av ai b) (aR h2) h3 h4)
end ia
namespace ma
theorem e0(n:Int)(m m1:Nat)(w:UInt32)(z:Nat)(w1:UInt32)(a:aB)(h1:n%18446744073709551616=(m:Int))(h2:n<0)(h3:(0-(m:Int))%18446744073709551616=(m1:Int))(h4:m1%4294967296=w.toNat)(h5:m1/2^(min 32 64)=z)(h6:z%4294967296=w1.toNat)(h7:Cp 89 [(vB (decide (n<0))),(ae [w,w1])] a.pv):Cp 74 [vI n] a.pv :=
 eD func74 93 [1,1,1,1,1,1,3,1] [.q,.h 1 (iU m),.q,.t,.h 1 (iU m1),.aQ [.o,.o,.o,iW w,.o,iU z,iW w1,(.q8 0 0 (([w,w1]:Ws).map ai)),(.pv a.pv)]] (y8 (A5 h1) (bf h2) (yk h3) (cu h4) (cG (k := .u64) h5) (cu h6) (zJ bc ([w,w1]:Ws)) h7)
theorem e1(n:Int)(m:Nat)(w:UInt32)(z:Nat)(w1:UInt32)(a:aB)(h1:n%18446744073709551616=(m:Int))(h2:0≤n)(h3:m%4294967296=w.toNat)(h4:m/2^(min 32 64)=z)(h5:z%4294967296=w1.toNat)(h6:Cp 89 [(vB (decide (n<0))),(ae [w,w1])] a.pv):Cp 74 [vI n] a.pv :=
 eD func74 93 [1,1,1,1,1,3,1] [.q,.h 1 (iU m),.q,.f,.aQ [.o,.o,.o,iW w,.o,iU z,iW w1,(.q8 0 0 (([w,w1]:Ws).map ai)),(.pv a.pv)]] (y7 (A5 h1) (bp h2) (cu h3) (cG (k := .u64) h4) (cu h5) (zJ bc ([w,w1]:Ws)) h6)
end ma
namespace oS
theorem e0(a b c d:aB)(h1:Cp 115 [b.pv] c.pv)(h2:Cp 126 [a.pv,c.pv] d.pv):Cp 88 [a.pv,b.pv] d.pv :=
 eD func88 72 [1,1] [.q,dr 4 1 [.none,.none,(.pv c.pv),(.pv d.pv)]] (y2 h1 h2)
end oS
namespace kj
theorem e0(a:Bool)(m b:Ws)(h1:Cp 127 [ae m] (ae b))(h2:b.length=0):Cp 89 [vB a,ae m] ((⟨false,[]⟩:aB).pv) :=
 eD func89 90 [1,1,1] [.q,.h 1 (.pv (ae b)),.h 1 (iI (b.length:Int)),.t,.q] (y3 h1 (av ai b) (bd h2))
theorem e1(a:Bool)(m b:Ws)(h1:Cp 127 [ae m] (ae b))(h2:b.length≠0):Cp 89 [vB a,ae m] ((⟨a,b⟩:aB).pv) :=
 eD func89 93 [1,1,1] [.q,.h 1 (.pv (ae b)),.h 1 (iI (b.length:Int)),.f,.q] (y3 h1 (av ai b) (aR h2))
end kj
namespace a8
@[reducible] def fn:Func:=Tryz.f90
def br:List dI:=focus [0,2,0,2,0,0,2,1,2,0,0,2,1,2,0,2,0,0,0] [.code (aA fn)]
def inv1(oc od kl:Nat)(km gZ:List UInt32):St:=⟨[(0,(.row 7 0 oc 1)),(1,(.row 9 0 od 1)),(5,(eI (kl:Int)))],[(7,(.pure ((km:List UInt32).map ai).flatten)),(9,(.pure ((gZ:List UInt32).map ai).flatten))]⟩
@[reducible] def ar(oc od kl:Nat)(km gZ:List UInt32)(r:PV):Prop:=L a7 fn br (inv1 oc od kl km gZ) r
def fP:List dI:=focus [0,2,0,2,0,0,2,1,2,0,0,2,1,2,0,2,0,0,0,0,0,0,2,1,2,2,2,2,0,0,0] [.code (aA fn)]
def inv2(oc od kl:Nat)(km gZ:List UInt32):St:=⟨[(0,(.row 7 0 oc 1)),(1,(.row 9 0 od 1)),(5,(eI (kl:Int)))],[(7,(.pure ((km:List UInt32).map ai).flatten)),(9,(.pure ((gZ:List UInt32).map ai).flatten))]⟩
@[reducible] def aJ(oc od kl:Nat)(km gZ:List UInt32)(r:PV):Prop:=L a7 fn fP (inv2 oc od kl km gZ) r
def vw:List dI:=focus [0,2,0,2,0,0,2,1,2,0,0,2,1,2,0,2,0,0,0,0,0,0,2,1,2,2,2,2,0,0,0,0,0,0,2,0,2,0,0,0,0] [.code (aA fn)]
def vx(oc od kl:Nat)(km gZ:List UInt32):St:=⟨[(0,(.row 7 0 oc 1)),(1,(.row 9 0 od 1)),(5,(eI (kl:Int)))],[(7,(.pure ((km:List UInt32).map ai).flatten)),(9,(.pure ((gZ:List UInt32).map ai).flatten))]⟩
@[reducible] def cL(oc od kl:Nat)(km gZ:List UInt32)(r:PV):Prop:=L a7 fn vw (vx oc od kl km gZ) r
def Bf:List dI:=focus [0,2,0,2,0,0,2,1,2,0,0,2,1,2,0,2,0,0,0,0,0,0,2,1,2,2,2,2,0,0,0,0,0,0,2,1,2,2,2,2,0,0,2,0,0] [.code (aA fn)]
def Bg(Lb:List UInt32)(Mn Mo:Nat):St:=⟨[(1,(.pv (ae Lb))),(64,(eI (Mn:Int))),(65,(eI (Mo:Int)))],[]⟩
@[reducible] def fE(Lb:List UInt32)(Mn Mo:Nat)(r:PV):Prop:=L a7 fn Bf (Bg Lb Mn Mo) r
def H0:List dI:=focus [0,2,0,2,0,0,2,1,2,0,0,2,1,2,0,2,0,0,0,0,0,0,2,1,2,2,2,2,0,0,0,0,0,0,2,0,2,0,0,0,0,0,0,0,2,1,2,2,2,2,0,0,0] [.code (aA fn)]
def H2(oc od kl:Nat)(km gZ:List UInt32):St:=⟨[(0,(.row 7 0 oc 1)),(1,(.row 9 0 od 1)),(5,(eI (kl:Int)))],[(7,(.pure ((km:List UInt32).map ai).flatten)),(9,(.pure ((gZ:List UInt32).map ai).flatten))]⟩
@[reducible] def ja(oc od kl:Nat)(km gZ:List UInt32)(r:PV):Prop:=L a7 fn H0 (H2 oc od kl km gZ) r
theorem e0(a b z:Ws)(n:Nat)(z1:Ws)(n1:Nat)(h1:aw a7 127 [.pv (ae a)] [] (.row 0 0 n 1) [(0,(.pure ((z:Ws).map ai).flatten))])(h2:aw a7 127 [.pv (ae b)] [] (.row 0 0 n1 1) [(0,(.pure ((z1:Ws).map ai).flatten))])(h3:n=0)(h4:n1=z1.length):Cp 90 [ae a,ae b] (ae z1) :=
 eD func90 90 [1,1,1,3] [.q,.aQ [.o,(.bz [] (some (0,7)) (.row 0 0 n 1) [(0,(.pure ((z:Ws).map ai).flatten))]),.o,(.bz [] (some (0,9)) (.row 0 0 n1 1) [(0,(.pure ((z1:Ws).map ai).flatten))])],.q,.t,.q,.jM 4 ((z1:Ws).map ai)] (y4 h1 h2 (bd h3) (cq bc (z1:Ws) h4))
theorem e1(a b z:Ws)(n:Nat)(z1:Ws)(n1:Nat)(h1:aw a7 127 [.pv (ae a)] [] (.row 0 0 n 1) [(0,(.pure ((z:Ws).map ai).flatten))])(h2:aw a7 127 [.pv (ae b)] [] (.row 0 0 n1 1) [(0,(.pure ((z1:Ws).map ai).flatten))])(h3:n≠0)(h4:n1=0)(h5:n=z.length):Cp 90 [ae a,ae b] (ae z) :=
 eD func90 105 [1,1,1,1,3] [.q,.aQ [.o,(.bz [] (some (0,7)) (.row 0 0 n 1) [(0,(.pure ((z:Ws).map ai).flatten))]),.o,(.bz [] (some (0,9)) (.row 0 0 n1 1) [(0,(.pure ((z1:Ws).map ai).flatten))])],.q,.f,.q,.t,.q,.jM 4 ((z:Ws).map ai)] (y5 h1 h2 (aR h3) (bd h4) (cq bc (z:Ws) h5))
theorem e2(a b z:Ws)(n:Nat)(z1:Ws)(n1:Nat){r:PV}(h1:aw a7 127 [.pv (ae a)] [] (.row 0 0 n 1) [(0,(.pure ((z:Ws).map ai).flatten))])(h2:aw a7 127 [.pv (ae b)] [] (.row 0 0 n1 1) [(0,(.pure ((z1:Ws).map ai).flatten))])(h3:n≠0)(h4:n1≠0)(hL:ar n n1 0 z z1 r):Cp 90 [ae a,ae b] r :=
 eG func90 117 [1,1,1,1] [.q,.aQ [.o,(.bz [] (some (0,7)) (.row 0 0 n 1) [(0,(.pure ((z:Ws).map ai).flatten))]),.o,(.bz [] (some (0,9)) (.row 0 0 n1 1) [(0,(.pure ((z1:Ws).map ai).flatten))])],.q,.f,.q,.f,.q,.aH [0,1,5],.ord [7,9]] (y4 h1 h2 (aR h3) (aR h4)) hL
theorem dC(b c d:Nat)(g i:Ws)(v z v1 z1:UInt32)(z2:Ws)(n:Nat)(z3:Ws)(n1:Nat){r:PV}(h1:0<b)(h2:g[0]? = some v)(h3:(v.toNat%4294967296) &&& (1%4294967296)=z.toNat)(h4:z.toNat=0)(h5:0<c)(h6:i[0]? = some v1)(h7:(v1.toNat%4294967296) &&& (1%4294967296)=z1.toNat)(h8:z1.toNat=0)(h9:aw a7 128 [.row 100000 0 b 1] [(100000,(.pure ((g:Ws).map ai).flatten))] (.row 100000 0 n 1) [(100000,(.pure ((z2:Ws).map ai).flatten))])(bQ:aw a7 128 [.row 100000 0 c 1] [(100000,(.pure ((i:Ws).map ai).flatten))] (.row 100000 0 n1 1) [(100000,(.pure ((z3:Ws).map ai).flatten))])(cW:(d+1)<9223372036854775808)(hL:ar n n1 (d+1) z2 z3 r):ar b c d g i r :=
 lG 150 [2,1,1,1,1,2,1,1,1,1,1,1,1,1,1,1] [.a,.aQ [.o,(.nat 0),(.ev (.pv (vW v))),iW z,.o,.o,.o,(.nat 0),(.ev (.pv (vW v1))),iW z1,.o,(.dec true)],.t,.aQ [.o,(.bz [(7,100000)] none (.row 100000 0 n 1) [(100000,(.pure ((z2:Ws).map ai).flatten))]),.o,(.bz [(9,100000)] none (.row 100000 0 n1 1) [(100000,(.pure ((z3:Ws).map ai).flatten))])],.h 1 (iI (((d+1):Nat):Int)),.aH [0,1,5]] (Ka (cj (Eq.refl (0:Int)) h1) (dz (enc:=ai) (f:=fun a=>(vW a)) (fun _=>rfl) h2) (fN h3) (bd h4) (bd h4) (cj (Eq.refl (0:Int)) h5) (bd h4) (dz (enc:=ai) (f:=fun a=>(vW a)) (fun _=>rfl) h6) (bd h4) (fN h7) (bd h4) (bd h4) (bd h8) h9 bQ (aI cW)) hL
theorem dD(b c d:Nat)(g i:Ws)(v z v1 z1:UInt32){r:PV}(h1:0<b)(h2:g[0]? = some v)(h3:(v.toNat%4294967296) &&& (1%4294967296)=z.toNat)(h4:z.toNat=0)(h5:0<c)(h6:i[0]? = some v1)(h7:(v1.toNat%4294967296) &&& (1%4294967296)=z1.toNat)(h8:z1.toNat≠0)(hL:aJ b c d g i r):ar b c d g i r :=
 lG 153 [2,1,1,1,1,2,1,1,1,1,1,1,1] [.a,.aQ [.o,(.nat 0),(.ev (.pv (vW v))),iW z,.o,.o,.o,(.nat 0),(.ev (.pv (vW v1))),iW z1,.o,(.dec true)],.f,.aH [0,1,5]] (HU (cj (Eq.refl (0:Int)) h1) (dz (enc:=ai) (f:=fun a=>(vW a)) (fun _=>rfl) h2) (fN h3) (bd h4) (bd h4) (cj (Eq.refl (0:Int)) h5) (bd h4) (dz (enc:=ai) (f:=fun a=>(vW a)) (fun _=>rfl) h6) (bd h4) (fN h7) (bd h4) (bd h4) (aR h8)) hL
theorem kM(b c d:Nat)(g i:Ws)(v z:UInt32){r:PV}(h1:0<b)(h2:g[0]? = some v)(h3:(v.toNat%4294967296) &&& (1%4294967296)=z.toNat)(h4:z.toNat≠0)(hL:aJ b c d g i r):ar b c d g i r :=
 lG 153 [2,1,1,1,1,1,1,1,1] [.a,.aQ [.o,(.nat 0),(.ev (.pv (vW v))),iW z,.o,.o,.skip,.skip,.skip,.skip,.skip,(.dec false)],.a,.aH [0,1,5]] (y9 (cj (Eq.refl (0:Int)) h1) (dz (enc:=ai) (f:=fun a=>(vW a)) (fun _=>rfl) h2) (fN h3) (aR h4) (aR h4) (aR h4) (aR h4) (aR h4) (aR h4)) hL
theorem nK(b c d:Nat)(g i:Ws){r:PV}(h1:0<b)(hL:cL b c d g i r):aJ b c d g i r :=
 lG 183 [1] [.a,.q,.t,.aH [0,1,5]] (y1 (ay h1)) hL
theorem nL(b c d:Nat)(g i:Ws){r:PV}(h1:b≤0)(h2:c=i.length)(hL:fE i d 0 r):aJ b c d g i r :=
 lG 195 [1,3] [.a,.q,.f,.q,.jM 1 ((i:Ws).map ai),.aH [1,64,65],.drop [7]] (y2 (az h1) (cq bc (i:Ws) h2)) hL
theorem H3(b c d:Nat)(g i:Ws)(v z:UInt32)(z1:Ws)(n:Nat){r:PV}(h1:0<b)(h2:g[0]? = some v)(h3:(v.toNat%4294967296) &&& (1%4294967296)=z.toNat)(h4:z.toNat=0)(h5:aw a7 128 [.row 100000 0 b 1] [(100000,(.pure ((g:Ws).map ai).flatten))] (.row 100000 0 n 1) [(100000,(.pure ((z1:Ws).map ai).flatten))])(hL:cL n c d z1 i r):cL b c d g i r :=
 lG 210 [2,1,1,1,1] [.a,.aQ [.o,(.nat 0),(.ev (.pv (vW v))),iW z],.t,.h 1 (.bz [(7,100000)] none (.row 100000 0 n 1) [(100000,(.pure ((z1:Ws).map ai).flatten))]),.aH [0,1,5]] (y5 (cj (Eq.refl (0:Int)) h1) (dz (enc:=ai) (f:=fun a=>(vW a)) (fun _=>rfl) h2) (fN h3) (bd h4) h5) hL
theorem Gb(b c d:Nat)(g i:Ws)(v z:UInt32){r:PV}(h1:0<b)(h2:g[0]? = some v)(h3:(v.toNat%4294967296) &&& (1%4294967296)=z.toNat)(h4:z.toNat≠0)(hL:ja b c d g i r):cL b c d g i r :=
 lG 219 [2,1,1,1] [.a,.aQ [.o,(.nat 0),(.ev (.pv (vW v))),iW z],.f,.aH [0,1,5]] (y4 (cj (Eq.refl (0:Int)) h1) (dz (enc:=ai) (f:=fun a=>(vW a)) (fun _=>rfl) h2) (fN h3) (aR h4)) hL
theorem Kd(b:Ws)(c d:Nat)(g:Ws){r:PV}(h1:d<c)(h2:Cp 132 [ae b,ae b] (ae g))(h3:(d+1)<9223372036854775808)(hL:fE g c (d+1) r):fE b c d r :=
 lG 228 [1,1,1] [.a,.q,.t,.h 2 (.pv (ae g)),.h 0 (iI (((d+1):Nat):Int)),.aH [1,64,65]] (y3 (ay h1) h2 (aI h3)) hL
theorem Ke(b:Ws)(c d:Nat)(h1:c≤d):fE b c d (ae b) :=
 lD 228 [1] [.a,.q,.f,.q] (y1 (az h1))
theorem QY(b c d:Nat)(g i:Ws)(v z:UInt32)(z1:Ws)(n:Nat){r:PV}(h1:0<c)(h2:i[0]? = some v)(h3:(v.toNat%4294967296) &&& (1%4294967296)=z.toNat)(h4:z.toNat=0)(h5:aw a7 128 [.row 100000 0 c 1] [(100000,(.pure ((i:Ws).map ai).flatten))] (.row 100000 0 n 1) [(100000,(.pure ((z1:Ws).map ai).flatten))])(hL:ja b n d g z1 r):ja b c d g i r :=
 lG 246 [2,1,1,1,1] [.a,.aQ [.o,(.nat 0),(.ev (.pv (vW v))),iW z],.t,.h 1 (.bz [(9,100000)] none (.row 100000 0 n 1) [(100000,(.pure ((z1:Ws).map ai).flatten))]),.aH [0,1,5]] (y5 (cj (Eq.refl (0:Int)) h1) (dz (enc:=ai) (f:=fun a=>(vW a)) (fun _=>rfl) h2) (fN h3) (bd h4) h5) hL
theorem QZ(b c d:Nat)(g i:Ws)(v z:UInt32)(z1 z2:Ws)(j:Int)(z3 z4 z5:Ws)(n:Nat){r:PV}(h1:0<c)(h2:i[0]? = some v)(h3:(v.toNat%4294967296) &&& (1%4294967296)=z.toNat)(h4:z.toNat≠0)(h5:aw a7 129 [.row 100000 0 b 1,.row 100001 0 c 1] [(100000,(.pure ((g:Ws).map ai).flatten)),(100001,(.pure ((i:Ws).map ai).flatten))] (.pv (vI j)) [(100000,(.pure ((z1:Ws).map ai).flatten)),(100001,(.pure ((z2:Ws).map ai).flatten))])(h6:j<0)(h7:aw a7 130 [.row 100000 0 c 1,.row 100001 0 b 1] [(100000,(.pure ((z2:Ws).map ai).flatten)),(100001,(.pure ((z1:Ws).map ai).flatten))] (.pv (.bh [])) [(100000,(.pure ((z3:Ws).map ai).flatten)),(100001,(.pure ((z4:Ws).map ai).flatten))])(h8:aw a7 131 [.row 100000 0 c 1] [(100000,(.pure ((z3:Ws).map ai).flatten))] (.row 100000 0 n 1) [(100000,(.pure ((z5:Ws).map ai).flatten))])(hL:aJ n b d z5 z4 r):ja b c d g i r :=
 lG 273 [2,1,1,1,1,1,1,1] [.a,.aQ [.o,(.nat 0),(.ev (.pv (vW v))),iW z],.f,.h 2 (.bz [(7,100000),(9,100001)] none (.pv (vI j)) [(100000,(.pure ((z1:Ws).map ai).flatten)),(100001,(.pure ((z2:Ws).map ai).flatten))]),.t,.q,.h 2 (.bz [(9,100000),(7,100001)] none (.pv (.bh [])) [(100000,(.pure ((z3:Ws).map ai).flatten)),(100001,(.pure ((z4:Ws).map ai).flatten))]),.h 1 (.bz [(9,100000)] none (.row 100000 0 n 1) [(100000,(.pure ((z5:Ws).map ai).flatten))]),.aH [0,1,5],.Cw 9 71,.Cw 7 9,.Cw 71 7,.ord [7,9]] (y8 (cj (Eq.refl (0:Int)) h1) (dz (enc:=ai) (f:=fun a=>(vW a)) (fun _=>rfl) h2) (fN h3) (aR h4) h5 (bf h6) h7 h8) hL
theorem Q0(b c d:Nat)(g i:Ws)(v z:UInt32)(z1 z2:Ws)(j:Int)(z3 z4 z5:Ws)(n:Nat){r:PV}(h1:0<c)(h2:i[0]? = some v)(h3:(v.toNat%4294967296) &&& (1%4294967296)=z.toNat)(h4:z.toNat≠0)(h5:aw a7 129 [.row 100000 0 b 1,.row 100001 0 c 1] [(100000,(.pure ((g:Ws).map ai).flatten)),(100001,(.pure ((i:Ws).map ai).flatten))] (.pv (vI j)) [(100000,(.pure ((z1:Ws).map ai).flatten)),(100001,(.pure ((z2:Ws).map ai).flatten))])(h6:0≤j)(h7:aw a7 130 [.row 100000 0 b 1,.row 100001 0 c 1] [(100000,(.pure ((z1:Ws).map ai).flatten)),(100001,(.pure ((z2:Ws).map ai).flatten))] (.pv (.bh [])) [(100000,(.pure ((z3:Ws).map ai).flatten)),(100001,(.pure ((z4:Ws).map ai).flatten))])(h8:aw a7 131 [.row 100000 0 b 1] [(100000,(.pure ((z3:Ws).map ai).flatten))] (.row 100000 0 n 1) [(100000,(.pure ((z5:Ws).map ai).flatten))])(hL:aJ n c d z5 z4 r):ja b c d g i r :=
 lG 273 [2,1,1,1,1,1,1,1] [.a,.aQ [.o,(.nat 0),(.ev (.pv (vW v))),iW z],.f,.h 2 (.bz [(7,100000),(9,100001)] none (.pv (vI j)) [(100000,(.pure ((z1:Ws).map ai).flatten)),(100001,(.pure ((z2:Ws).map ai).flatten))]),.f,.h 2 (.bz [(7,100000),(9,100001)] none (.pv (.bh [])) [(100000,(.pure ((z3:Ws).map ai).flatten)),(100001,(.pure ((z4:Ws).map ai).flatten))]),.h 1 (.bz [(7,100000)] none (.row 100000 0 n 1) [(100000,(.pure ((z5:Ws).map ai).flatten))]),.aH [0,1,5]] (y8 (cj (Eq.refl (0:Int)) h1) (dz (enc:=ai) (f:=fun a=>(vW a)) (fun _=>rfl) h2) (fN h3) (aR h4) h5 (bp h6) h7 h8) hL
end a8
namespace lu
theorem e0(a:aB)(b:Bool)(h1:Cp 133 [a.pv] (vB b))(h2:b=false):Cp 91 [a.pv] (ae []) :=
 eD func91 84 [1,1] [.q,.h 1 (.pv (vB b)),.t,.q] (y2 h1 (aD h2))
theorem e1(a:aB)(b:Bool)(h1:Cp 133 [a.pv] (vB b))(h2:b=true):Cp 91 [a.pv] (ae a.cM) :=
 eD func91 87 [1,1] [.q,.h 1 (.pv (vB b)),.f,.q] (y2 h1 (ah h2))
end lu
namespace lv
theorem e0(a:aB)(b:Bool)(h1:Cp 133 [a.pv] (vB b))(h2:b=true):Cp 92 [a.pv] (vB a.neg) :=
 eD func92 72 [1,1,1,1] [.q,.aQ [.o,(.pv (vB b)),.o,.o,.o,(.dec true)]] (y4 h1 h2 h2 h2)
theorem e1(a:aB)(b:Bool)(h1:Cp 133 [a.pv] (vB b))(h2:b=false):Cp 92 [a.pv] (vB false) :=
 eD func92 72 [1,1,1,1] [.q,.aQ [.o,(.pv (vB b)),.o,.skip,.skip,(.dec false)]] (y4 h1 h2 h2 h2)
end lv
namespace oT
theorem e0(a b:aB)(c d:Bool)(g i j:Ws)(k:aB)(h1:Cp 92 [a.pv] (vB c))(h2:Cp 92 [b.pv] (vB d))(h3:Cp 91 [a.pv] (ae g))(h4:Cp 91 [b.pv] (ae i))(h5:Cp 134 [ae g,ae i] (ae j))(h6:Cp 89 [(vB (!(c==d))),ae j] k.pv):Cp 93 [a.pv,b.pv] k.pv :=
 eD func93 72 [1,1,1,1,1,1] [.q,dr 11 1 [.none,(.pv (vB c)),.none,(.pv (vB d)),.none,.none,(.pv (ae g)),.none,(.pv (ae i)),(.pv (ae j)),(.pv k.pv)]] (y6 h1 h2 h3 h4 h5 h6)
end oT
namespace oV
theorem e0(a:aB)(b:Bool)(c:Ws)(d:aB)(h1:Cp 92 [a.pv] (vB b))(h2:Cp 91 [a.pv] (ae c))(h3:Cp 89 [(vB (!b)),ae c] d.pv):Cp 115 [a.pv] d.pv :=
 eD func115 72 [1,1,1] [.q,dr 6 1 [.none,(.pv (vB b)),.none,.none,(.pv (ae c)),(.pv d.pv)]] (y3 h1 h2 h3)
end oV
namespace iH
@[reducible] def fn:Func:=Tryz.f116
theorem Kf(a b:aB)(cM div Ov:List UInt32)(neg:Bool)(SH Ow Ox:List UInt32):wN a7 nr fn.ntmps (bP (focus [0,2,0,0,2,1,2,0,2,0,0,2,0] [.code (aA fn)])) (nq (bP (focus [0,2,0,0,2,1,2,0,2,0,0,2,0] [.code (aA fn)])) [0,5]) (kZ (bP (focus [0,2,0,0,2,1,2,0,2,0,0,2,0] [.code (aA fn)])) [0,5]) [.none,(.q8 0 0 (([(1:UInt32)]:List UInt32).map ai)),(.pv (ae SH)),.none,(.pv (ae Ow)),.none,(.pv (ae Ox)),.none,.none] (BY nr fn.ntmps (bP (focus [0,2,0,0,2,1,2,0,2,0,0,2,0] [.code (aA fn)])) [0,5] ⟨[(2,(.ptr 2 0)),(3,(.ptr 3 0)),(4,(.ptr 4 0)),(5,(.ptr 5 0)),(7,(.pv (ae div))),(8,(.pv (ae Ov)))],[(5,(.lit [(eB false),(.pv (.list []))])),(4,(.lit [(eB false),(.pv (.list []))])),(3,(.lit [(eB b.neg),(.pv (ae b.cM))])),(2,(.lit [(eB a.neg),(.pv (ae a.cM))]))]⟩)=wO a7 nr fn.ntmps (bP (focus [0,2,0,0,2,1,2,0,2,0,0,2,0] [.code (aA fn)])) (nq (bP (focus [0,2,0,0,2,1,2,0,2,0,0,2,0] [.code (aA fn)])) [0,5]) (kZ (bP (focus [0,2,0,0,2,1,2,0,2,0,0,2,0] [.code (aA fn)])) [0,5]) [.none,(.q8 0 0 (([(1:UInt32)]:List UInt32).map ai)),(.pv (ae SH)),.none,(.pv (ae Ow)),.none,(.pv (ae Ox)),.none,.none] (BY nr fn.ntmps (bP (focus [0,2,0,0,2,1,2,0,2,0,0,2,0] [.code (aA fn)])) [0,5] ⟨[(2,(.ptr 2 0)),(3,(.ptr 3 0)),(4,(.ptr 4 0)),(5,(.ptr 5 0)),(7,(.pv (ae div))),(8,(.pv (ae Ov)))],[(5,(.lit [(eB false),(.pv (.list []))])),(4,(.lit [(eB false),(.pv (.list []))])),(3,(.lit [(eB b.neg),(.pv (ae b.cM))])),(2,(.lit [(eB a.neg),(.pv (ae a.cM))]))]⟩):=by kernel_rfl
theorem e1(a b:aB)(c:Int)(d g i j:Ws)(k:Bool)(l m n:Ws)(p s:Bool)(u v:aB)(h1:Cp 48 [b.pv] (vI c))(h2:c≠0)(h3:Cp 91 [a.pv] (ae d))(h4:Cp 91 [b.pv] (ae g))(h5:Cp 145 [ae d,ae g] (.bh [ae i,ae j]))(h6:Cp 92 [a.pv] (vB k))(h7:k=true)(h8:0<j.length)(h9:Cp 132 [ae i,(ae [(1:UInt32)])] (ae l))(bQ:Cp 91 [b.pv] (ae m))(cW:Cp 146 [ae m,ae j] (ae n))(cP:Cp 92 [a.pv] (vB p))(cD:Cp 92 [b.pv] (vB s))(en:Cp 89 [(vB (!(p==s))),ae l] u.pv)(jw:Cp 89 [vB false,ae n] v.pv):Cp 116 [a.pv,b.pv] (.bh [u.pv,v.pv,vI 0]) :=
 eD func116 108 [1,1,1,1,1,1,1,1,1,1,1,1,3,1,1,1,1,1,1,1,1] [.q,.h 1 (.pv (vI c)),.f,dr 9 1 [.none,(.pv (ae d)),.none,(.pv (ae g)),(.pv (.bh [ae i,ae j]))],.aQ [.o,(.pv (vB k)),.o,.o,(iI (j.length:Int)),.o,(.dec true)],.t,.aH [2,3,4,5,7,8],.any [0,5] [.none,(.q8 0 0 (([(1:UInt32)]:Ws).map ai)),(.pv (ae l)),.none,(.pv (ae m)),.none,(.pv (ae n)),.none,.none],dr 9 3 [.none,(.pv (vB p)),.none,(.pv (vB s)),.none,.none,(.pv u.pv),.none,(.pv v.pv)]] (Px h1 (bm h2) h3 h4 h5 h6 h7 h7 (av ai j) h7 h7 (ay h8) (zJ bc ([(1:UInt32)]:Ws)) h9 bQ cW (Kf a b d i j k l m n) cP cD en jw)
theorem e2(a b:aB)(c:Int)(d g i j:Ws)(k l m:Bool)(n p:aB)(h1:Cp 48 [b.pv] (vI c))(h2:c≠0)(h3:Cp 91 [a.pv] (ae d))(h4:Cp 91 [b.pv] (ae g))(h5:Cp 145 [ae d,ae g] (.bh [ae i,ae j]))(h6:Cp 92 [a.pv] (vB k))(h7:k=true)(h8:j.length≤0)(h9:Cp 92 [a.pv] (vB l))(bQ:Cp 92 [b.pv] (vB m))(cW:Cp 89 [(vB (!(l==m))),ae i] n.pv)(cP:Cp 89 [vB false,ae j] p.pv):Cp 116 [a.pv,b.pv] (.bh [n.pv,p.pv,vI 0]) :=
 eD func116 108 [1,1,1,1,1,1,1,1,1,1,1,1,1,1,1,1] [.q,.h 1 (.pv (vI c)),.f,dr 9 1 [.none,(.pv (ae d)),.none,(.pv (ae g)),(.pv (.bh [ae i,ae j]))],.aQ [.o,(.pv (vB k)),.o,.o,(iI (j.length:Int)),.o,(.dec true)],.f,dr 9 3 [.none,(.pv (vB l)),.none,(.pv (vB m)),.none,.none,(.pv n.pv),.none,(.pv p.pv)]] (Ka h1 (bm h2) h3 h4 h5 h6 h7 h7 (av ai j) h7 h7 (az h8) h9 bQ cW cP)
theorem e3(a b:aB)(c:Int)(d g i j:Ws)(k l m:Bool)(n p:aB)(h1:Cp 48 [b.pv] (vI c))(h2:c≠0)(h3:Cp 91 [a.pv] (ae d))(h4:Cp 91 [b.pv] (ae g))(h5:Cp 145 [ae d,ae g] (.bh [ae i,ae j]))(h6:Cp 92 [a.pv] (vB k))(h7:k=false)(h8:Cp 92 [a.pv] (vB l))(h9:Cp 92 [b.pv] (vB m))(bQ:Cp 89 [(vB (!(l==m))),ae i] n.pv)(cW:Cp 89 [vB false,ae j] p.pv):Cp 116 [a.pv,b.pv] (.bh [n.pv,p.pv,vI 0]) :=
 eD func116 108 [1,1,1,1,1,1,1,1,1,1,1,1,1,1] [.q,.h 1 (.pv (vI c)),.f,dr 9 1 [.none,(.pv (ae d)),.none,(.pv (ae g)),(.pv (.bh [ae i,ae j]))],.aQ [.o,(.pv (vB k)),.o,.skip,.skip,.skip,(.dec false)],.a,dr 9 3 [.none,(.pv (vB l)),.none,(.pv (vB m)),.none,.none,(.pv n.pv),.none,(.pv p.pv)]] (Ga h1 (bm h2) h3 h4 h5 h6 h7 h7 h7 h7 h8 h9 bQ cW)
end iH
namespace iJ
theorem e0(a b:aB)(c d:Ws)(g i j:Bool)(k:Ws)(l:aB)(h1:Cp 91 [a.pv] (ae c))(h2:Cp 91 [b.pv] (ae d))(h3:Cp 92 [a.pv] (vB g))(h4:Cp 92 [b.pv] (vB i))(h5:g=i)(h6:Cp 92 [a.pv] (vB j))(h7:Cp 132 [ae c,ae d] (ae k))(h8:Cp 89 [vB j,ae k] l.pv):Cp 126 [a.pv,b.pv] l.pv :=
 eD func126 90 [1,1,1,1,1,1,1,1] [.q,dr 4 2 [.none,(.pv (ae c)),.none,(.pv (ae d))],dr 5 0 [.none,(.pv (vB g)),.none,(.pv (vB i))],.t,.aQ [.o,(.pv (vB j)),.o,.o,(.pv (ae k)),(.pv l.pv)]] (y8 h1 h2 h3 h4 (oL h5) h6 h7 h8)
theorem e1(a b:aB)(c d:Ws)(g i:Bool)(j:Int)(k:Bool)(l:Ws)(m:aB)(h1:Cp 91 [a.pv] (ae c))(h2:Cp 91 [b.pv] (ae d))(h3:Cp 92 [a.pv] (vB g))(h4:Cp 92 [b.pv] (vB i))(h5:g≠i)(h6:Cp 129 [ae c,ae d] (vI j))(h7:0≤j)(h8:Cp 92 [a.pv] (vB k))(h9:Cp 146 [ae c,ae d] (ae l))(bQ:Cp 89 [vB k,ae l] m.pv):Cp 126 [a.pv,b.pv] m.pv :=
 eD func126 105 [1,1,1,1,1,1,1,1,1,1] [.q,dr 4 2 [.none,(.pv (ae c)),.none,(.pv (ae d))],dr 5 0 [.none,(.pv (vB g)),.none,(.pv (vB i))],.f,.h 2 (.pv (vI j)),.t,.aQ [.o,(.pv (vB k)),.o,.o,(.pv (ae l)),(.pv m.pv)]] (wh h1 h2 h3 h4 (sV h5) h6 (eM h7) h8 h9 bQ)
theorem e2(a b:aB)(c d:Ws)(g i:Bool)(j:Int)(k:Bool)(l:Ws)(m:aB)(h1:Cp 91 [a.pv] (ae c))(h2:Cp 91 [b.pv] (ae d))(h3:Cp 92 [a.pv] (vB g))(h4:Cp 92 [b.pv] (vB i))(h5:g≠i)(h6:Cp 129 [ae c,ae d] (vI j))(h7:j<0)(h8:Cp 92 [b.pv] (vB k))(h9:Cp 146 [ae d,ae c] (ae l))(bQ:Cp 89 [vB k,ae l] m.pv):Cp 126 [a.pv,b.pv] m.pv :=
 eD func126 108 [1,1,1,1,1,1,1,1,1,1] [.q,dr 4 2 [.none,(.pv (ae c)),.none,(.pv (ae d))],dr 5 0 [.none,(.pv (vB g)),.none,(.pv (vB i))],.f,.h 2 (.pv (vI j)),.f,.aQ [.o,(.pv (vB k)),.o,.o,(.pv (ae l)),(.pv m.pv)]] (wh h1 h2 h3 h4 (sV h5) h6 (jI h7) h8 h9 bQ)
end iJ
namespace eF
@[reducible] def fn:Func:=Tryz.f127
def br:List dI:=focus [0,2,0,2,0,0,0] [.code (aA fn)]
def inv1(qE:List UInt32):St:=⟨[(3,(.row 6 0 qE.length 1))],[(6,(.pure ((qE:List UInt32).map ai).flatten))]⟩
@[reducible] def ar(qE:List UInt32)(r:PV):Prop:=L a7 fn br (inv1 qE) r
theorem e0(a:Ws){r:PV}(h1:(([]:Ws)++a:Ws).length*4≤140737488355328)(hL:ar a r):Cp 127 [ae a] r :=
 eG func127 81 [6] [.q,.h 2 (.app (a:Ws).length ((a:Ws).map ai).flatten),.aH [3]] (y1 (rF bc ([]:Ws) (a:Ws) 4 (Eq.refl ([]:Ws).length) h1 rfl)) hL
theorem dC(b:Ws)(k:Nat)(v:UInt32)(u:Nat){r:PV}(h1:0<b.length)(h2:aK ((b.length:Int)-1))(h3:((b.length:Int)-1)=(k:Int))(h4:k<b.length)(h5:b[k]? = some v)(h6:v.toNat=0)(h7:((b.length:Int)-1)=(u:Int))(h8:u≤(b:Ws).length)(hL:ar (b.take u) r):ar b r :=
 lG 108 [1,1,1,1,1,1,2,1,1,1,1,1,1,5,1] [.a,.aQ [.o,.o,.o,.o,.o,.o,.o,(iI ((b.length:Int)-1)),(.nat k),(.ev (.pv (vW v))),.o,(.dec true)],.t,.aQ [.o,.o,.o,(iI ((b.length:Int)-1)),(.q8 0 ((b.take u).length) [])],.cut 6 (u*1) (((b.take u):Ws).map ai).flatten,.aH [3]] (J9 (ay h1) (ay h1) (ay h1) (ay h1) (bu h2) (ay h1) (cj h3 h4) (ay h1) (dz (enc:=ai) (f:=fun a=>(vW a)) (fun _=>rfl) h5) (ay h1) (ay h1) (bd h6) (bu h2) (K7 (b:Ws) h7 h8) (Al bc (b:Ws) u)) hL
theorem dD(b:Ws)(k:Nat)(v:UInt32)(h1:0<b.length)(h2:aK ((b.length:Int)-1))(h3:((b.length:Int)-1)=(k:Int))(h4:k<b.length)(h5:b[k]? = some v)(h6:v.toNat≠0):ar b (ae b) :=
 lD 114 [1,1,1,1,1,1,2,1,1,1,1,1,3] [.a,.aQ [.o,.o,.o,.o,.o,.o,.o,(iI ((b.length:Int)-1)),(.nat k),(.ev (.pv (vW v))),.o,(.dec true)],.f,.q,.jM 2 ((b:Ws).map ai)] (HU (ay h1) (ay h1) (ay h1) (ay h1) (bu h2) (ay h1) (cj h3 h4) (ay h1) (dz (enc:=ai) (f:=fun a=>(vW a)) (fun _=>rfl) h5) (ay h1) (ay h1) (aR h6) (cq bc (b:Ws) (Eq.refl (b:Ws).length)))
theorem kM(b:Ws)(h1:b.length≤0):ar b (ae b) :=
 lD 114 [1,1,1,1,1,1,1,1,3] [.a,.aQ [.o,.o,.o,.o,.skip,.skip,.skip,.skip,.skip,.skip,.skip,(.dec false)],.a,.q,.jM 2 ((b:Ws).map ai)] (y9 (az h1) (az h1) (az h1) (az h1) (az h1) (az h1) (az h1) (az h1) (cq bc (b:Ws) (Eq.refl (b:Ws).length)))
end eF
namespace eo
@[reducible] def fn:Func:=Tryz.f127
def br:List dI:=focus [0,2,0,2,0,0,0] [.code (aA fn)]
def inv1(qE:List UInt32):St:=⟨[(3,(.row 6 0 qE.length 1))],[(6,(.pure ((qE:List UInt32).map ai).flatten))]⟩
@[reducible] def ar(qE:List UInt32)(sin:aN)(r:EV)(sout:aN):Prop:=LX a7 fn br (inv1 qE) sin r sout
theorem e0(a:Ws){r:EV}{sout:aN}(h1:(([]:Ws)++a:Ws).length*4≤140737488355328)(hL:ar a [] r sout):aw a7 127 [(.pv (ae a))] [] r sout :=
 zK func127 81 [6] [.q,.h 2 (.app (a:Ws).length ((a:Ws).map ai).flatten),.aH [3]] (y1 (rF bc ([]:Ws) (a:Ws) 4 (Eq.refl ([]:Ws).length) h1 rfl)) hL
theorem dC(b:Ws)(k:Nat)(v:UInt32)(u:Nat){r:EV}{sout:aN}{sin:aN}(hs:sin.all (fun p=>Nat.ble fn.ntmps p.1)=true)(h1:0<b.length)(h2:aK ((b.length:Int)-1))(h3:((b.length:Int)-1)=(k:Int))(h4:k<b.length)(h5:b[k]? = some v)(h6:v.toNat=0)(h7:((b.length:Int)-1)=(u:Int))(h8:u≤(b:Ws).length)(hL:ar (b.take u) sin r sout):ar b sin r sout :=
 yq 108 [1,1,1,1,1,1,2,1,1,1,1,1,1,5,1] [.a,.aQ [.o,.o,.o,.o,.o,.o,.o,(iI ((b.length:Int)-1)),(.nat k),(.ev (.pv (vW v))),.o,(.dec true)],.t,.aQ [.o,.o,.o,(iI ((b.length:Int)-1)),(.q8 0 ((b.take u).length) [])],.cut 6 (u*1) (((b.take u):Ws).map ai).flatten,.aH [3]] hs (J9 (ay h1) (ay h1) (ay h1) (ay h1) (bu h2) (ay h1) (cj h3 h4) (ay h1) (dz (enc:=ai) (f:=fun a=>(vW a)) (fun _=>rfl) h5) (ay h1) (ay h1) (bd h6) (bu h2) (K7 (b:Ws) h7 h8) (Al bc (b:Ws) u)) hL
theorem dD(b:Ws)(k:Nat)(v:UInt32){sin:aN}(hs:sin.all (fun p=>Nat.ble fn.ntmps p.1)=true)(hi:sin.all (fun p=>pB p.1||(aN.get [(0,(.pure ((b:Ws).map ai).flatten))] p.1).isSome)=true)(h1:0<b.length)(h2:aK ((b.length:Int)-1))(h3:((b.length:Int)-1)=(k:Int))(h4:k<b.length)(h5:b[k]? = some v)(h6:v.toNat≠0):ar b sin (.row 0 0 b.length 1) [(0,(.pure ((b:Ws).map ai).flatten))] :=
 uV 114 [1,1,1,1,1,1,2,1,1,1,1,1] [.a,.aQ [.o,.o,.o,.o,.o,.o,.o,(iI ((b.length:Int)-1)),(.nat k),(.ev (.pv (vW v))),.o,(.dec true)],.f,.q,.Cw 6 0,.ord [0]] hs hi (Jl (ay h1) (ay h1) (ay h1) (ay h1) (bu h2) (ay h1) (cj h3 h4) (ay h1) (dz (enc:=ai) (f:=fun a=>(vW a)) (fun _=>rfl) h5) (ay h1) (ay h1) (aR h6))
theorem kM(b:Ws){sin:aN}(hs:sin.all (fun p=>Nat.ble fn.ntmps p.1)=true)(hi:sin.all (fun p=>pB p.1||(aN.get [(0,(.pure ((b:Ws).map ai).flatten))] p.1).isSome)=true)(h1:b.length≤0):ar b sin (.row 0 0 b.length 1) [(0,(.pure ((b:Ws).map ai).flatten))] :=
 uV 114 [1,1,1,1,1,1,1,1] [.a,.aQ [.o,.o,.o,.o,.skip,.skip,.skip,.skip,.skip,.skip,.skip,(.dec false)],.a,.q,.Cw 6 0,.ord [0]] hs hi (y8 (az h1) (az h1) (az h1) (az h1) (az h1) (az h1) (az h1) (az h1))
end eo
namespace fk
@[reducible] def fn:Func:=Tryz.f128
def br:List dI:=focus [0,2,0,0,2,0,0] [.code (aA fn)]
def inv1(len Q1:Nat)(aG:List UInt32):St:=⟨[(0,(.row 100000 0 len 1)),(5,(eI (len:Int))),(6,(eI (Q1:Int)))],[(100000,(.pure ((aG:List UInt32).map ai).flatten))]⟩
@[reducible] def ar(len Q1:Nat)(aG:List UInt32)(sin:aN)(r:EV)(sout:aN):Prop:=LX a7 fn br (inv1 len Q1 aG) sin r sout
theorem e0 (a : Ws) (b : Nat) {r : EV} {sout : aN}  (hL : ar b 0 a [(100000, (.pure ((a : Ws).map ai).flatten))] r sout) : aw a7 128 [(.row 100000 0 b 1)] [(100000, (.pure ((a : Ws).map ai).flatten))] r sout :=
 zK func128 81 [] [.q,.q,.aH [0,5,6]] True.intro hL
theorem dC(b c:Nat)(d z:Ws)(g z1:Nat)(z2:Ws)(i z3 z4:Nat)(w:UInt32){r:EV}{sout:aN}{sin:aN}(hs:sin.all (fun p=>Nat.ble fn.ntmps p.1)=true)(h1:c<b)(h2:aw a7 154 [.row 100000 0 b 1,.pv (vI (c:Int))] [(100000,(.pure ((d:Ws).map ai).flatten))] (.pv (vU g)) [(100000,(.pure ((z:Ws).map ai).flatten))])(h3:g/2^(min 1 64)=z1)(h4:(c+1)<9223372036854775808)(h5:aw a7 154 [.row 100000 0 b 1,.pv (vI (((c+1):Nat):Int))] [(100000,(.pure ((z:Ws).map ai).flatten))] (.pv (vU i)) [(100000,(.pure ((z2:Ws).map ai).flatten))])(h6:(i*2^(min 31 64))%18446744073709551616=z3)(h7:(z1%18446744073709551616) ||| (z3%18446744073709551616)=z4)(h8:z4%4294967296=w.toNat)(h9:c<z2.length)(hL:ar b (c+1) (z2.set c w) sin r sout):ar b c d sin r sout :=
 yq 120 [1,1,1,1,1,1,1,1,2,2,1] [.a,.q,.t,.q,.aQ [.o,.o,.o,.o,(.bz [(100000,100000)] none (.pv (vU g)) [(100000,(.pure ((z:Ws).map ai).flatten))]),iU z1,.o,.o,(iI (((c+1):Nat):Int)),(.bz [(100000,100000)] none (.pv (vU i)) [(100000,(.pure ((z2:Ws).map ai).flatten))]),iU z3,iU z4,iW w,(.nat c),(.cells (.pure (((z2.set c w):Ws).map ai).flatten))],.h 0 (iI (((c+1):Nat):Int)),.aH [0,5,6]] hs (A8 (ay h1) h2 (cG (k := .u64) h3) (aI h4) h5 (gW (k := .u64) h6) (l6 h7) (cu h8) (cj (Eq.refl (((c:Nat):Int):Int)) h1) (eN bc (z2:Ws) w h9) (aI h4)) hL
theorem dD(b c:Nat)(d z:Ws)(n:Nat){sin:aN}(hs:sin.all (fun p=>Nat.ble fn.ntmps p.1)=true)(hi:sin.all (fun p=>pB p.1||(aN.get [(100000,(.pure (((z.take n):Ws).map ai).flatten))] p.1).isSome)=true)(h1:b≤c)(h2:aw a7 131 [.row 100000 0 b 1] [(100000,(.pure ((d:Ws).map ai).flatten))] (.row 100000 0 n 1) [(100000,(.pure ((z:Ws).map ai).flatten))]):ar b c d sin (.row 100000 0 n 1) [(100000,(.pure (((z.take n):Ws).map ai).flatten))] :=
 uV 114 [1,1,1] [.a,.q,.f,.h 1 (.bz [(100000,100000)] none (.row 100000 0 n 1) [(100000,(.pure ((z:Ws).map ai).flatten))]),.cut 100000 (n*1) (((z.take n):Ws).map ai).flatten,.ord [100000]] hs hi (y3 (az h1) h2 (Al bc (z:Ws) n))
end fk
namespace cT
@[reducible] def fn:Func:=Tryz.f129
def br:List dI:=focus [0,2,0,0,2,0,0] [.code (aA fn)]
def inv1(a b:List UInt32)(rK:Int):St:=⟨[(0,(.pv (ae a))),(1,(.pv (ae b))),(5,(eI rK))],[]⟩
@[reducible] def ar(a b:List UInt32)(rK:Int)(r:PV):Prop:=L a7 fn br (inv1 a b rK) r
theorem e0(a b:Ws){r:PV}(h1:aK ((((max a.length b.length):Nat):Int)-1))(hL:ar a b ((((max a.length b.length):Nat):Int)-1) r):Cp 129 [ae a,ae b] r :=
 eG func129 81 [1,1,1,1] [.q,.aQ [.o,(iI (a.length:Int)),.o,(iI (b.length:Int)),(iI (((max a.length b.length):Nat):Int)),(iI ((((max a.length b.length):Nat):Int)-1))],.aH [0,1,5]] (y4 (av ai a) (av ai b) (yp a.length b.length) (bu h1)) hL
theorem dC(a b:Ws)(c:Int)(d g i j:Nat)(h1:0≤c)(h2:Cp 154 [ae a,vI c] (vU d))(h3:Cp 154 [ae b,vI c] (vU g))(h4:d≠g)(h5:Cp 154 [ae a,vI c] (vU i))(h6:Cp 154 [ae b,vI c] (vU j))(h7:i<j):ar a b c (vI (-1)) :=
 lD 132 [1,1,1,1,1,1,1] [.a,.q,.t,.aQ [.o,.o,(.pv (vU d)),.o,.o,(.pv (vU g))],.t,.aQ [.o,.o,(.pv (vU i)),.o,.o,(.pv (vU j))],.t,.q] (y7 (eM h1) h2 h3 (dc h4) h5 h6 (ay h7))
theorem dD(a b:Ws)(c:Int)(d g i j:Nat)(h1:0≤c)(h2:Cp 154 [ae a,vI c] (vU d))(h3:Cp 154 [ae b,vI c] (vU g))(h4:d≠g)(h5:Cp 154 [ae a,vI c] (vU i))(h6:Cp 154 [ae b,vI c] (vU j))(h7:j≤i):ar a b c (vI 1) :=
 lD 135 [1,1,1,1,1,1,1] [.a,.q,.t,.aQ [.o,.o,(.pv (vU d)),.o,.o,(.pv (vU g))],.t,.aQ [.o,.o,(.pv (vU i)),.o,.o,(.pv (vU j))],.f,.q] (y7 (eM h1) h2 h3 (dc h4) h5 h6 (az h7))
theorem kM(a b:Ws)(c:Int)(d g:Nat){r:PV}(h1:0≤c)(h2:Cp 154 [ae a,vI c] (vU d))(h3:Cp 154 [ae b,vI c] (vU g))(h4:d=g)(h5:aK (c-1))(hL:ar a b (c-1) r):ar a b c r :=
 lG 123 [1,1,1,1,1] [.a,.q,.t,.aQ [.o,.o,(.pv (vU d)),.o,.o,(.pv (vU g))],.f,.h 1 (iI (c-1)),.aH [0,1,5]] (y5 (eM h1) h2 h3 (bM h4) (bu h5)) hL
theorem An(a b:Ws)(c:Int)(h1:c<0):ar a b c (vI 0) :=
 lD 114 [1] [.a,.q,.f,.q] (y1 (jI h1))
end cT
namespace cH
@[reducible] def fn:Func:=Tryz.f129
def br:List dI:=focus [0,2,0,0,2,0,0] [.code (aA fn)]
def inv1(len:Nat)(b:List UInt32)(rK:Int)(aG:List UInt32):St:=⟨[(0,(.row 100000 0 len 1)),(1,(.pv (ae b))),(5,(eI rK))],[(100000,(.pure ((aG:List UInt32).map ai).flatten))]⟩
@[reducible] def ar(len:Nat)(b:List UInt32)(rK:Int)(aG:List UInt32)(sin:aN)(r:EV)(sout:aN):Prop:=LX a7 fn br (inv1 len b rK aG) sin r sout
theorem e0(a:Ws)(c:Nat)(b:Ws){r:EV}{sout:aN}(h1:aK ((((max c b.length):Nat):Int)-1))(hL:ar c b ((((max c b.length):Nat):Int)-1) a [(100000,(.pure ((a:Ws).map ai).flatten))] r sout):aw a7 129 [(.row 100000 0 c 1),(.pv (ae b))] [(100000,(.pure ((a:Ws).map ai).flatten))] r sout :=
 zK func129 81 [1,1,1] [.q,.aQ [.o,.o,.o,(iI (b.length:Int)),(iI (((max c b.length):Nat):Int)),(iI ((((max c b.length):Nat):Int)-1))],.aH [0,1,5]] (y3 (av ai b) (yp c b.length) (bu h1)) hL
theorem dC(c:Nat)(b:Ws)(d:Int)(g z:Ws)(i j:Nat)(z1:Ws)(k l:Nat){sin:aN}(hs:sin.all (fun p=>Nat.ble fn.ntmps p.1)=true)(hi:sin.all (fun p=>pB p.1||(aN.get [(100000,(.pure ((z1:Ws).map ai).flatten))] p.1).isSome)=true)(h1:0≤d)(h2:aw a7 154 [.row 100000 0 c 1,.pv (vI d)] [(100000,(.pure ((g:Ws).map ai).flatten))] (.pv (vU i)) [(100000,(.pure ((z:Ws).map ai).flatten))])(h3:Cp 154 [ae b,vI d] (vU j))(h4:i≠j)(h5:aw a7 154 [.row 100000 0 c 1,.pv (vI d)] [(100000,(.pure ((z:Ws).map ai).flatten))] (.pv (vU k)) [(100000,(.pure ((z1:Ws).map ai).flatten))])(h6:Cp 154 [ae b,vI d] (vU l))(h7:k<l):ar c b d g sin (.pv (vI (-1))) [(100000,(.pure ((z1:Ws).map ai).flatten))] :=
 uV 132 [1,1,1,1,1,1,1] [.a,.q,.t,.aQ [.o,.o,(.bz [(100000,100000)] none (.pv (vU i)) [(100000,(.pure ((z:Ws).map ai).flatten))]),.o,.o,(.pv (vU j))],.t,.aQ [.o,.o,(.bz [(100000,100000)] none (.pv (vU k)) [(100000,(.pure ((z1:Ws).map ai).flatten))]),.o,.o,(.pv (vU l))],.t,.q,.ord [100000]] hs hi (y7 (eM h1) h2 h3 (dc h4) h5 h6 (ay h7))
theorem dD(c:Nat)(b:Ws)(d:Int)(g z:Ws)(i j:Nat)(z1:Ws)(k l:Nat){sin:aN}(hs:sin.all (fun p=>Nat.ble fn.ntmps p.1)=true)(hi:sin.all (fun p=>pB p.1||(aN.get [(100000,(.pure ((z1:Ws).map ai).flatten))] p.1).isSome)=true)(h1:0≤d)(h2:aw a7 154 [.row 100000 0 c 1,.pv (vI d)] [(100000,(.pure ((g:Ws).map ai).flatten))] (.pv (vU i)) [(100000,(.pure ((z:Ws).map ai).flatten))])(h3:Cp 154 [ae b,vI d] (vU j))(h4:i≠j)(h5:aw a7 154 [.row 100000 0 c 1,.pv (vI d)] [(100000,(.pure ((z:Ws).map ai).flatten))] (.pv (vU k)) [(100000,(.pure ((z1:Ws).map ai).flatten))])(h6:Cp 154 [ae b,vI d] (vU l))(h7:l≤k):ar c b d g sin (.pv (vI 1)) [(100000,(.pure ((z1:Ws).map ai).flatten))] :=
 uV 135 [1,1,1,1,1,1,1] [.a,.q,.t,.aQ [.o,.o,(.bz [(100000,100000)] none (.pv (vU i)) [(100000,(.pure ((z:Ws).map ai).flatten))]),.o,.o,(.pv (vU j))],.t,.aQ [.o,.o,(.bz [(100000,100000)] none (.pv (vU k)) [(100000,(.pure ((z1:Ws).map ai).flatten))]),.o,.o,(.pv (vU l))],.f,.q,.ord [100000]] hs hi (y7 (eM h1) h2 h3 (dc h4) h5 h6 (az h7))
theorem kM(c:Nat)(b:Ws)(d:Int)(g z:Ws)(i j:Nat){r:EV}{sout:aN}{sin:aN}(hs:sin.all (fun p=>Nat.ble fn.ntmps p.1)=true)(h1:0≤d)(h2:aw a7 154 [.row 100000 0 c 1,.pv (vI d)] [(100000,(.pure ((g:Ws).map ai).flatten))] (.pv (vU i)) [(100000,(.pure ((z:Ws).map ai).flatten))])(h3:Cp 154 [ae b,vI d] (vU j))(h4:i=j)(h5:aK (d-1))(hL:ar c b (d-1) z sin r sout):ar c b d g sin r sout :=
 yq 123 [1,1,1,1,1] [.a,.q,.t,.aQ [.o,.o,(.bz [(100000,100000)] none (.pv (vU i)) [(100000,(.pure ((z:Ws).map ai).flatten))]),.o,.o,(.pv (vU j))],.f,.h 1 (iI (d-1)),.aH [0,1,5]] hs (y5 (eM h1) h2 h3 (bM h4) (bu h5)) hL
theorem An(c:Nat)(b:Ws)(d:Int)(g:Ws){sin:aN}(hs:sin.all (fun p=>Nat.ble fn.ntmps p.1)=true)(hi:sin.all (fun p=>pB p.1||(aN.get [(100000,(.pure ((g:Ws).map ai).flatten))] p.1).isSome)=true)(h1:d<0):ar c b d g sin (.pv (vI 0)) [(100000,(.pure ((g:Ws).map ai).flatten))] :=
 uV 114 [1] [.a,.q,.f,.q,.ord [100000]] hs hi (y1 (jI h1))
end cH
namespace cz
@[reducible] def fn:Func:=Tryz.f129
def br:List dI:=focus [0,2,0,0,2,0,0] [.code (aA fn)]
def inv1(len oe:Nat)(rK:Int)(aG jb:List UInt32):St:=⟨[(0,(.row 100000 0 len 1)),(1,(.row 100001 0 oe 1)),(5,(eI rK))],[(100000,(.pure ((aG:List UInt32).map ai).flatten)),(100001,(.pure ((jb:List UInt32).map ai).flatten))]⟩
@[reducible] def ar(len oe:Nat)(rK:Int)(aG jb:List UInt32)(sin:aN)(r:EV)(sout:aN):Prop:=LX a7 fn br (inv1 len oe rK aG jb) sin r sout
theorem e0(a:Ws)(c:Nat)(b:Ws)(d:Nat){r:EV}{sout:aN}(h1:aK ((((max c d):Nat):Int)-1))(hL:ar c d ((((max c d):Nat):Int)-1) a b [(100000,(.pure ((a:Ws).map ai).flatten)),(100001,(.pure ((b:Ws).map ai).flatten))] r sout):aw a7 129 [(.row 100000 0 c 1),(.row 100001 0 d 1)] [(100000,(.pure ((a:Ws).map ai).flatten)),(100001,(.pure ((b:Ws).map ai).flatten))] r sout :=
 zK func129 81 [1,1] [.q,.aQ [.o,.o,.o,.o,(iI (((max c d):Nat):Int)),(iI ((((max c d):Nat):Int)-1))],.aH [0,1,5]] (y2 (yp c d) (bu h1)) hL
theorem dC(b c:Nat)(d:Int)(g i z:Ws)(j:Nat)(z1:Ws)(k:Nat)(z2:Ws)(l:Nat)(z3:Ws)(m:Nat){sin:aN}(hs:sin.all (fun p=>Nat.ble fn.ntmps p.1)=true)(hi:sin.all (fun p=>pB p.1||(aN.get [(100000,(.pure ((z2:Ws).map ai).flatten)),(100001,(.pure ((z3:Ws).map ai).flatten))] p.1).isSome)=true)(h1:0≤d)(h2:aw a7 154 [.row 100000 0 b 1,.pv (vI d)] [(100000,(.pure ((g:Ws).map ai).flatten))] (.pv (vU j)) [(100000,(.pure ((z:Ws).map ai).flatten))])(h3:aw a7 154 [.row 100000 0 c 1,.pv (vI d)] [(100000,(.pure ((i:Ws).map ai).flatten))] (.pv (vU k)) [(100000,(.pure ((z1:Ws).map ai).flatten))])(h4:j≠k)(h5:aw a7 154 [.row 100000 0 b 1,.pv (vI d)] [(100000,(.pure ((z:Ws).map ai).flatten))] (.pv (vU l)) [(100000,(.pure ((z2:Ws).map ai).flatten))])(h6:aw a7 154 [.row 100000 0 c 1,.pv (vI d)] [(100000,(.pure ((z1:Ws).map ai).flatten))] (.pv (vU m)) [(100000,(.pure ((z3:Ws).map ai).flatten))])(h7:l<m):ar b c d g i sin (.pv (vI (-1))) [(100000,(.pure ((z2:Ws).map ai).flatten)),(100001,(.pure ((z3:Ws).map ai).flatten))] :=
 uV 132 [1,1,1,1,1,1,1] [.a,.q,.t,.aQ [.o,.o,(.bz [(100000,100000)] none (.pv (vU j)) [(100000,(.pure ((z:Ws).map ai).flatten))]),.o,.o,(.bz [(100001,100000)] none (.pv (vU k)) [(100000,(.pure ((z1:Ws).map ai).flatten))])],.t,.aQ [.o,.o,(.bz [(100000,100000)] none (.pv (vU l)) [(100000,(.pure ((z2:Ws).map ai).flatten))]),.o,.o,(.bz [(100001,100000)] none (.pv (vU m)) [(100000,(.pure ((z3:Ws).map ai).flatten))])],.t,.q,.ord [100000,100001]] hs hi (y7 (eM h1) h2 h3 (dc h4) h5 h6 (ay h7))
theorem dD(b c:Nat)(d:Int)(g i z:Ws)(j:Nat)(z1:Ws)(k:Nat)(z2:Ws)(l:Nat)(z3:Ws)(m:Nat){sin:aN}(hs:sin.all (fun p=>Nat.ble fn.ntmps p.1)=true)(hi:sin.all (fun p=>pB p.1||(aN.get [(100000,(.pure ((z2:Ws).map ai).flatten)),(100001,(.pure ((z3:Ws).map ai).flatten))] p.1).isSome)=true)(h1:0≤d)(h2:aw a7 154 [.row 100000 0 b 1,.pv (vI d)] [(100000,(.pure ((g:Ws).map ai).flatten))] (.pv (vU j)) [(100000,(.pure ((z:Ws).map ai).flatten))])(h3:aw a7 154 [.row 100000 0 c 1,.pv (vI d)] [(100000,(.pure ((i:Ws).map ai).flatten))] (.pv (vU k)) [(100000,(.pure ((z1:Ws).map ai).flatten))])(h4:j≠k)(h5:aw a7 154 [.row 100000 0 b 1,.pv (vI d)] [(100000,(.pure ((z:Ws).map ai).flatten))] (.pv (vU l)) [(100000,(.pure ((z2:Ws).map ai).flatten))])(h6:aw a7 154 [.row 100000 0 c 1,.pv (vI d)] [(100000,(.pure ((z1:Ws).map ai).flatten))] (.pv (vU m)) [(100000,(.pure ((z3:Ws).map ai).flatten))])(h7:m≤l):ar b c d g i sin (.pv (vI 1)) [(100000,(.pure ((z2:Ws).map ai).flatten)),(100001,(.pure ((z3:Ws).map ai).flatten))] :=
 uV 135 [1,1,1,1,1,1,1] [.a,.q,.t,.aQ [.o,.o,(.bz [(100000,100000)] none (.pv (vU j)) [(100000,(.pure ((z:Ws).map ai).flatten))]),.o,.o,(.bz [(100001,100000)] none (.pv (vU k)) [(100000,(.pure ((z1:Ws).map ai).flatten))])],.t,.aQ [.o,.o,(.bz [(100000,100000)] none (.pv (vU l)) [(100000,(.pure ((z2:Ws).map ai).flatten))]),.o,.o,(.bz [(100001,100000)] none (.pv (vU m)) [(100000,(.pure ((z3:Ws).map ai).flatten))])],.f,.q,.ord [100000,100001]] hs hi (y7 (eM h1) h2 h3 (dc h4) h5 h6 (az h7))
theorem kM(b c:Nat)(d:Int)(g i z:Ws)(j:Nat)(z1:Ws)(k:Nat){r:EV}{sout:aN}{sin:aN}(hs:sin.all (fun p=>Nat.ble fn.ntmps p.1)=true)(h1:0≤d)(h2:aw a7 154 [.row 100000 0 b 1,.pv (vI d)] [(100000,(.pure ((g:Ws).map ai).flatten))] (.pv (vU j)) [(100000,(.pure ((z:Ws).map ai).flatten))])(h3:aw a7 154 [.row 100000 0 c 1,.pv (vI d)] [(100000,(.pure ((i:Ws).map ai).flatten))] (.pv (vU k)) [(100000,(.pure ((z1:Ws).map ai).flatten))])(h4:j=k)(h5:aK (d-1))(hL:ar b c (d-1) z z1 sin r sout):ar b c d g i sin r sout :=
 yq 123 [1,1,1,1,1] [.a,.q,.t,.aQ [.o,.o,(.bz [(100000,100000)] none (.pv (vU j)) [(100000,(.pure ((z:Ws).map ai).flatten))]),.o,.o,(.bz [(100001,100000)] none (.pv (vU k)) [(100000,(.pure ((z1:Ws).map ai).flatten))])],.f,.h 1 (iI (d-1)),.aH [0,1,5]] hs (y5 (eM h1) h2 h3 (bM h4) (bu h5)) hL
theorem An(b c:Nat)(d:Int)(g i:Ws){sin:aN}(hs:sin.all (fun p=>Nat.ble fn.ntmps p.1)=true)(hi:sin.all (fun p=>pB p.1||(aN.get [(100000,(.pure ((g:Ws).map ai).flatten)),(100001,(.pure ((i:Ws).map ai).flatten))] p.1).isSome)=true)(h1:d<0):ar b c d g i sin (.pv (vI 0)) [(100000,(.pure ((g:Ws).map ai).flatten)),(100001,(.pure ((i:Ws).map ai).flatten))] :=
 uV 114 [1] [.a,.q,.f,.q,.ord [100000,100001]] hs hi (y1 (jI h1))
end cz
namespace fS
@[reducible] def fn:Func:=Tryz.f130
def br:List dI:=focus [0,2,0,2,0,0] [.code (aA fn)]
def inv1(len:Nat)(b:List UInt32)(og Mp:Nat)(aG:List UInt32):St:=⟨[(0,(.row 100000 0 len 1)),(1,(.pv (ae b))),(4,(eU og)),(8,(eI (len:Int))),(9,(eI (Mp:Int)))],[(100000,(.pure ((aG:List UInt32).map ai).flatten))]⟩
@[reducible] def ar(len:Nat)(b:List UInt32)(og Mp:Nat)(aG:List UInt32)(sin:aN)(r:EV)(sout:aN):Prop:=LX a7 fn br (inv1 len b og Mp aG) sin r sout
theorem e0 (a : Ws) (c : Nat) (b : Ws) {r : EV} {sout : aN}  (hL : ar c b 0 0 a [(100000, (.pure ((a : Ws).map ai).flatten))] r sout) : aw a7 130 [(.row 100000 0 c 1), (.pv (ae b))] [(100000, (.pure ((a : Ws).map ai).flatten))] r sout :=
 zK func130 78 [] [.q,.q,.aH [0,1,4,8,9]] True.intro hL
theorem dC(c:Nat)(b:Ws)(g i:Nat)(j z:Ws)(l s m d d1:Nat)(w:UInt32)(z1 d2:Nat){r:EV}{sout:aN}{sin:aN}(hs:sin.all (fun p=>Nat.ble fn.ntmps p.1)=true)(h1:i<c)(h2:aw a7 154 [.row 100000 0 c 1,.pv (vI (i:Int))] [(100000,(.pure ((j:Ws).map ai).flatten))] (.pv (vU l)) [(100000,(.pure ((z:Ws).map ai).flatten))])(h3:(4294967296+l)%18446744073709551616=s)(h4:Cp 154 [ae b,(vI (i:Int))] (vU m))(h5:((s:Nat)-(m:Nat):Int)%18446744073709551616=(d:Int))(h6:((d:Nat)-(g:Nat):Int)%18446744073709551616=(d1:Int))(h7:d1%4294967296=w.toNat)(h8:d1/2^(min 32 64)=z1)(h9:((1:Nat)-(z1:Nat):Int)%18446744073709551616=(d2:Int))(bQ:i<z.length)(cW:(i+1)<9223372036854775808)(hL:ar c b d2 (i+1) (z.set i w) sin r sout):ar c b g i j sin r sout :=
 yq 123 [1,1,1,1,1,1,1,1,1,2,2,1] [.a,.q,.t,.q,.aQ [.o,.o,(.bz [(100000,100000)] none (.pv (vU l)) [(100000,(.pure ((z:Ws).map ai).flatten))]),iU s,.o,.o,(.pv (vU m)),iU d,.o,iU d1],.aQ [.o,.o,.o,iW w,.o,iU z1,iU d2,(.nat i),(.cells (.pure (((z.set i w):Ws).map ai).flatten))],.h 0 (iI (((i+1):Nat):Int)),.aH [0,1,4,8,9]] hs (Jl (ay h1) h2 (dm h3) h4 (da h5) (da h6) (cu h7) (cG (k := .u64) h8) (da h9) (cj (Eq.refl (((i:Nat):Int):Int)) h1) (eN bc (z:Ws) w bQ) (aI cW)) hL
theorem dD(c:Nat)(b:Ws)(d g:Nat)(i:Ws){sin:aN}(hs:sin.all (fun p=>Nat.ble fn.ntmps p.1)=true)(hi:sin.all (fun p=>pB p.1||(aN.get [(100000,(.pure ((i:Ws).map ai).flatten))] p.1).isSome)=true)(h1:c≤g):ar c b d g i sin (.pv (.bh [])) [(100000,(.pure ((i:Ws).map ai).flatten))] :=
 uV 105 [1] [.a,.q,.f,.ord [100000]] hs hi (y1 (az h1))
end fS
namespace fp
@[reducible] def fn:Func:=Tryz.f130
def br:List dI:=focus [0,2,0,2,0,0] [.code (aA fn)]
def inv1(len oe og Mp:Nat)(aG jb:List UInt32):St:=⟨[(0,(.row 100000 0 len 1)),(1,(.row 100001 0 oe 1)),(4,(eU og)),(8,(eI (len:Int))),(9,(eI (Mp:Int)))],[(100000,(.pure ((aG:List UInt32).map ai).flatten)),(100001,(.pure ((jb:List UInt32).map ai).flatten))]⟩
@[reducible] def ar(len oe og Mp:Nat)(aG jb:List UInt32)(sin:aN)(r:EV)(sout:aN):Prop:=LX a7 fn br (inv1 len oe og Mp aG jb) sin r sout
theorem e0 (a : Ws) (c : Nat) (b : Ws) (d : Nat) {r : EV} {sout : aN}  (hL : ar c d 0 0 a b [(100000, (.pure ((a : Ws).map ai).flatten)), (100001, (.pure ((b : Ws).map ai).flatten))] r sout) : aw a7 130 [(.row 100000 0 c 1), (.row 100001 0 d 1)] [(100000, (.pure ((a : Ws).map ai).flatten)), (100001, (.pure ((b : Ws).map ai).flatten))] r sout :=
 zK func130 78 [] [.q,.q,.aH [0,1,4,8,9]] True.intro hL
theorem dC(b c g i:Nat)(j l z:Ws)(m s:Nat)(z1:Ws)(n d d1:Nat)(w:UInt32)(z2 d2:Nat){r:EV}{sout:aN}{sin:aN}(hs:sin.all (fun p=>Nat.ble fn.ntmps p.1)=true)(h1:i<b)(h2:aw a7 154 [.row 100000 0 b 1,.pv (vI (i:Int))] [(100000,(.pure ((j:Ws).map ai).flatten))] (.pv (vU m)) [(100000,(.pure ((z:Ws).map ai).flatten))])(h3:(4294967296+m)%18446744073709551616=s)(h4:aw a7 154 [.row 100000 0 c 1,.pv (vI (i:Int))] [(100000,(.pure ((l:Ws).map ai).flatten))] (.pv (vU n)) [(100000,(.pure ((z1:Ws).map ai).flatten))])(h5:((s:Nat)-(n:Nat):Int)%18446744073709551616=(d:Int))(h6:((d:Nat)-(g:Nat):Int)%18446744073709551616=(d1:Int))(h7:d1%4294967296=w.toNat)(h8:d1/2^(min 32 64)=z2)(h9:((1:Nat)-(z2:Nat):Int)%18446744073709551616=(d2:Int))(bQ:i<z.length)(cW:(i+1)<9223372036854775808)(hL:ar b c d2 (i+1) (z.set i w) z1 sin r sout):ar b c g i j l sin r sout :=
 yq 123 [1,1,1,1,1,1,1,1,1,2,2,1] [.a,.q,.t,.q,.aQ [.o,.o,(.bz [(100000,100000)] none (.pv (vU m)) [(100000,(.pure ((z:Ws).map ai).flatten))]),iU s,.o,.o,(.bz [(100001,100000)] none (.pv (vU n)) [(100000,(.pure ((z1:Ws).map ai).flatten))]),iU d,.o,iU d1],.aQ [.o,.o,.o,iW w,.o,iU z2,iU d2,(.nat i),(.cells (.pure (((z.set i w):Ws).map ai).flatten))],.h 0 (iI (((i+1):Nat):Int)),.aH [0,1,4,8,9]] hs (Jl (ay h1) h2 (dm h3) h4 (da h5) (da h6) (cu h7) (cG (k := .u64) h8) (da h9) (cj (Eq.refl (((i:Nat):Int):Int)) h1) (eN bc (z:Ws) w bQ) (aI cW)) hL
theorem dD(b c d g:Nat)(i j:Ws){sin:aN}(hs:sin.all (fun p=>Nat.ble fn.ntmps p.1)=true)(hi:sin.all (fun p=>pB p.1||(aN.get [(100000,(.pure ((i:Ws).map ai).flatten)),(100001,(.pure ((j:Ws).map ai).flatten))] p.1).isSome)=true)(h1:b≤g):ar b c d g i j sin (.pv (.bh [])) [(100000,(.pure ((i:Ws).map ai).flatten)),(100001,(.pure ((j:Ws).map ai).flatten))] :=
 uV 105 [1] [.a,.q,.f,.ord [100000,100001]] hs hi (y1 (az h1))
end fp
namespace fc
@[reducible] def fn:Func:=Tryz.f131
def br:List dI:=focus [0,2,0,0,0] [.code (aA fn)]
def inv1(tF:Nat)(a:List UInt32):St:=⟨[(0,(.row 100000 0 tF 1))],[(100000,(.pure ((a:List UInt32).map ai).flatten))]⟩
@[reducible] def ar(tF:Nat)(a:List UInt32)(sin:aN)(r:EV)(sout:aN):Prop:=LX a7 fn br (inv1 tF a) sin r sout
theorem e0 (a : Ws) (b : Nat) {r : EV} {sout : aN}  (hL : ar b a [(100000, (.pure ((a : Ws).map ai).flatten))] r sout) : aw a7 131 [(.row 100000 0 b 1)] [(100000, (.pure ((a : Ws).map ai).flatten))] r sout :=
 zK func131 75 [] [.q,.aH [0]] True.intro hL
theorem dC(b:Nat)(a:Ws)(k:Nat)(v:UInt32)(u:Nat){r:EV}{sout:aN}{sin:aN}(hs:sin.all (fun p=>Nat.ble fn.ntmps p.1)=true)(h1:0<b)(h2:aK ((b:Int)-1))(h3:((b:Int)-1)=(k:Int))(h4:k<b)(h5:a[k]? = some v)(h6:v.toNat=0)(h7:((b:Int)-1)=(u:Int))(h8:u≤b)(hL:ar u a sin r sout):ar b a sin r sout :=
 yq 102 [1,1,1,1,1,1,2,1,1,1,1,1,1,5] [.a,.aQ [.o,.o,.o,.o,.o,.o,.o,(iI ((b:Int)-1)),(.nat k),(.ev (.pv (vW v))),.o,(.dec true)],.t,.aQ [.o,.o,.o,(iI ((b:Int)-1)),(.q8 0 u [])],.aH [0]] hs (Ga (ay h1) (ay h1) (ay h1) (ay h1) (bu h2) (ay h1) (cj h3 h4) (ay h1) (dz (enc:=ai) (f:=fun a=>(vW a)) (fun _=>rfl) h5) (ay h1) (ay h1) (bd h6) (bu h2) (Mh (Eq.refl (0:Int)) h7 (Or.inl (Eq.refl 0)) (Nat.zero_le u) h8)) hL
theorem dD(b:Nat)(a:Ws)(k:Nat)(v:UInt32){sin:aN}(hs:sin.all (fun p=>Nat.ble fn.ntmps p.1)=true)(hi:sin.all (fun p=>pB p.1||(aN.get [(100000,(.pure (((a.take b):Ws).map ai).flatten))] p.1).isSome)=true)(h1:0<b)(h2:aK ((b:Int)-1))(h3:((b:Int)-1)=(k:Int))(h4:k<b)(h5:a[k]? = some v)(h6:v.toNat≠0):ar b a sin (.row 100000 0 b 1) [(100000,(.pure (((a.take b):Ws).map ai).flatten))] :=
 uV 108 [1,1,1,1,1,1,2,1,1,1,1,1,1] [.a,.aQ [.o,.o,.o,.o,.o,.o,.o,(iI ((b:Int)-1)),(.nat k),(.ev (.pv (vW v))),.o,(.dec true)],.f,.q,.cut 100000 (b*1) (((a.take b):Ws).map ai).flatten,.ord [100000]] hs hi (HU (ay h1) (ay h1) (ay h1) (ay h1) (bu h2) (ay h1) (cj h3 h4) (ay h1) (dz (enc:=ai) (f:=fun a=>(vW a)) (fun _=>rfl) h5) (ay h1) (ay h1) (aR h6) (Al bc (a:Ws) b))
theorem kM(b:Nat)(a:Ws){sin:aN}(hs:sin.all (fun p=>Nat.ble fn.ntmps p.1)=true)(hi:sin.all (fun p=>pB p.1||(aN.get [(100000,(.pure (((a.take b):Ws).map ai).flatten))] p.1).isSome)=true)(h1:b≤0):ar b a sin (.row 100000 0 b 1) [(100000,(.pure (((a.take b):Ws).map ai).flatten))] :=
 uV 108 [1,1,1,1,1,1,1,1,1] [.a,.aQ [.o,.o,.o,.o,.skip,.skip,.skip,.skip,.skip,.skip,.skip,(.dec false)],.a,.q,.cut 100000 (b*1) (((a.take b):Ws).map ai).flatten,.ord [100000]] hs hi (y9 (az h1) (az h1) (az h1) (az h1) (az h1) (az h1) (az h1) (az h1) (Al bc (a:Ws) b))
end fc
namespace fT
@[reducible] def fn:Func:=Tryz.f132
def br:List dI:=focus [0,2,0,2,0,2,0,0,2,0,0] [.code (aA fn)]
def inv1(a b xb:List UInt32)(qB tE:Nat):St:=⟨[(0,(.pv (ae a))),(1,(.pv (ae b))),(5,(.row 31 0 xb.length 1)),(6,(eU qB)),(14,(eI ((((max a.length b.length)+1):Nat):Int))),(15,(eI (tE:Int)))],[(31,(.pure ((xb:List UInt32).map ai).flatten))]⟩
@[reducible] def ar(a b xb:List UInt32)(qB tE:Nat)(r:PV):Prop:=L a7 fn br (inv1 a b xb qB tE) r
theorem e0(a b:Ws){r:PV}(h1:((max a.length b.length)+1)<9223372036854775808)(hL:ar a b [] 0 0 r):Cp 132 [ae a,ae b] r :=
 eG func132 93 [1,1,1,1] [.q,.h 0 .nil,.oG 5 31 1,.q,.aQ [.o,(iI (a.length:Int)),.o,(iI (b.length:Int)),(iI (((max a.length b.length):Nat):Int)),(iI ((((max a.length b.length)+1):Nat):Int))],.aH [0,1,5,6,14,15]] (y4 (av ai a) (av ai b) (yp a.length b.length) (aI h1)) hL
theorem dC(a b c:Ws)(d g i j s s1:Nat)(w:UInt32)(z:Nat){r:PV}(h1:g<((max a.length b.length)+1))(h2:Cp 154 [ae a,(vI (g:Int))] (vU i))(h3:Cp 154 [ae b,(vI (g:Int))] (vU j))(h4:(i+j)%18446744073709551616=s)(h5:(s+d)%18446744073709551616=s1)(h6:s1%4294967296=w.toNat)(h7:((c++[w]):Ws).length*4≤140737488355328)(h8:s1/2^(min 32 64)=z)(h9:(g+1)<9223372036854775808)(hL:ar a b (c++[w]) z (g+1) r):ar a b c d g r :=
 lG 138 [1,1,1,1,1,1,6,1,1] [.a,.q,.t,.q,.aQ [.o,.o,(.pv (vU i)),.o,.o,(.pv (vU j)),iU s,.o,iU s1],.aQ [.o,.o,iW w,.o,(.app ((c++[w]):Ws).length (((c++[w]):Ws).map ai).flatten),.o,iU z],.h 0 (iI (((g+1):Nat):Int)),.aH [0,1,5,6,14,15],.drop [30]] (y9 (ay h1) h2 h3 (dm h4) (dm h5) (cu h6) (gw bc (c:Ws) ([w]:Ws) 4 (Eq.refl (c:Ws).length) (Eq.refl ([w]:Ws).length) h7 rfl) (cG (k := .u64) h8) (aI h9)) hL
theorem dD(a b c:Ws)(d g:Nat)(i:Ws)(h1:((max a.length b.length)+1)≤g)(h2:Cp 127 [ae c] (ae i)):ar a b c d g (ae i) :=
 lD 126 [1,3,1] [.a,.q,.f,.jM 5 ((c:Ws).map ai),.h 1 (.pv (ae i))] (y3 (az h1) (cq bc (c:Ws) (Eq.refl (c:Ws).length)) h2)
end fT
namespace jT
theorem e0(a:aB)(h1:a.cM.length=0):Cp 133 [a.pv] (vB (!a.neg)) :=
 eD func133 84 [1,1] [.q,.h 2 (iI (a.cM.length:Int)),.t,.q] (y2 (av ai a.cM) (bd h1))
theorem e1(a:aB)(k:Nat)(v:UInt32)(h1:a.cM.length≠0)(h2:aK ((a.cM.length:Int)-1))(h3:((a.cM.length:Int)-1)=(k:Int))(h4:a.cM[k]? = some v):Cp 133 [a.pv] (vB ((v.toNat:Int) != 0)) :=
 eD func133 87 [1,1,1,1,3] [.q,.h 2 (iI (a.cM.length:Int)),.f,.aQ [.o,.o,.o,.o,(iI (a.cM.length:Int)),(iI ((a.cM.length:Int)-1)),(.row k (ai v))]] (y5 (av ai a.cM) (aR h1) (av ai a.cM) (bu h2) (aL ai h3 h4))
end jT
namespace cv
@[reducible] def fn:Func:=Tryz.f134
def br:List dI:=focus [0,2,0,2,0,0,2,0,0] [.code (aA fn)]
def inv1(a b:List UInt32)(Em:Nat)(qF:List UInt32):St:=⟨[(0,(.pv (ae a))),(1,(.pv (ae b))),(5,(.row 15 0 (a.length+b.length) 1)),(17,(eI (a.length:Int))),(18,(eI (Em:Int)))],[(15,(.pure ((qF:List UInt32).map ai).flatten))]⟩
@[reducible] def ar(a b:List UInt32)(Em:Nat)(qF:List UInt32)(r:PV):Prop:=L a7 fn br (inv1 a b Em qF) r
def fP:List dI:=focus [0,2,0,2,0,0,2,0,0,0,0,2,0,0,2,0,0,0,2,0,2,0,0,2,0,0] [.code (aA fn)]
def inv2(a b:List UInt32)(Ba qC Em Mq:Nat)(qF:List UInt32):St:=⟨[(0,(.pv (ae a))),(1,(.pv (ae b))),(5,(.row 15 0 (a.length+b.length) 1)),(6,(eI (Ba:Int))),(7,(eU qC)),(17,(eI (a.length:Int))),(18,(eI (Em:Int))),(22,(eI (b.length:Int))),(23,(eI (Mq:Int)))],[(15,(.pure ((qF:List UInt32).map ai).flatten))]⟩
@[reducible] def aJ(a b:List UInt32)(Ba qC Em Mq:Nat)(qF:List UInt32)(r:PV):Prop:=L a7 fn fP (inv2 a b Ba qC Em Mq qF) r
theorem e0(a b:Ws){r:PV}(h1:(a.length+b.length)<9223372036854775808)(h2:4*(a.length+b.length)≤140737488355328)(hL:ar a b 0 (List.replicate (a.length+b.length) (0:UInt32)) r):Cp 134 [ae a,ae b] r :=
 eG func134 87 [1,1,1,5,1] [.q,.aQ [.o,(iI (a.length:Int)),.o,(iI (b.length:Int)),(iI (((a.length+b.length):Nat):Int)),(.app (a.length+b.length) ((List.replicate (a.length+b.length) (0:UInt32):Ws).map ai).flatten)],.h 1 (iI (a.length:Int)),.aH [0,1,5,17,18]] (y5 (av ai a) (av ai b) (aI h1) (pn ai 0 4 (a.length+b.length) (Eq.refl ((((a.length+b.length):Nat):Int):Int)) h2 rfl) (av ai a)) hL
theorem dC(a b:Ws)(c:Nat)(d:Ws){r:PV}(h1:c<a.length)(hL:aJ a b c 0 c 0 d r):ar a b c d r :=
 lG 138 [1,1] [.a,.q,.t,.q,.q,.h 1 (iI (b.length:Int)),.aH [0,1,5,6,7,17,18,22,23]] (y2 (ay h1) (av ai b)) hL
theorem dD(a b:Ws)(c:Nat)(d g:Ws)(h1:a.length≤c)(h2:(a.length+b.length)=d.length)(h3:Cp 127 [ae d] (ae g)):ar a b c d (ae g) :=
 lD 120 [1,3,1] [.a,.q,.f,.jM 5 ((d:Ws).map ai),.h 1 (.pv (ae g))] (y3 (az h1) (cq bc (d:Ws) h2) h3)
theorem nK(a b:Ws)(c d g i:Nat)(j:Ws)(v v1:UInt32)(p:Nat)(v2:UInt32)(s s1:Nat)(w:UInt32)(z:Nat){r:PV}(h1:i<b.length)(h2:a[c]? = some v)(h3:b[i]? = some v1)(h4:(v.toNat*v1.toNat)%18446744073709551616=p)(h5:(c+i)<9223372036854775808)(h6:(c+i)<(a.length+b.length))(h7:j[(c+i)]? = some v2)(h8:(p+v2.toNat)%18446744073709551616=s)(h9:(s+d)%18446744073709551616=s1)(bQ:s1%4294967296=w.toNat)(cW:s1/2^(min 32 64)=z)(cP:(c+i)<j.length)(cD:(i+1)<9223372036854775808)(hL:aJ a b c z g (i+1) (j.set (c+i) w) r):aJ a b c d g i j r :=
 lG 183 [1,3,1,3,1,1,1,2,1,1,1,1,1,1,1,2,2,1] [.a,.q,.t,.q,dr 21 1 [.none,.none,(.row c (ai v)),.none,iU v.toNat,.none,.none,(.row i (ai v1)),.none,iU v1.toNat,iU p,.none,.none,.none,(iI (((c+i):Nat):Int)),(.nat (c+i)),(.ev (.pv (vW v2))),iU v2.toNat,iU s,.none,iU s1],.aQ [.o,.o,.o,(iI (((c+i):Nat):Int)),.o,iW w,.o,iU z,(.nat (c+i)),(.cells (.pure (((j.set (c+i) w):Ws).map ai).flatten))],.h 0 (iI (((i+1):Nat):Int)),.aH [0,1,5,6,7,17,18,22,23]] (Jm (ay h1) (aL ai (Eq.refl (((c:Nat):Int):Int)) h2) (my v) (aL ai (Eq.refl (((i:Nat):Int):Int)) h3) (my v1) (l5 h4) (aI h5) (cj (Eq.refl ((((c+i):Nat):Int):Int)) h6) (dz (enc:=ai) (f:=fun a=>(vW a)) (fun _=>rfl) h7) (my v2) (dm h8) (dm h9) (aI h5) (cu bQ) (cG (k := .u64) cW) (cj (Eq.refl ((((c+i):Nat):Int):Int)) h6) (eN bc (j:Ws) w cP) (aI cD)) hL
theorem nL(a b:Ws)(c d g i:Nat)(j:Ws)(w:UInt32){r:PV}(h1:b.length≤i)(h2:(c+b.length)<9223372036854775808)(h3:d%4294967296=w.toNat)(h4:(c+b.length)<(a.length+b.length))(h5:(c+b.length)<j.length)(h6:(g+1)<9223372036854775808)(hL:ar a b (g+1) (j.set (c+b.length) w) r):aJ a b c d g i j r :=
 lG 174 [1,1,1,1,2,2,1] [.a,.q,.f,.aQ [.o,.o,.o,(iI (b.length:Int)),(iI (((c+b.length):Nat):Int)),.o,iW w,(.nat (c+b.length)),(.cells (.pure (((j.set (c+b.length) w):Ws).map ai).flatten))],.h 0 (iI (((g+1):Nat):Int)),.aH [0,1,5,17,18]] (y7 (az h1) (av ai b) (aI h2) (cu h3) (cj (Eq.refl ((((c+b.length):Nat):Int):Int)) h4) (eN bc (j:Ws) w h5) (aI h6)) hL
end cv
namespace bZ
@[reducible] def fn:Func:=Tryz.f145
def br:List dI:=focus [0,2,0,2,0,2,0,0,2,0,0] [.code (aA fn)]
def inv1(a b:List UInt32)(kN:Int)(qG qH:List UInt32):St:=⟨[(0,(.pv (ae a))),(1,(.pv (ae b))),(6,(.row 13 0 a.length 1)),(7,(.row 17 0 (b.length+1) 1)),(8,(eI kN))],[(13,(.pure ((qG:List UInt32).map ai).flatten)),(17,(.pure ((qH:List UInt32).map ai).flatten))]⟩
@[reducible] def ar(a b:List UInt32)(kN:Int)(qG qH:List UInt32)(r:PV):Prop:=L a7 fn br (inv1 a b kN qG qH) r
def fP:List dI:=focus [0,2,0,2,0,2,0,0,2,0,0,0,0,0,2,0,2,0,0,0,2,0,0,2,0,0] [.code (aA fn)]
def inv2(a b:List UInt32)(kN:Int)(Bh:UInt32)(Mr:Nat)(qG qH:List UInt32):St:=⟨[(0,(.pv (ae a))),(1,(.pv (ae b))),(6,(.row 13 0 a.length 1)),(7,(.row 17 0 (b.length+1) 1)),(8,(eI kN)),(9,(eW Bh)),(35,(eI (((b.length+1):Nat):Int))),(36,(eI (Mr:Int)))],[(13,(.pure ((qG:List UInt32).map ai).flatten)),(17,(.pure ((qH:List UInt32).map ai).flatten))]⟩
@[reducible] def aJ(a b:List UInt32)(kN:Int)(Bh:UInt32)(Mr:Nat)(qG qH:List UInt32)(r:PV):Prop:=L a7 fn fP (inv2 a b kN Bh Mr qG qH) r
theorem e0(a b:Ws)(c:Int){r:PV}(h1:4*a.length≤140737488355328)(h2:(b.length+1)<9223372036854775808)(h3:4*(b.length+1)≤140737488355328)(h4:Cp 176 [ae a] (vI c))(h5:aK (c-1))(hL:ar a b (c-1) (List.replicate a.length (0:UInt32)) (List.replicate (b.length+1) (0:UInt32)) r):Cp 145 [ae a,ae b] r :=
 eG func145 93 [1,5,1,1,5,1,1] [.q,.aQ [.o,(iI (a.length:Int)),(.app a.length ((List.replicate a.length (0:UInt32):Ws).map ai).flatten)],.aQ [.o,(iI (b.length:Int)),(iI (((b.length+1):Nat):Int)),(.app (b.length+1) ((List.replicate (b.length+1) (0:UInt32):Ws).map ai).flatten)],.aQ [.o,(.pv (vI c)),(iI (c-1))],.aH [0,1,6,7,8],.ord [13,17]] (y7 (av ai a) (pn ai 0 4 a.length (Eq.refl (((a.length:Nat):Int):Int)) h1 rfl) (av ai b) (aI h2) (pn ai 0 4 (b.length+1) (Eq.refl ((((b.length+1):Nat):Int):Int)) h3 rfl) h4 (bu h5)) hL
theorem dC(a b:Ws)(c:Int)(d g:Ws)(k:Nat)(v:UInt32)(k1:Nat)(z z1:UInt32){r:PV}(h1:0≤c)(h2:c=(k:Int))(h3:k<9223372036854775808)(h4:a[(k/32)]? = some v)(h5:c=(k1:Int))(h6:v.toNat/2^(min (k1%32) 32)=z.toNat)(h7:(z.toNat%4294967296) &&& (1%4294967296)=z1.toNat)(hL:aJ a b c z1 0 d g r):ar a b c d g r :=
 lG 138 [1,1,3,1,1,1] [.a,.q,.t,.aQ [.o,.o,(iI (((k/32):Nat):Int)),(.row (k/32) (ai v)),.o,.o,(iI (((k1%32):Nat):Int)),iW z,iW z1],.q,.aH [0,1,6,7,8,9,35,36]] (y6 (eM h1) (J7 h2 (Ff (y:=32) (by decide) h3)) (aL ai (Eq.refl ((((k/32):Nat):Int):Int)) h4) (J7 h5 (uw (x:=k1) (y:=32) (by decide))) (kg (k := .i64) h6) (fN h7)) hL
theorem dD(a b:Ws)(c:Int)(d g i j:Ws)(h1:c<0)(h2:a.length=d.length)(h3:(b.length+1)=g.length)(h4:Cp 127 [ae d] (ae i))(h5:Cp 127 [ae g] (ae j)):ar a b c d g (.bh [ae i,ae j]) :=
 lD 126 [1,3,3,1,1] [.a,.q,.f,.jM 6 ((d:Ws).map ai),.jM 7 ((g:Ws).map ai),.aQ [.o,(.pv (ae i)),.o,(.pv (ae j))]] (y5 (jI h1) (cq bc (d:Ws) h2) (cq bc (g:Ws) h3) h4 h5)
theorem nK(a b:Ws)(c:Int)(d:UInt32)(g:Nat)(i j:Ws)(v z z1 z2:UInt32){r:PV}(h1:g<(b.length+1))(h2:j[g]? = some v)(h3:(v.toNat*2^(min 1 32))%4294967296=z.toNat)(h4:(z.toNat%4294967296) ||| (d.toNat%4294967296)=z1.toNat)(h5:v.toNat/2^(min 31 32)=z2.toNat)(h6:g<j.length)(h7:(g+1)<9223372036854775808)(hL:aJ a b c z2 (g+1) i (j.set g z1) r):aJ a b c d g i j r :=
 lG 177 [1,2,1,1,1,2,1,1,2,2,1] [.a,.q,.t,.q,dr 16 1 [.none,.none,.none,.none,(.nat g),(.ev (.pv (vW v))),iW z,.none,iW z1,.none,.none,(.nat g),(.ev (.pv (vW v))),iW z2,(.nat g),(.cells (.pure (((j.set g z1):Ws).map ai).flatten))],.h 0 (iI (((g+1):Nat):Int)),.aH [0,1,6,7,8,9,35,36]] (A8 (ay h1) (cj (Eq.refl (((g:Nat):Int):Int)) h1) (dz (enc:=ai) (f:=fun a=>(vW a)) (fun _=>rfl) h2) (yj (k := .u64) h3) (se h4) (cj (Eq.refl (((g:Nat):Int):Int)) h1) (dz (enc:=ai) (f:=fun a=>(vW a)) (fun _=>rfl) h2) (kg (k := .u64) h5) (cj (Eq.refl (((g:Nat):Int):Int)) h1) (eN bc (j:Ws) z1 h6) (aI h7)) hL
theorem nL(a b:Ws)(c:Int)(d:UInt32)(g:Nat)(i j z:Ws)(l:Int)(z1:Ws)(k:Nat)(v:UInt32)(k1:Nat)(z2 z3:UInt32){r:PV}(h1:(b.length+1)≤g)(h2:aw a7 129 [.row 100000 0 (b.length+1) 1,.pv (ae b)] [(100000,(.pure ((j:Ws).map ai).flatten))] (.pv (vI l)) [(100000,(.pure ((z:Ws).map ai).flatten))])(h3:0≤l)(h4:aw a7 130 [.row 100000 0 (b.length+1) 1,.pv (ae b)] [(100000,(.pure ((z:Ws).map ai).flatten))] (.pv (.bh [])) [(100000,(.pure ((z1:Ws).map ai).flatten))])(h5:c=(k:Int))(h6:k<9223372036854775808)(h7:(k/32)<a.length)(h8:i[(k/32)]? = some v)(h9:c=(k1:Int))(bQ:(1*2^(min (k1%32) 32))%4294967296=z2.toNat)(cW:(v.toNat%4294967296) ||| (z2.toNat%4294967296)=z3.toNat)(cP:(k/32)<i.length)(cD:aK (c-1))(hL:ar a b (c-1) (i.set (k/32) z3) z1 r):aJ a b c d g i j r :=
 lG 189 [1,1,1,1,1,2,1,1,1,1,2,2,1] [.a,.q,.f,.h 2 (.bz [(17,100000)] none (.pv (vI l)) [(100000,(.pure ((z:Ws).map ai).flatten))]),.t,.h 2 (.bz [(17,100000)] none (.pv (.bh [])) [(100000,(.pure ((z1:Ws).map ai).flatten))]),dr 10 1 [.none,.none,(iI (((k/32):Nat):Int)),(.nat (k/32)),(.ev (.pv (vW v))),.none,(iI (((k1%32):Nat):Int)),iW z2,iW z3,(.nat (k/32)),(.cells (.pure (((i.set (k/32) z3):Ws).map ai).flatten))],.h 1 (iI (c-1)),.aH [0,1,6,7,8]] (HU (az h1) h2 (eM h3) h4 (J7 h5 (Ff (y:=32) (by decide) h6)) (cj (Eq.refl ((((k/32):Nat):Int):Int)) h7) (dz (enc:=ai) (f:=fun a=>(vW a)) (fun _=>rfl) h8) (J7 h9 (uw (x:=k1) (y:=32) (by decide))) (yj (k := .i64) bQ) (se cW) (cj (Eq.refl ((((k/32):Nat):Int):Int)) h7) (eN bc (i:Ws) z3 cP) (bu cD)) hL
theorem vv(a b:Ws)(c:Int)(d:UInt32)(g:Nat)(i j z:Ws)(k:Int){r:PV}(h1:(b.length+1)≤g)(h2:aw a7 129 [.row 100000 0 (b.length+1) 1,.pv (ae b)] [(100000,(.pure ((j:Ws).map ai).flatten))] (.pv (vI k)) [(100000,(.pure ((z:Ws).map ai).flatten))])(h3:k<0)(h4:aK (c-1))(hL:ar a b (c-1) i z r):aJ a b c d g i j r :=
 lG 183 [1,1,1,1] [.a,.q,.f,.h 2 (.bz [(17,100000)] none (.pv (vI k)) [(100000,(.pure ((z:Ws).map ai).flatten))]),.f,.h 1 (iI (c-1)),.aH [0,1,6,7,8]] (y4 (az h1) h2 (jI h3) (bu h4)) hL
end bZ
namespace fq
@[reducible] def fn:Func:=Tryz.f146
def br:List dI:=focus [0,2,0,2,0,2,0,0,2,0,0] [.code (aA fn)]
def inv1(a b xc:List UInt32)(n5 Ms:Nat):St:=⟨[(0,(.pv (ae a))),(1,(.pv (ae b))),(5,(.row 28 0 xc.length 1)),(6,(eU n5)),(10,(eI (a.length:Int))),(11,(eI (Ms:Int)))],[(28,(.pure ((xc:List UInt32).map ai).flatten))]⟩
@[reducible] def ar(a b xc:List UInt32)(n5 Ms:Nat)(r:PV):Prop:=L a7 fn br (inv1 a b xc n5 Ms) r
theorem e0 (a b : Ws) {r : PV}  (hL : ar a b [] 0 0 r) : Cp 146 [ae a, ae b] r :=
 eG func146 93 [1] [.q,.h 0 .nil,.oG 5 28 1,.q,.h 1 (iI (a.length:Int)),.aH [0,1,5,6,10,11]] (y1 (av ai a)) hL
theorem dC(a b c:Ws)(g i j s l d d1:Nat)(w:UInt32)(z d2:Nat){r:PV}(h1:i<a.length)(h2:Cp 154 [ae a,(vI (i:Int))] (vU j))(h3:(4294967296+j)%18446744073709551616=s)(h4:Cp 154 [ae b,(vI (i:Int))] (vU l))(h5:((s:Nat)-(l:Nat):Int)%18446744073709551616=(d:Int))(h6:((d:Nat)-(g:Nat):Int)%18446744073709551616=(d1:Int))(h7:d1%4294967296=w.toNat)(h8:((c++[w]):Ws).length*4≤140737488355328)(h9:d1/2^(min 32 64)=z)(bQ:((1:Nat)-(z:Nat):Int)%18446744073709551616=(d2:Int))(cW:(i+1)<9223372036854775808)(hL:ar a b (c++[w]) d2 (i+1) r):ar a b c g i r :=
 lG 138 [1,1,1,1,1,1,1,6,1,1,1] [.a,.q,.t,.q,.aQ [.o,.o,(.pv (vU j)),iU s,.o,.o,(.pv (vU l)),iU d,.o,iU d1],.aQ [.o,.o,iW w,.o,(.app ((c++[w]):Ws).length (((c++[w]):Ws).map ai).flatten),.o,iU z,iU d2],.h 0 (iI (((i+1):Nat):Int)),.aH [0,1,5,6,10,11],.drop [27]] (A8 (ay h1) h2 (dm h3) h4 (da h5) (da h6) (cu h7) (gw bc (c:Ws) ([w]:Ws) 4 (Eq.refl (c:Ws).length) (Eq.refl ([w]:Ws).length) h8 rfl) (cG (k := .u64) h9) (da bQ) (aI cW)) hL
theorem dD(a b c:Ws)(d g:Nat)(i:Ws)(h1:a.length≤g)(h2:Cp 127 [ae c] (ae i)):ar a b c d g (ae i) :=
 lD 126 [1,3,1] [.a,.q,.f,.jM 5 ((c:Ws).map ai),.h 1 (.pv (ae i))] (y3 (az h1) (cq bc (c:Ws) (Eq.refl (c:Ws).length)) h2)
end fq
namespace mc
theorem e0(a:Ws)(i:Int)(k:Nat)(v:UInt32)(h1:i<(a.length:Int))(h2:i=(k:Int))(h3:a[k]? = some v):Cp 154 [ae a,vI i] (vU v.toNat) :=
 eD func154 84 [1,1,3,1] [.q,.h 2 (iI (a.length:Int)),.t,.aQ [.o,.o,(.row k (ai v)),.o,iU v.toNat]] (y4 (av ai a) (bf h1) (aL ai h2 h3) (my v))
theorem e1(a:Ws)(i:Int)(h1:(a.length:Int)≤i):Cp 154 [ae a,vI i] (vU 0) :=
 eD func154 87 [1,1] [.q,.h 2 (iI (a.length:Int)),.f,.q] (y2 (av ai a) (bp h1))
end mc
namespace lx
theorem e0(a:Ws)(b:Nat)(i:Int)(k:Nat)(v:UInt32)(h1:i<(b:Int))(h2:i=(k:Int))(h3:k<b)(h4:a[k]? = some v):aw a7 154 [(.row 100000 0 b 1),eI i] [(100000,(.pure ((a:Ws).map ai).flatten))] (.pv (vU v.toNat)) [(100000,(.pure ((a:Ws).map ai).flatten))] :=
 K8 func154 84 [1,2,1,1] [.q,.q,.t,.aQ [.o,.o,(.nat k),(.ev (.pv (vW v))),iU v.toNat],.ord [100000]] (y4 (bf h1) (cj h2 h3) (dz (enc:=ai) (f:=fun a=>(vW a)) (fun _=>rfl) h4) (my v))
theorem e1(a:Ws)(b:Nat)(i:Int)(h1:(b:Int)≤i):aw a7 154 [(.row 100000 0 b 1),eI i] [(100000,(.pure ((a:Ws).map ai).flatten))] (.pv (vU 0)) [(100000,(.pure ((a:Ws).map ai).flatten))] :=
 K8 func154 87 [1] [.q,.q,.f,.q,.ord [100000]] (y1 (bp h1))
end lx
namespace dL
@[reducible] def fn:Func:=Tryz.f176
def br:List dI:=focus [0,2,0,0,2,1,2,0,2,0,0,2,0,0] [.code (aA fn)]
def inv1(HZ:Int)(Q2:UInt32):St:=⟨[(3,(eI HZ)),(4,(eW Q2))],[]⟩
@[reducible] def ar(HZ:Int)(Q2:UInt32)(r:PV):Prop:=L a7 fn br (inv1 HZ Q2) r
theorem e0(a:Ws)(h1:a.length=0):Cp 176 [ae a] (vI 0) :=
 eD func176 84 [1,1] [.q,.h 1 (iI (a.length:Int)),.t,.q] (y2 (av ai a) (bd h1))
theorem e1(a:Ws)(k:Nat)(v:UInt32){r:PV}(h1:a.length≠0)(h2:aK ((a.length:Int)-1))(h3:aK (32*((a.length:Int)-1)))(h4:((a.length:Int)-1)=(k:Int))(h5:a[k]? = some v)(hL:ar (32*((a.length:Int)-1)) v r):Cp 176 [ae a] r :=
 eG func176 102 [1,1,1,1,1,1,1,3] [.q,.h 1 (iI (a.length:Int)),.f,.aQ [.o,(iI (a.length:Int)),(iI ((a.length:Int)-1)),(iI (32*((a.length:Int)-1)))],.aQ [.o,.o,(iI (a.length:Int)),(iI ((a.length:Int)-1)),(.row k (ai v))],.aH [3,4]] (y8 (av ai a) (aR h1) (av ai a) (bu h2) (Ma h3) (av ai a) (bu h2) (aL ai h4 h5)) hL
theorem dC(b:Int)(c z:UInt32){r:PV}(h1:0<c.toNat)(h2:aK (b+1))(h3:c.toNat/2^(min 1 32)=z.toNat)(hL:ar (b+1) z r):ar b c r :=
 lG 135 [1,1,1] [.a,.q,.t,.h 1 (iI (b+1)),.h 1 (iW z),.aH [3,4]] (y3 (ay h1) (jP h2) (kg (k := .u64) h3)) hL
theorem dD(b:Int)(c:UInt32)(h1:c.toNat≤0):ar b c (vI b) :=
 lD 135 [1] [.a,.q,.f,.q] (y1 (az h1))
end dL
end Go.Proofs.YtfjfekodeplcoaaGreat.Sym.Path
end
