/- Lemmas for the statements of this seat. -/
import Derived.Test.YtfjfekodeplcoaaGreatT0
noncomputable section
namespace Go.Proofs.YtfjfekodeplcoaaGreat.Sym.Path
open Go Tryz
set_option maxRecDepth 20000
set_option linter.unusedVariables false
namespace oQ
theorem e0(a b c:aC)(d:Int)(h1:Cp 88 [a.pv,b.pv] c.pv)(h2:Cp 48 [c.pv] (vI d)):Cp 44 [a.pv,b.pv] (vI d) :=
 eD func44 72 [1,1] [.q,.aR [.o,.o,(.pv c.pv),(.pv (vI d))]] (y2 h1 h2)
end oQ
namespace oR
theorem e0(a b:aC)(c d g:Ws)(i:aC)(h1:Cp 91 [a.pv] (aa c))(h2:Cp 91 [b.pv] (aa d))(h3:Cp 90 [aa c,aa d] (aa g))(h4:Cp 89 [vB false,aa g] i.pv):Cp 45 [a.pv,b.pv] i.pv :=
 eD func45 72 [1,1,1,1] [.q,dr 6 1 [.none,(.pv (aa c)),.none,(.pv (aa d)),(.pv (aa g)),(.pv i.pv)]] (y4 h1 h2 h3 h4)
end oR
namespace ig
theorem e0(a:aC)(b:Ws)(h1:Cp 91 [a.pv] (aa b))(h2:b.length=0):Cp 48 [a.pv] (vI 0) :=
 eD func48 84 [1,1,1] [.q,.aR [.o,(.pv (aa b)),(iI (b.length:Int))],.t,.q] (y3 h1 (ar af b) (br h2))
theorem e1(a:aC)(b:Ws)(c:Bool)(h1:Cp 91 [a.pv] (aa b))(h2:b.length≠0)(h3:Cp 92 [a.pv] (vB c))(h4:c=true):Cp 48 [a.pv] (vI (-1)) :=
 eD func48 99 [1,1,1,1,1] [.q,.aR [.o,(.pv (aa b)),(iI (b.length:Int))],.f,.h 1 (.pv (vB c)),.t,.q] (y5 h1 (ar af b) (aT h2) h3 h4)
theorem e2(a:aC)(b:Ws)(c:Bool)(h1:Cp 91 [a.pv] (aa b))(h2:b.length≠0)(h3:Cp 92 [a.pv] (vB c))(h4:c=false):Cp 48 [a.pv] (vI 1) :=
 eD func48 102 [1,1,1,1,1] [.q,.aR [.o,(.pv (aa b)),(iI (b.length:Int))],.f,.h 1 (.pv (vB c)),.f,.q] (y5 h1 (ar af b) (aT h2) h3 h4)
end ig
namespace l0
theorem e0(n:Int)(m m1:Nat)(w:UInt32)(z:Nat)(w1:UInt32)(a:aC)(h1:n%18446744073709551616=(m:Int))(h2:n<0)(h3:(0-(m:Int))%18446744073709551616=(m1:Int))(h4:m1%4294967296=w.toNat)(h5:m1/2^(min 32 64)=z)(h6:z%4294967296=w1.toNat)(h7:Cp 89 [(vB (decide (n<0))),(aa [w,w1])] a.pv):Cp 74 [vI n] a.pv :=
 eD func74 93 [1,1,1,1,1,1,3,1] [.q,.h 1 (iU m),.q,.t,.h 1 (iU m1),.aR [.o,.o,.o,iW w,.o,iU z,iW w1,(.rq 0 0 (([w,w1]:Ws).map af)),(.pv a.pv)]] (y8 (B0 h1) (bd h2) (zx h3) (cD h4) (cN (k := .u64) h5) (cD h6) (AL bm ([w,w1]:Ws)) h7)
theorem e1(n:Int)(m:Nat)(w:UInt32)(z:Nat)(w1:UInt32)(a:aC)(h1:n%18446744073709551616=(m:Int))(h2:0≤n)(h3:m%4294967296=w.toNat)(h4:m/2^(min 32 64)=z)(h5:z%4294967296=w1.toNat)(h6:Cp 89 [(vB (decide (n<0))),(aa [w,w1])] a.pv):Cp 74 [vI n] a.pv :=
 eD func74 93 [1,1,1,1,1,3,1] [.q,.h 1 (iU m),.q,.f,.aR [.o,.o,.o,iW w,.o,iU z,iW w1,(.rq 0 0 (([w,w1]:Ws).map af)),(.pv a.pv)]] (y7 (B0 h1) (ba h2) (cD h3) (cN (k := .u64) h4) (cD h5) (AL bm ([w,w1]:Ws)) h6)
end l0
namespace oS
theorem e0(a b c d:aC)(h1:Cp 115 [b.pv] c.pv)(h2:Cp 126 [a.pv,c.pv] d.pv):Cp 88 [a.pv,b.pv] d.pv :=
 eD func88 72 [1,1] [.q,dr 4 1 [.none,.none,(.pv c.pv),(.pv d.pv)]] (y2 h1 h2)
end oS
namespace ko
theorem e0(a:Bool)(m b:Ws)(h1:Cp 127 [aa m] (aa b))(h2:b.length=0):Cp 89 [vB a,aa m] ((⟨false,[]⟩:aC).pv) :=
 eD func89 90 [1,1,1] [.q,.h 1 (.pv (aa b)),.h 1 (iI (b.length:Int)),.t,.q] (y3 h1 (ar af b) (br h2))
theorem e1(a:Bool)(m b:Ws)(h1:Cp 127 [aa m] (aa b))(h2:b.length≠0):Cp 89 [vB a,aa m] ((⟨a,b⟩:aC).pv) :=
 eD func89 93 [1,1,1] [.q,.h 1 (.pv (aa b)),.h 1 (iI (b.length:Int)),.f,.q] (y3 h1 (ar af b) (aT h2))
end ko
namespace bh
@[reducible] def fn:Func:=Tryz.f90
def bM:List eh:=focus [0,2,0,2,0,0,2,1,2,0,0,2,1,2,0,2,0,0,0] [.code (az fn)]
def inv1(nZ n5 kp:Nat)(kq ie:List UInt32):St:=⟨[(0,(.row 7 0 nZ 1)),(1,(.row 9 0 n5 1)),(5,(eI (kp:Int)))],[(7,(.pure ((kq:List UInt32).map af).flatten)),(9,(.pure ((ie:List UInt32).map af).flatten))]⟩
@[reducible] def au(nZ n5 kp:Nat)(kq ie:List UInt32)(r:PV):Prop:=L bp fn bM (inv1 nZ n5 kp kq ie) r
def fw:List eh:=focus [0,2,0,2,0,0,2,1,2,0,0,2,1,2,0,2,0,0,0,0,0,0,2,1,2,2,2,2,0,0,0] [.code (az fn)]
def inv2(nZ n5 kp:Nat)(kq ie:List UInt32):St:=⟨[(0,(.row 7 0 nZ 1)),(1,(.row 9 0 n5 1)),(5,(eI (kp:Int)))],[(7,(.pure ((kq:List UInt32).map af).flatten)),(9,(.pure ((ie:List UInt32).map af).flatten))]⟩
@[reducible] def aM(nZ n5 kp:Nat)(kq ie:List UInt32)(r:PV):Prop:=L bp fn fw (inv2 nZ n5 kp kq ie) r
def B9:List eh:=focus [0,2,0,2,0,0,2,1,2,0,0,2,1,2,0,2,0,0,0,0,0,0,2,1,2,2,2,2,0,0,0,0,0,0,2,0,2,0,0,0,0] [.code (az fn)]
def Ca(nZ n5 kp:Nat)(kq ie:List UInt32):St:=⟨[(0,(.row 7 0 nZ 1)),(1,(.row 9 0 n5 1)),(5,(eI (kp:Int)))],[(7,(.pure ((kq:List UInt32).map af).flatten)),(9,(.pure ((ie:List UInt32).map af).flatten))]⟩
@[reducible] def fp(nZ n5 kp:Nat)(kq ie:List UInt32)(r:PV):Prop:=L bp fn B9 (Ca nZ n5 kp kq ie) r
def IU:List eh:=focus [0,2,0,2,0,0,2,1,2,0,0,2,1,2,0,2,0,0,0,0,0,0,2,1,2,2,2,2,0,0,0,0,0,0,2,1,2,2,2,2,0,0,2,0,0] [.code (az fn)]
def IV(L6:List UInt32)(Nr Ns:Nat):St:=⟨[(1,(.pv (aa L6))),(64,(eI (Nr:Int))),(65,(eI (Ns:Int)))],[]⟩
@[reducible] def kF(L6:List UInt32)(Nr Ns:Nat)(r:PV):Prop:=L bp fn IU (IV L6 Nr Ns) r
def Nt:List eh:=focus [0,2,0,2,0,0,2,1,2,0,0,2,1,2,0,2,0,0,0,0,0,0,2,1,2,2,2,2,0,0,0,0,0,0,2,0,2,0,0,0,0,0,0,0,2,1,2,2,2,2,0,0,0] [.code (az fn)]
def Nu(nZ n5 kp:Nat)(kq ie:List UInt32):St:=⟨[(0,(.row 7 0 nZ 1)),(1,(.row 9 0 n5 1)),(5,(eI (kp:Int)))],[(7,(.pure ((kq:List UInt32).map af).flatten)),(9,(.pure ((ie:List UInt32).map af).flatten))]⟩
@[reducible] def mz(nZ n5 kp:Nat)(kq ie:List UInt32)(r:PV):Prop:=L bp fn Nt (Nu nZ n5 kp kq ie) r
theorem e0(a b z:Ws)(n:Nat)(z1:Ws)(n1:Nat)(h1:av bp 127 [.pv (aa a)] [] (.row 0 0 n 1) [(0,(.pure ((z:Ws).map af).flatten))])(h2:av bp 127 [.pv (aa b)] [] (.row 0 0 n1 1) [(0,(.pure ((z1:Ws).map af).flatten))])(h3:n=0)(h4:n1=z1.length):Cp 90 [aa a,aa b] (aa z1) :=
 eD func90 90 [1,1,1,3] [.q,.aR [.o,(.bN [] (some (0,7)) (.row 0 0 n 1) [(0,(.pure ((z:Ws).map af).flatten))]),.o,(.bN [] (some (0,9)) (.row 0 0 n1 1) [(0,(.pure ((z1:Ws).map af).flatten))])],.q,.t,.q,.lK 4 ((z1:Ws).map af)] (y4 h1 h2 (br h3) (eM bm (z1:Ws) h4))
theorem e1(a b z:Ws)(n:Nat)(z1:Ws)(n1:Nat)(h1:av bp 127 [.pv (aa a)] [] (.row 0 0 n 1) [(0,(.pure ((z:Ws).map af).flatten))])(h2:av bp 127 [.pv (aa b)] [] (.row 0 0 n1 1) [(0,(.pure ((z1:Ws).map af).flatten))])(h3:n≠0)(h4:n1=0)(h5:n=z.length):Cp 90 [aa a,aa b] (aa z) :=
 eD func90 105 [1,1,1,1,3] [.q,.aR [.o,(.bN [] (some (0,7)) (.row 0 0 n 1) [(0,(.pure ((z:Ws).map af).flatten))]),.o,(.bN [] (some (0,9)) (.row 0 0 n1 1) [(0,(.pure ((z1:Ws).map af).flatten))])],.q,.f,.q,.t,.q,.lK 4 ((z:Ws).map af)] (y5 h1 h2 (aT h3) (br h4) (eM bm (z:Ws) h5))
theorem e2(a b z:Ws)(n:Nat)(z1:Ws)(n1:Nat){r:PV}(h1:av bp 127 [.pv (aa a)] [] (.row 0 0 n 1) [(0,(.pure ((z:Ws).map af).flatten))])(h2:av bp 127 [.pv (aa b)] [] (.row 0 0 n1 1) [(0,(.pure ((z1:Ws).map af).flatten))])(h3:n≠0)(h4:n1≠0)(hL:au n n1 0 z z1 r):Cp 90 [aa a,aa b] r :=
 eG func90 117 [1,1,1,1] [.q,.aR [.o,(.bN [] (some (0,7)) (.row 0 0 n 1) [(0,(.pure ((z:Ws).map af).flatten))]),.o,(.bN [] (some (0,9)) (.row 0 0 n1 1) [(0,(.pure ((z1:Ws).map af).flatten))])],.q,.f,.q,.f,.q,.aN [0,1,5],.ord [7,9]] (y4 h1 h2 (aT h3) (aT h4)) hL
theorem eo(b c d:Nat)(g i:Ws)(v z v1 z1:UInt32)(z2:Ws)(n:Nat)(z3:Ws)(n1:Nat){r:PV}(h1:0<b)(h2:g[0]? = some v)(h3:(v.toNat%4294967296) &&& (1%4294967296)=z.toNat)(h4:z.toNat=0)(h5:0<c)(h6:i[0]? = some v1)(h7:(v1.toNat%4294967296) &&& (1%4294967296)=z1.toNat)(h8:z1.toNat=0)(h9:av bp 128 [.row 100000 0 b 1] [(100000,(.pure ((g:Ws).map af).flatten))] (.row 100000 0 n 1) [(100000,(.pure ((z2:Ws).map af).flatten))])(bg:av bp 128 [.row 100000 0 c 1] [(100000,(.pure ((i:Ws).map af).flatten))] (.row 100000 0 n1 1) [(100000,(.pure ((z3:Ws).map af).flatten))])(cR:(d+1)<9223372036854775808)(hL:au n n1 (d+1) z2 z3 r):au b c d g i r :=
 lG 150 [2,1,1,1,1,2,1,1,1,1,1,1,1,1,1,1] [.a,.aR [.o,(.nat 0),(.ev (.pv (vW v))),iW z,.o,.o,.o,(.nat 0),(.ev (.pv (vW v1))),iW z1,.o,(.dec true)],.t,.aR [.o,(.bN [(7,100000)] none (.row 100000 0 n 1) [(100000,(.pure ((z2:Ws).map af).flatten))]),.o,(.bN [(9,100000)] none (.row 100000 0 n1 1) [(100000,(.pure ((z3:Ws).map af).flatten))])],.h 1 (iI (((d+1):Nat):Int)),.aN [0,1,5]] (Nl (cj (Eq.refl (0:Int)) h1) (fk (enc:=af) (f:=fun a=>(vW a)) (fun _=>rfl) h2) (fH h3) (br h4) (br h4) (cj (Eq.refl (0:Int)) h5) (br h4) (fk (enc:=af) (f:=fun a=>(vW a)) (fun _=>rfl) h6) (br h4) (fH h7) (br h4) (br h4) (br h8) h9 bg (aH cR)) hL
theorem ew(b c d:Nat)(g i:Ws)(v z v1 z1:UInt32){r:PV}(h1:0<b)(h2:g[0]? = some v)(h3:(v.toNat%4294967296) &&& (1%4294967296)=z.toNat)(h4:z.toNat=0)(h5:0<c)(h6:i[0]? = some v1)(h7:(v1.toNat%4294967296) &&& (1%4294967296)=z1.toNat)(h8:z1.toNat≠0)(hL:aM b c d g i r):au b c d g i r :=
 lG 153 [2,1,1,1,1,2,1,1,1,1,1,1,1] [.a,.aR [.o,(.nat 0),(.ev (.pv (vW v))),iW z,.o,.o,.o,(.nat 0),(.ev (.pv (vW v1))),iW z1,.o,(.dec true)],.f,.aN [0,1,5]] (LY (cj (Eq.refl (0:Int)) h1) (fk (enc:=af) (f:=fun a=>(vW a)) (fun _=>rfl) h2) (fH h3) (br h4) (br h4) (cj (Eq.refl (0:Int)) h5) (br h4) (fk (enc:=af) (f:=fun a=>(vW a)) (fun _=>rfl) h6) (br h4) (fH h7) (br h4) (br h4) (aT h8)) hL
theorem nr(b c d:Nat)(g i:Ws)(v z:UInt32){r:PV}(h1:0<b)(h2:g[0]? = some v)(h3:(v.toNat%4294967296) &&& (1%4294967296)=z.toNat)(h4:z.toNat≠0)(hL:aM b c d g i r):au b c d g i r :=
 lG 153 [2,1,1,1,1,1,1,1,1] [.a,.aR [.o,(.nat 0),(.ev (.pv (vW v))),iW z,.o,.o,.skip,.skip,.skip,.skip,.skip,(.dec false)],.a,.aN [0,1,5]] (y9 (cj (Eq.refl (0:Int)) h1) (fk (enc:=af) (f:=fun a=>(vW a)) (fun _=>rfl) h2) (fH h3) (aT h4) (aT h4) (aT h4) (aT h4) (aT h4) (aT h4)) hL
theorem mX(b c d:Nat)(g i:Ws){r:PV}(h1:0<b)(hL:fp b c d g i r):aM b c d g i r :=
 lG 183 [1] [.a,.q,.t,.aN [0,1,5]] (y1 (ax h1)) hL
theorem mY(b c d:Nat)(g i:Ws){r:PV}(h1:b≤0)(h2:c=i.length)(hL:kF i d 0 r):aM b c d g i r :=
 lG 195 [1,3] [.a,.q,.f,.q,.lK 1 ((i:Ws).map af),.aN [1,64,65],.drop [7]] (y2 (ay h1) (eM bm (i:Ws) h2)) hL
theorem KV(b c d:Nat)(g i:Ws)(v z:UInt32)(z1:Ws)(n:Nat){r:PV}(h1:0<b)(h2:g[0]? = some v)(h3:(v.toNat%4294967296) &&& (1%4294967296)=z.toNat)(h4:z.toNat=0)(h5:av bp 128 [.row 100000 0 b 1] [(100000,(.pure ((g:Ws).map af).flatten))] (.row 100000 0 n 1) [(100000,(.pure ((z1:Ws).map af).flatten))])(hL:fp n c d z1 i r):fp b c d g i r :=
 lG 210 [2,1,1,1,1] [.a,.aR [.o,(.nat 0),(.ev (.pv (vW v))),iW z],.t,.h 1 (.bN [(7,100000)] none (.row 100000 0 n 1) [(100000,(.pure ((z1:Ws).map af).flatten))]),.aN [0,1,5]] (y5 (cj (Eq.refl (0:Int)) h1) (fk (enc:=af) (f:=fun a=>(vW a)) (fun _=>rfl) h2) (fH h3) (br h4) h5) hL
theorem KW(b c d:Nat)(g i:Ws)(v z:UInt32){r:PV}(h1:0<b)(h2:g[0]? = some v)(h3:(v.toNat%4294967296) &&& (1%4294967296)=z.toNat)(h4:z.toNat≠0)(hL:mz b c d g i r):fp b c d g i r :=
 lG 219 [2,1,1,1] [.a,.aR [.o,(.nat 0),(.ev (.pv (vW v))),iW z],.f,.aN [0,1,5]] (y4 (cj (Eq.refl (0:Int)) h1) (fk (enc:=af) (f:=fun a=>(vW a)) (fun _=>rfl) h2) (fH h3) (aT h4)) hL
theorem PL(b:Ws)(c d:Nat)(g:Ws){r:PV}(h1:d<c)(h2:Cp 132 [aa b,aa b] (aa g))(h3:(d+1)<9223372036854775808)(hL:kF g c (d+1) r):kF b c d r :=
 lG 228 [1,1,1] [.a,.q,.t,.h 2 (.pv (aa g)),.h 0 (iI (((d+1):Nat):Int)),.aN [1,64,65]] (y3 (ax h1) h2 (aH h3)) hL
theorem PM(b:Ws)(c d:Nat)(h1:c≤d):kF b c d (aa b) :=
 lD 228 [1] [.a,.q,.f,.q] (y1 (ay h1))
theorem VS(b c d:Nat)(g i:Ws)(v z:UInt32)(z1:Ws)(n:Nat){r:PV}(h1:0<c)(h2:i[0]? = some v)(h3:(v.toNat%4294967296) &&& (1%4294967296)=z.toNat)(h4:z.toNat=0)(h5:av bp 128 [.row 100000 0 c 1] [(100000,(.pure ((i:Ws).map af).flatten))] (.row 100000 0 n 1) [(100000,(.pure ((z1:Ws).map af).flatten))])(hL:mz b n d g z1 r):mz b c d g i r :=
 lG 246 [2,1,1,1,1] [.a,.aR [.o,(.nat 0),(.ev (.pv (vW v))),iW z],.t,.h 1 (.bN [(9,100000)] none (.row 100000 0 n 1) [(100000,(.pure ((z1:Ws).map af).flatten))]),.aN [0,1,5]] (y5 (cj (Eq.refl (0:Int)) h1) (fk (enc:=af) (f:=fun a=>(vW a)) (fun _=>rfl) h2) (fH h3) (br h4) h5) hL
theorem VT(b c d:Nat)(g i:Ws)(v z:UInt32)(z1 z2:Ws)(j:Int)(z3 z4 z5:Ws)(n:Nat){r:PV}(h1:0<c)(h2:i[0]? = some v)(h3:(v.toNat%4294967296) &&& (1%4294967296)=z.toNat)(h4:z.toNat≠0)(h5:av bp 129 [.row 100000 0 b 1,.row 100001 0 c 1] [(100000,(.pure ((g:Ws).map af).flatten)),(100001,(.pure ((i:Ws).map af).flatten))] (.pv (vI j)) [(100000,(.pure ((z1:Ws).map af).flatten)),(100001,(.pure ((z2:Ws).map af).flatten))])(h6:j<0)(h7:av bp 130 [.row 100000 0 c 1,.row 100001 0 b 1] [(100000,(.pure ((z2:Ws).map af).flatten)),(100001,(.pure ((z1:Ws).map af).flatten))] (.pv (.bx [])) [(100000,(.pure ((z3:Ws).map af).flatten)),(100001,(.pure ((z4:Ws).map af).flatten))])(h8:av bp 131 [.row 100000 0 c 1] [(100000,(.pure ((z3:Ws).map af).flatten))] (.row 100000 0 n 1) [(100000,(.pure ((z5:Ws).map af).flatten))])(hL:aM n b d z5 z4 r):mz b c d g i r :=
 lG 273 [2,1,1,1,1,1,1,1] [.a,.aR [.o,(.nat 0),(.ev (.pv (vW v))),iW z],.f,.h 2 (.bN [(7,100000),(9,100001)] none (.pv (vI j)) [(100000,(.pure ((z1:Ws).map af).flatten)),(100001,(.pure ((z2:Ws).map af).flatten))]),.t,.q,.h 2 (.bN [(9,100000),(7,100001)] none (.pv (.bx [])) [(100000,(.pure ((z3:Ws).map af).flatten)),(100001,(.pure ((z4:Ws).map af).flatten))]),.h 1 (.bN [(9,100000)] none (.row 100000 0 n 1) [(100000,(.pure ((z5:Ws).map af).flatten))]),.aN [0,1,5],.EZ 9 71,.EZ 7 9,.EZ 71 7,.ord [7,9]] (y8 (cj (Eq.refl (0:Int)) h1) (fk (enc:=af) (f:=fun a=>(vW a)) (fun _=>rfl) h2) (fH h3) (aT h4) h5 (bd h6) h7 h8) hL
theorem Sm(b c d:Nat)(g i:Ws)(v z:UInt32)(z1 z2:Ws)(j:Int)(z3 z4 z5:Ws)(n:Nat){r:PV}(h1:0<c)(h2:i[0]? = some v)(h3:(v.toNat%4294967296) &&& (1%4294967296)=z.toNat)(h4:z.toNat≠0)(h5:av bp 129 [.row 100000 0 b 1,.row 100001 0 c 1] [(100000,(.pure ((g:Ws).map af).flatten)),(100001,(.pure ((i:Ws).map af).flatten))] (.pv (vI j)) [(100000,(.pure ((z1:Ws).map af).flatten)),(100001,(.pure ((z2:Ws).map af).flatten))])(h6:0≤j)(h7:av bp 130 [.row 100000 0 b 1,.row 100001 0 c 1] [(100000,(.pure ((z1:Ws).map af).flatten)),(100001,(.pure ((z2:Ws).map af).flatten))] (.pv (.bx [])) [(100000,(.pure ((z3:Ws).map af).flatten)),(100001,(.pure ((z4:Ws).map af).flatten))])(h8:av bp 131 [.row 100000 0 b 1] [(100000,(.pure ((z3:Ws).map af).flatten))] (.row 100000 0 n 1) [(100000,(.pure ((z5:Ws).map af).flatten))])(hL:aM n c d z5 z4 r):mz b c d g i r :=
 lG 273 [2,1,1,1,1,1,1,1] [.a,.aR [.o,(.nat 0),(.ev (.pv (vW v))),iW z],.f,.h 2 (.bN [(7,100000),(9,100001)] none (.pv (vI j)) [(100000,(.pure ((z1:Ws).map af).flatten)),(100001,(.pure ((z2:Ws).map af).flatten))]),.f,.h 2 (.bN [(7,100000),(9,100001)] none (.pv (.bx [])) [(100000,(.pure ((z3:Ws).map af).flatten)),(100001,(.pure ((z4:Ws).map af).flatten))]),.h 1 (.bN [(7,100000)] none (.row 100000 0 n 1) [(100000,(.pure ((z5:Ws).map af).flatten))]),.aN [0,1,5]] (y8 (cj (Eq.refl (0:Int)) h1) (fk (enc:=af) (f:=fun a=>(vW a)) (fun _=>rfl) h2) (fH h3) (aT h4) h5 (ba h6) h7 h8) hL
end bh
namespace ln
theorem e0(a:aC)(b:Bool)(h1:Cp 133 [a.pv] (vB b))(h2:b=false):Cp 91 [a.pv] (aa []) :=
 eD func91 84 [1,1] [.q,.h 1 (.pv (vB b)),.t,.q] (y2 h1 (aF h2))
theorem e1(a:aC)(b:Bool)(h1:Cp 133 [a.pv] (vB b))(h2:b=true):Cp 91 [a.pv] (aa a.cP) :=
 eD func91 87 [1,1] [.q,.h 1 (.pv (vB b)),.f,.q] (y2 h1 (ae h2))
end ln
namespace lr
theorem e0(a:aC)(b:Bool)(h1:Cp 133 [a.pv] (vB b))(h2:b=true):Cp 92 [a.pv] (vB a.neg) :=
 eD func92 72 [1,1,1,1] [.q,.aR [.o,(.pv (vB b)),.o,.o,.o,(.dec true)]] (y4 h1 h2 h2 h2)
theorem e1(a:aC)(b:Bool)(h1:Cp 133 [a.pv] (vB b))(h2:b=false):Cp 92 [a.pv] (vB false) :=
 eD func92 72 [1,1,1,1] [.q,.aR [.o,(.pv (vB b)),.o,.skip,.skip,(.dec false)]] (y4 h1 h2 h2 h2)
end lr
namespace oT
theorem e0(a b:aC)(c d:Bool)(g i j:Ws)(k:aC)(h1:Cp 92 [a.pv] (vB c))(h2:Cp 92 [b.pv] (vB d))(h3:Cp 91 [a.pv] (aa g))(h4:Cp 91 [b.pv] (aa i))(h5:Cp 134 [aa g,aa i] (aa j))(h6:Cp 89 [(vB (!(c==d))),aa j] k.pv):Cp 93 [a.pv,b.pv] k.pv :=
 eD func93 72 [1,1,1,1,1,1] [.q,dr 11 1 [.none,(.pv (vB c)),.none,(.pv (vB d)),.none,.none,(.pv (aa g)),.none,(.pv (aa i)),(.pv (aa j)),(.pv k.pv)]] (y6 h1 h2 h3 h4 h5 h6)
end oT
namespace oV
theorem e0(a:aC)(b:Bool)(c:Ws)(d:aC)(h1:Cp 92 [a.pv] (vB b))(h2:Cp 91 [a.pv] (aa c))(h3:Cp 89 [(vB (!b)),aa c] d.pv):Cp 115 [a.pv] d.pv :=
 eD func115 72 [1,1,1] [.q,dr 6 1 [.none,(.pv (vB b)),.none,.none,(.pv (aa c)),(.pv d.pv)]] (y3 h1 h2 h3)
end oV
namespace iX
@[reducible] def fn:Func:=Tryz.f116
theorem KX(a b:aC)(cP div PN:List UInt32)(neg:Bool)(Ug PO PQ:List UInt32):uX bp mr fn.ntmps (bA (focus [0,2,0,0,2,1,2,0,2,0,0,2,0] [.code (az fn)])) (lL (bA (focus [0,2,0,0,2,1,2,0,2,0,0,2,0] [.code (az fn)])) [0,5]) (jo (bA (focus [0,2,0,0,2,1,2,0,2,0,0,2,0] [.code (az fn)])) [0,5]) [.none,(.rq 0 0 (([(1:UInt32)]:List UInt32).map af)),(.pv (aa Ug)),.none,(.pv (aa PO)),.none,(.pv (aa PQ)),.none,.none] (Ar mr fn.ntmps (bA (focus [0,2,0,0,2,1,2,0,2,0,0,2,0] [.code (az fn)])) [0,5] ⟨[(2,(.ptr 2 0)),(3,(.ptr 3 0)),(4,(.ptr 4 0)),(5,(.ptr 5 0)),(7,(.pv (aa div))),(8,(.pv (aa PN)))],[(5,(.lit [(eB false),(.pv (.list []))])),(4,(.lit [(eB false),(.pv (.list []))])),(3,(.lit [(eB b.neg),(.pv (aa b.cP))])),(2,(.lit [(eB a.neg),(.pv (aa a.cP))]))]⟩)=uY bp mr fn.ntmps (bA (focus [0,2,0,0,2,1,2,0,2,0,0,2,0] [.code (az fn)])) (lL (bA (focus [0,2,0,0,2,1,2,0,2,0,0,2,0] [.code (az fn)])) [0,5]) (jo (bA (focus [0,2,0,0,2,1,2,0,2,0,0,2,0] [.code (az fn)])) [0,5]) [.none,(.rq 0 0 (([(1:UInt32)]:List UInt32).map af)),(.pv (aa Ug)),.none,(.pv (aa PO)),.none,(.pv (aa PQ)),.none,.none] (Ar mr fn.ntmps (bA (focus [0,2,0,0,2,1,2,0,2,0,0,2,0] [.code (az fn)])) [0,5] ⟨[(2,(.ptr 2 0)),(3,(.ptr 3 0)),(4,(.ptr 4 0)),(5,(.ptr 5 0)),(7,(.pv (aa div))),(8,(.pv (aa PN)))],[(5,(.lit [(eB false),(.pv (.list []))])),(4,(.lit [(eB false),(.pv (.list []))])),(3,(.lit [(eB b.neg),(.pv (aa b.cP))])),(2,(.lit [(eB a.neg),(.pv (aa a.cP))]))]⟩):=by kernel_rfl
theorem e1(a b:aC)(c:Int)(d g i j:Ws)(k:Bool)(l m n:Ws)(p s:Bool)(u v:aC)(h1:Cp 48 [b.pv] (vI c))(h2:c≠0)(h3:Cp 91 [a.pv] (aa d))(h4:Cp 91 [b.pv] (aa g))(h5:Cp 145 [aa d,aa g] (.bx [aa i,aa j]))(h6:Cp 92 [a.pv] (vB k))(h7:k=true)(h8:0<j.length)(h9:Cp 132 [aa i,(aa [(1:UInt32)])] (aa l))(bg:Cp 91 [b.pv] (aa m))(cR:Cp 146 [aa m,aa j] (aa n))(cw:Cp 92 [a.pv] (vB p))(cu:Cp 92 [b.pv] (vB s))(dZ:Cp 89 [(vB (!(p==s))),aa l] u.pv)(ej:Cp 89 [vB false,aa n] v.pv):Cp 116 [a.pv,b.pv] (.bx [u.pv,v.pv,vI 0]) :=
 eD func116 108 [1,1,1,1,1,1,1,1,1,1,1,1,3,1,1,1,1,1,1,1,1] [.q,.h 1 (.pv (vI c)),.f,dr 9 1 [.none,(.pv (aa d)),.none,(.pv (aa g)),(.pv (.bx [aa i,aa j]))],.aR [.o,(.pv (vB k)),.o,.o,(iI (j.length:Int)),.o,(.dec true)],.t,.aN [2,3,4,5,7,8],.any [0,5] [.none,(.rq 0 0 (([(1:UInt32)]:Ws).map af)),(.pv (aa l)),.none,(.pv (aa m)),.none,(.pv (aa n)),.none,.none],dr 9 3 [.none,(.pv (vB p)),.none,(.pv (vB s)),.none,.none,(.pv u.pv),.none,(.pv v.pv)]] (Se h1 (bP h2) h3 h4 h5 h6 h7 h7 (ar af j) h7 h7 (ax h8) (AL bm ([(1:UInt32)]:Ws)) h9 bg cR (KX a b d i j k l m n) cw cu dZ ej)
theorem e2(a b:aC)(c:Int)(d g i j:Ws)(k l m:Bool)(n p:aC)(h1:Cp 48 [b.pv] (vI c))(h2:c≠0)(h3:Cp 91 [a.pv] (aa d))(h4:Cp 91 [b.pv] (aa g))(h5:Cp 145 [aa d,aa g] (.bx [aa i,aa j]))(h6:Cp 92 [a.pv] (vB k))(h7:k=true)(h8:j.length≤0)(h9:Cp 92 [a.pv] (vB l))(bg:Cp 92 [b.pv] (vB m))(cR:Cp 89 [(vB (!(l==m))),aa i] n.pv)(cw:Cp 89 [vB false,aa j] p.pv):Cp 116 [a.pv,b.pv] (.bx [n.pv,p.pv,vI 0]) :=
 eD func116 108 [1,1,1,1,1,1,1,1,1,1,1,1,1,1,1,1] [.q,.h 1 (.pv (vI c)),.f,dr 9 1 [.none,(.pv (aa d)),.none,(.pv (aa g)),(.pv (.bx [aa i,aa j]))],.aR [.o,(.pv (vB k)),.o,.o,(iI (j.length:Int)),.o,(.dec true)],.f,dr 9 3 [.none,(.pv (vB l)),.none,(.pv (vB m)),.none,.none,(.pv n.pv),.none,(.pv p.pv)]] (Nl h1 (bP h2) h3 h4 h5 h6 h7 h7 (ar af j) h7 h7 (ay h8) h9 bg cR cw)
theorem e3(a b:aC)(c:Int)(d g i j:Ws)(k l m:Bool)(n p:aC)(h1:Cp 48 [b.pv] (vI c))(h2:c≠0)(h3:Cp 91 [a.pv] (aa d))(h4:Cp 91 [b.pv] (aa g))(h5:Cp 145 [aa d,aa g] (.bx [aa i,aa j]))(h6:Cp 92 [a.pv] (vB k))(h7:k=false)(h8:Cp 92 [a.pv] (vB l))(h9:Cp 92 [b.pv] (vB m))(bg:Cp 89 [(vB (!(l==m))),aa i] n.pv)(cR:Cp 89 [vB false,aa j] p.pv):Cp 116 [a.pv,b.pv] (.bx [n.pv,p.pv,vI 0]) :=
 eD func116 108 [1,1,1,1,1,1,1,1,1,1,1,1,1,1] [.q,.h 1 (.pv (vI c)),.f,dr 9 1 [.none,(.pv (aa d)),.none,(.pv (aa g)),(.pv (.bx [aa i,aa j]))],.aR [.o,(.pv (vB k)),.o,.skip,.skip,.skip,(.dec false)],.a,dr 9 3 [.none,(.pv (vB l)),.none,(.pv (vB m)),.none,.none,(.pv n.pv),.none,(.pv p.pv)]] (G9 h1 (bP h2) h3 h4 h5 h6 h7 h7 h7 h7 h8 h9 bg cR)
end iX
namespace iY
theorem e0(a b:aC)(c d:Ws)(g i j:Bool)(k:Ws)(l:aC)(h1:Cp 91 [a.pv] (aa c))(h2:Cp 91 [b.pv] (aa d))(h3:Cp 92 [a.pv] (vB g))(h4:Cp 92 [b.pv] (vB i))(h5:g=i)(h6:Cp 92 [a.pv] (vB j))(h7:Cp 132 [aa c,aa d] (aa k))(h8:Cp 89 [vB j,aa k] l.pv):Cp 126 [a.pv,b.pv] l.pv :=
 eD func126 90 [1,1,1,1,1,1,1,1] [.q,dr 4 2 [.none,(.pv (aa c)),.none,(.pv (aa d))],dr 5 0 [.none,(.pv (vB g)),.none,(.pv (vB i))],.t,.aR [.o,(.pv (vB j)),.o,.o,(.pv (aa k)),(.pv l.pv)]] (y8 h1 h2 h3 h4 (oL h5) h6 h7 h8)
theorem e1(a b:aC)(c d:Ws)(g i:Bool)(j:Int)(k:Bool)(l:Ws)(m:aC)(h1:Cp 91 [a.pv] (aa c))(h2:Cp 91 [b.pv] (aa d))(h3:Cp 92 [a.pv] (vB g))(h4:Cp 92 [b.pv] (vB i))(h5:g≠i)(h6:Cp 129 [aa c,aa d] (vI j))(h7:0≤j)(h8:Cp 92 [a.pv] (vB k))(h9:Cp 146 [aa c,aa d] (aa l))(bg:Cp 89 [vB k,aa l] m.pv):Cp 126 [a.pv,b.pv] m.pv :=
 eD func126 105 [1,1,1,1,1,1,1,1,1,1] [.q,dr 4 2 [.none,(.pv (aa c)),.none,(.pv (aa d))],dr 5 0 [.none,(.pv (vB g)),.none,(.pv (vB i))],.f,.h 2 (.pv (vI j)),.t,.aR [.o,(.pv (vB k)),.o,.o,(.pv (aa l)),(.pv m.pv)]] (CM h1 h2 h3 h4 (tn h5) h6 (dz h7) h8 h9 bg)
theorem e2(a b:aC)(c d:Ws)(g i:Bool)(j:Int)(k:Bool)(l:Ws)(m:aC)(h1:Cp 91 [a.pv] (aa c))(h2:Cp 91 [b.pv] (aa d))(h3:Cp 92 [a.pv] (vB g))(h4:Cp 92 [b.pv] (vB i))(h5:g≠i)(h6:Cp 129 [aa c,aa d] (vI j))(h7:j<0)(h8:Cp 92 [b.pv] (vB k))(h9:Cp 146 [aa d,aa c] (aa l))(bg:Cp 89 [vB k,aa l] m.pv):Cp 126 [a.pv,b.pv] m.pv :=
 eD func126 108 [1,1,1,1,1,1,1,1,1,1] [.q,dr 4 2 [.none,(.pv (aa c)),.none,(.pv (aa d))],dr 5 0 [.none,(.pv (vB g)),.none,(.pv (vB i))],.f,.h 2 (.pv (vI j)),.f,.aR [.o,(.pv (vB k)),.o,.o,(.pv (aa l)),(.pv m.pv)]] (CM h1 h2 h3 h4 (tn h5) h6 (eL h7) h8 h9 bg)
end iY
namespace eJ
@[reducible] def fn:Func:=Tryz.f127
def bM:List eh:=focus [0,2,0,2,0,0,0] [.code (az fn)]
def inv1(qH:List UInt32):St:=⟨[(3,(.row 6 0 qH.length 1))],[(6,(.pure ((qH:List UInt32).map af).flatten))]⟩
@[reducible] def au(qH:List UInt32)(r:PV):Prop:=L bp fn bM (inv1 qH) r
theorem e0(a:Ws){r:PV}(h1:(([]:Ws)++a:Ws).length*4≤140737488355328)(hL:au a r):Cp 127 [aa a] r :=
 eG func127 81 [6] [.q,.h 2 (.app (a:Ws).length ((a:Ws).map af).flatten),.aN [3]] (y1 (rX bm ([]:Ws) (a:Ws) 4 (Eq.refl ([]:Ws).length) h1 rfl)) hL
theorem eo(b:Ws)(k:Nat)(v:UInt32)(u:Nat){r:PV}(h1:0<b.length)(h2:aO ((b.length:Int)-1))(h3:((b.length:Int)-1)=(k:Int))(h4:k<b.length)(h5:b[k]? = some v)(h6:v.toNat=0)(h7:((b.length:Int)-1)=(u:Int))(h8:u≤(b:Ws).length)(hL:au (b.take u) r):au b r :=
 lG 108 [1,1,1,1,1,1,2,1,1,1,1,1,1,5,1] [.a,.aR [.o,.o,.o,.o,.o,.o,.o,(iI ((b.length:Int)-1)),(.nat k),(.ev (.pv (vW v))),.o,(.dec true)],.t,.aR [.o,.o,.o,(iI ((b.length:Int)-1)),(.rq 0 ((b.take u).length) [])],.cut 6 (u*1) (((b.take u):Ws).map af).flatten,.aN [3]] (LZ (ax h1) (ax h1) (ax h1) (ax h1) (bS h2) (ax h1) (cj h3 h4) (ax h1) (fk (enc:=af) (f:=fun a=>(vW a)) (fun _=>rfl) h5) (ax h1) (ax h1) (br h6) (bS h2) (LU (b:Ws) h7 h8) (Bd bm (b:Ws) u)) hL
theorem ew(b:Ws)(k:Nat)(v:UInt32)(h1:0<b.length)(h2:aO ((b.length:Int)-1))(h3:((b.length:Int)-1)=(k:Int))(h4:k<b.length)(h5:b[k]? = some v)(h6:v.toNat≠0):au b (aa b) :=
 lD 114 [1,1,1,1,1,1,2,1,1,1,1,1,3] [.a,.aR [.o,.o,.o,.o,.o,.o,.o,(iI ((b.length:Int)-1)),(.nat k),(.ev (.pv (vW v))),.o,(.dec true)],.f,.q,.lK 2 ((b:Ws).map af)] (LY (ax h1) (ax h1) (ax h1) (ax h1) (bS h2) (ax h1) (cj h3 h4) (ax h1) (fk (enc:=af) (f:=fun a=>(vW a)) (fun _=>rfl) h5) (ax h1) (ax h1) (aT h6) (eM bm (b:Ws) (Eq.refl (b:Ws).length)))
theorem nr(b:Ws)(h1:b.length≤0):au b (aa b) :=
 lD 114 [1,1,1,1,1,1,1,1,3] [.a,.aR [.o,.o,.o,.o,.skip,.skip,.skip,.skip,.skip,.skip,.skip,(.dec false)],.a,.q,.lK 2 ((b:Ws).map af)] (y9 (ay h1) (ay h1) (ay h1) (ay h1) (ay h1) (ay h1) (ay h1) (ay h1) (eM bm (b:Ws) (Eq.refl (b:Ws).length)))
end eJ
namespace en
@[reducible] def fn:Func:=Tryz.f127
def bM:List eh:=focus [0,2,0,2,0,0,0] [.code (az fn)]
def inv1(qH:List UInt32):St:=⟨[(3,(.row 6 0 qH.length 1))],[(6,(.pure ((qH:List UInt32).map af).flatten))]⟩
@[reducible] def au(qH:List UInt32)(sin:aG)(r:EV)(sout:aG):Prop:=LX bp fn bM (inv1 qH) sin r sout
theorem e0(a:Ws){r:EV}{sout:aG}(h1:(([]:Ws)++a:Ws).length*4≤140737488355328)(hL:au a [] r sout):av bp 127 [(.pv (aa a))] [] r sout :=
 AM func127 81 [6] [.q,.h 2 (.app (a:Ws).length ((a:Ws).map af).flatten),.aN [3]] (y1 (rX bm ([]:Ws) (a:Ws) 4 (Eq.refl ([]:Ws).length) h1 rfl)) hL
theorem eo(b:Ws)(k:Nat)(v:UInt32)(u:Nat){r:EV}{sout:aG}{sin:aG}(hs:sin.all (fun p=>Nat.ble fn.ntmps p.1)=true)(h1:0<b.length)(h2:aO ((b.length:Int)-1))(h3:((b.length:Int)-1)=(k:Int))(h4:k<b.length)(h5:b[k]? = some v)(h6:v.toNat=0)(h7:((b.length:Int)-1)=(u:Int))(h8:u≤(b:Ws).length)(hL:au (b.take u) sin r sout):au b sin r sout :=
 xQ 108 [1,1,1,1,1,1,2,1,1,1,1,1,1,5,1] [.a,.aR [.o,.o,.o,.o,.o,.o,.o,(iI ((b.length:Int)-1)),(.nat k),(.ev (.pv (vW v))),.o,(.dec true)],.t,.aR [.o,.o,.o,(iI ((b.length:Int)-1)),(.rq 0 ((b.take u).length) [])],.cut 6 (u*1) (((b.take u):Ws).map af).flatten,.aN [3]] hs (LZ (ax h1) (ax h1) (ax h1) (ax h1) (bS h2) (ax h1) (cj h3 h4) (ax h1) (fk (enc:=af) (f:=fun a=>(vW a)) (fun _=>rfl) h5) (ax h1) (ax h1) (br h6) (bS h2) (LU (b:Ws) h7 h8) (Bd bm (b:Ws) u)) hL
theorem ew(b:Ws)(k:Nat)(v:UInt32){sin:aG}(hs:sin.all (fun p=>Nat.ble fn.ntmps p.1)=true)(hi:sin.all (fun p=>pN p.1||(aG.get [(0,(.pure ((b:Ws).map af).flatten))] p.1).isSome)=true)(h1:0<b.length)(h2:aO ((b.length:Int)-1))(h3:((b.length:Int)-1)=(k:Int))(h4:k<b.length)(h5:b[k]? = some v)(h6:v.toNat≠0):au b sin (.row 0 0 b.length 1) [(0,(.pure ((b:Ws).map af).flatten))] :=
 wv 114 [1,1,1,1,1,1,2,1,1,1,1,1] [.a,.aR [.o,.o,.o,.o,.o,.o,.o,(iI ((b.length:Int)-1)),(.nat k),(.ev (.pv (vW v))),.o,(.dec true)],.f,.q,.EZ 6 0,.ord [0]] hs hi (Ki (ax h1) (ax h1) (ax h1) (ax h1) (bS h2) (ax h1) (cj h3 h4) (ax h1) (fk (enc:=af) (f:=fun a=>(vW a)) (fun _=>rfl) h5) (ax h1) (ax h1) (aT h6))
theorem nr(b:Ws){sin:aG}(hs:sin.all (fun p=>Nat.ble fn.ntmps p.1)=true)(hi:sin.all (fun p=>pN p.1||(aG.get [(0,(.pure ((b:Ws).map af).flatten))] p.1).isSome)=true)(h1:b.length≤0):au b sin (.row 0 0 b.length 1) [(0,(.pure ((b:Ws).map af).flatten))] :=
 wv 114 [1,1,1,1,1,1,1,1] [.a,.aR [.o,.o,.o,.o,.skip,.skip,.skip,.skip,.skip,.skip,.skip,(.dec false)],.a,.q,.EZ 6 0,.ord [0]] hs hi (y8 (ay h1) (ay h1) (ay h1) (ay h1) (ay h1) (ay h1) (ay h1) (ay h1))
end en
namespace fq
@[reducible] def fn:Func:=Tryz.f128
def bM:List eh:=focus [0,2,0,0,2,0,0] [.code (az fn)]
def inv1(len Sn:Nat)(aL:List UInt32):St:=⟨[(0,(.row 100000 0 len 1)),(5,(eI (len:Int))),(6,(eI (Sn:Int)))],[(100000,(.pure ((aL:List UInt32).map af).flatten))]⟩
@[reducible] def au(len Sn:Nat)(aL:List UInt32)(sin:aG)(r:EV)(sout:aG):Prop:=LX bp fn bM (inv1 len Sn aL) sin r sout
theorem e0 (a : Ws) (b : Nat) {r : EV} {sout : aG}  (hL : au b 0 a [(100000, (.pure ((a : Ws).map af).flatten))] r sout) : av bp 128 [(.row 100000 0 b 1)] [(100000, (.pure ((a : Ws).map af).flatten))] r sout :=
 AM func128 81 [] [.q,.q,.aN [0,5,6]] True.intro hL
theorem eo(b c:Nat)(d z:Ws)(g z1:Nat)(z2:Ws)(i z3 z4:Nat)(w:UInt32){r:EV}{sout:aG}{sin:aG}(hs:sin.all (fun p=>Nat.ble fn.ntmps p.1)=true)(h1:c<b)(h2:av bp 154 [.row 100000 0 b 1,.pv (vI (c:Int))] [(100000,(.pure ((d:Ws).map af).flatten))] (.pv (vU g)) [(100000,(.pure ((z:Ws).map af).flatten))])(h3:g/2^(min 1 64)=z1)(h4:(c+1)<9223372036854775808)(h5:av bp 154 [.row 100000 0 b 1,.pv (vI (((c+1):Nat):Int))] [(100000,(.pure ((z:Ws).map af).flatten))] (.pv (vU i)) [(100000,(.pure ((z2:Ws).map af).flatten))])(h6:(i*2^(min 31 64))%18446744073709551616=z3)(h7:(z1%18446744073709551616) ||| (z3%18446744073709551616)=z4)(h8:z4%4294967296=w.toNat)(h9:c<z2.length)(hL:au b (c+1) (z2.set c w) sin r sout):au b c d sin r sout :=
 xQ 120 [1,1,1,1,1,1,1,1,2,2,1] [.a,.q,.t,.q,.aR [.o,.o,.o,.o,(.bN [(100000,100000)] none (.pv (vU g)) [(100000,(.pure ((z:Ws).map af).flatten))]),iU z1,.o,.o,(iI (((c+1):Nat):Int)),(.bN [(100000,100000)] none (.pv (vU i)) [(100000,(.pure ((z2:Ws).map af).flatten))]),iU z3,iU z4,iW w,(.nat c),(.cells (.pure (((z2.set c w):Ws).map af).flatten))],.h 0 (iI (((c+1):Nat):Int)),.aN [0,5,6]] hs (Fb (ax h1) h2 (cN (k := .u64) h3) (aH h4) h5 (gZ (k := .u64) h6) (lX h7) (cD h8) (cj (Eq.refl (((c:Nat):Int):Int)) h1) (fO bm (z2:Ws) w h9) (aH h4)) hL
theorem ew(b c:Nat)(d z:Ws)(n:Nat){sin:aG}(hs:sin.all (fun p=>Nat.ble fn.ntmps p.1)=true)(hi:sin.all (fun p=>pN p.1||(aG.get [(100000,(.pure (((z.take n):Ws).map af).flatten))] p.1).isSome)=true)(h1:b≤c)(h2:av bp 131 [.row 100000 0 b 1] [(100000,(.pure ((d:Ws).map af).flatten))] (.row 100000 0 n 1) [(100000,(.pure ((z:Ws).map af).flatten))]):au b c d sin (.row 100000 0 n 1) [(100000,(.pure (((z.take n):Ws).map af).flatten))] :=
 wv 114 [1,1,1] [.a,.q,.f,.h 1 (.bN [(100000,100000)] none (.row 100000 0 n 1) [(100000,(.pure ((z:Ws).map af).flatten))]),.cut 100000 (n*1) (((z.take n):Ws).map af).flatten,.ord [100000]] hs hi (y3 (ay h1) h2 (Bd bm (z:Ws) n))
end fq
namespace cV
@[reducible] def fn:Func:=Tryz.f129
def bM:List eh:=focus [0,2,0,0,2,0,0] [.code (az fn)]
def inv1(a b:List UInt32)(tV:Int):St:=⟨[(0,(.pv (aa a))),(1,(.pv (aa b))),(5,(eI tV))],[]⟩
@[reducible] def au(a b:List UInt32)(tV:Int)(r:PV):Prop:=L bp fn bM (inv1 a b tV) r
theorem e0(a b:Ws){r:PV}(h1:aO ((((max a.length b.length):Nat):Int)-1))(hL:au a b ((((max a.length b.length):Nat):Int)-1) r):Cp 129 [aa a,aa b] r :=
 eG func129 81 [1,1,1,1] [.q,.aR [.o,(iI (a.length:Int)),.o,(iI (b.length:Int)),(iI (((max a.length b.length):Nat):Int)),(iI ((((max a.length b.length):Nat):Int)-1))],.aN [0,1,5]] (y4 (ar af a) (ar af b) (zD a.length b.length) (bS h1)) hL
theorem eo(a b:Ws)(c:Int)(d g i j:Nat)(h1:0≤c)(h2:Cp 154 [aa a,vI c] (vU d))(h3:Cp 154 [aa b,vI c] (vU g))(h4:d≠g)(h5:Cp 154 [aa a,vI c] (vU i))(h6:Cp 154 [aa b,vI c] (vU j))(h7:i<j):au a b c (vI (-1)) :=
 lD 132 [1,1,1,1,1,1,1] [.a,.q,.t,.aR [.o,.o,(.pv (vU d)),.o,.o,(.pv (vU g))],.t,.aR [.o,.o,(.pv (vU i)),.o,.o,(.pv (vU j))],.t,.q] (y7 (dz h1) h2 h3 (aI h4) h5 h6 (ax h7))
theorem ew(a b:Ws)(c:Int)(d g i j:Nat)(h1:0≤c)(h2:Cp 154 [aa a,vI c] (vU d))(h3:Cp 154 [aa b,vI c] (vU g))(h4:d≠g)(h5:Cp 154 [aa a,vI c] (vU i))(h6:Cp 154 [aa b,vI c] (vU j))(h7:j≤i):au a b c (vI 1) :=
 lD 135 [1,1,1,1,1,1,1] [.a,.q,.t,.aR [.o,.o,(.pv (vU d)),.o,.o,(.pv (vU g))],.t,.aR [.o,.o,(.pv (vU i)),.o,.o,(.pv (vU j))],.f,.q] (y7 (dz h1) h2 h3 (aI h4) h5 h6 (ay h7))
theorem nr(a b:Ws)(c:Int)(d g:Nat){r:PV}(h1:0≤c)(h2:Cp 154 [aa a,vI c] (vU d))(h3:Cp 154 [aa b,vI c] (vU g))(h4:d=g)(h5:aO (c-1))(hL:au a b (c-1) r):au a b c r :=
 lG 123 [1,1,1,1,1] [.a,.q,.t,.aR [.o,.o,(.pv (vU d)),.o,.o,(.pv (vU g))],.f,.h 1 (iI (c-1)),.aN [0,1,5]] (y5 (dz h1) h2 h3 (b8 h4) (bS h5)) hL
theorem Bf(a b:Ws)(c:Int)(h1:c<0):au a b c (vI 0) :=
 lD 114 [1] [.a,.q,.f,.q] (y1 (eL h1))
end cV
namespace cO
@[reducible] def fn:Func:=Tryz.f129
def bM:List eh:=focus [0,2,0,0,2,0,0] [.code (az fn)]
def inv1(len:Nat)(b:List UInt32)(tV:Int)(aL:List UInt32):St:=⟨[(0,(.row 100000 0 len 1)),(1,(.pv (aa b))),(5,(eI tV))],[(100000,(.pure ((aL:List UInt32).map af).flatten))]⟩
@[reducible] def au(len:Nat)(b:List UInt32)(tV:Int)(aL:List UInt32)(sin:aG)(r:EV)(sout:aG):Prop:=LX bp fn bM (inv1 len b tV aL) sin r sout
theorem e0(a:Ws)(c:Nat)(b:Ws){r:EV}{sout:aG}(h1:aO ((((max c b.length):Nat):Int)-1))(hL:au c b ((((max c b.length):Nat):Int)-1) a [(100000,(.pure ((a:Ws).map af).flatten))] r sout):av bp 129 [(.row 100000 0 c 1),(.pv (aa b))] [(100000,(.pure ((a:Ws).map af).flatten))] r sout :=
 AM func129 81 [1,1,1] [.q,.aR [.o,.o,.o,(iI (b.length:Int)),(iI (((max c b.length):Nat):Int)),(iI ((((max c b.length):Nat):Int)-1))],.aN [0,1,5]] (y3 (ar af b) (zD c b.length) (bS h1)) hL
theorem eo(c:Nat)(b:Ws)(d:Int)(g z:Ws)(i j:Nat)(z1:Ws)(k l:Nat){sin:aG}(hs:sin.all (fun p=>Nat.ble fn.ntmps p.1)=true)(hi:sin.all (fun p=>pN p.1||(aG.get [(100000,(.pure ((z1:Ws).map af).flatten))] p.1).isSome)=true)(h1:0≤d)(h2:av bp 154 [.row 100000 0 c 1,.pv (vI d)] [(100000,(.pure ((g:Ws).map af).flatten))] (.pv (vU i)) [(100000,(.pure ((z:Ws).map af).flatten))])(h3:Cp 154 [aa b,vI d] (vU j))(h4:i≠j)(h5:av bp 154 [.row 100000 0 c 1,.pv (vI d)] [(100000,(.pure ((z:Ws).map af).flatten))] (.pv (vU k)) [(100000,(.pure ((z1:Ws).map af).flatten))])(h6:Cp 154 [aa b,vI d] (vU l))(h7:k<l):au c b d g sin (.pv (vI (-1))) [(100000,(.pure ((z1:Ws).map af).flatten))] :=
 wv 132 [1,1,1,1,1,1,1] [.a,.q,.t,.aR [.o,.o,(.bN [(100000,100000)] none (.pv (vU i)) [(100000,(.pure ((z:Ws).map af).flatten))]),.o,.o,(.pv (vU j))],.t,.aR [.o,.o,(.bN [(100000,100000)] none (.pv (vU k)) [(100000,(.pure ((z1:Ws).map af).flatten))]),.o,.o,(.pv (vU l))],.t,.q,.ord [100000]] hs hi (y7 (dz h1) h2 h3 (aI h4) h5 h6 (ax h7))
theorem ew(c:Nat)(b:Ws)(d:Int)(g z:Ws)(i j:Nat)(z1:Ws)(k l:Nat){sin:aG}(hs:sin.all (fun p=>Nat.ble fn.ntmps p.1)=true)(hi:sin.all (fun p=>pN p.1||(aG.get [(100000,(.pure ((z1:Ws).map af).flatten))] p.1).isSome)=true)(h1:0≤d)(h2:av bp 154 [.row 100000 0 c 1,.pv (vI d)] [(100000,(.pure ((g:Ws).map af).flatten))] (.pv (vU i)) [(100000,(.pure ((z:Ws).map af).flatten))])(h3:Cp 154 [aa b,vI d] (vU j))(h4:i≠j)(h5:av bp 154 [.row 100000 0 c 1,.pv (vI d)] [(100000,(.pure ((z:Ws).map af).flatten))] (.pv (vU k)) [(100000,(.pure ((z1:Ws).map af).flatten))])(h6:Cp 154 [aa b,vI d] (vU l))(h7:l≤k):au c b d g sin (.pv (vI 1)) [(100000,(.pure ((z1:Ws).map af).flatten))] :=
 wv 135 [1,1,1,1,1,1,1] [.a,.q,.t,.aR [.o,.o,(.bN [(100000,100000)] none (.pv (vU i)) [(100000,(.pure ((z:Ws).map af).flatten))]),.o,.o,(.pv (vU j))],.t,.aR [.o,.o,(.bN [(100000,100000)] none (.pv (vU k)) [(100000,(.pure ((z1:Ws).map af).flatten))]),.o,.o,(.pv (vU l))],.f,.q,.ord [100000]] hs hi (y7 (dz h1) h2 h3 (aI h4) h5 h6 (ay h7))
theorem nr(c:Nat)(b:Ws)(d:Int)(g z:Ws)(i j:Nat){r:EV}{sout:aG}{sin:aG}(hs:sin.all (fun p=>Nat.ble fn.ntmps p.1)=true)(h1:0≤d)(h2:av bp 154 [.row 100000 0 c 1,.pv (vI d)] [(100000,(.pure ((g:Ws).map af).flatten))] (.pv (vU i)) [(100000,(.pure ((z:Ws).map af).flatten))])(h3:Cp 154 [aa b,vI d] (vU j))(h4:i=j)(h5:aO (d-1))(hL:au c b (d-1) z sin r sout):au c b d g sin r sout :=
 xQ 123 [1,1,1,1,1] [.a,.q,.t,.aR [.o,.o,(.bN [(100000,100000)] none (.pv (vU i)) [(100000,(.pure ((z:Ws).map af).flatten))]),.o,.o,(.pv (vU j))],.f,.h 1 (iI (d-1)),.aN [0,1,5]] hs (y5 (dz h1) h2 h3 (b8 h4) (bS h5)) hL
theorem Bf(c:Nat)(b:Ws)(d:Int)(g:Ws){sin:aG}(hs:sin.all (fun p=>Nat.ble fn.ntmps p.1)=true)(hi:sin.all (fun p=>pN p.1||(aG.get [(100000,(.pure ((g:Ws).map af).flatten))] p.1).isSome)=true)(h1:d<0):au c b d g sin (.pv (vI 0)) [(100000,(.pure ((g:Ws).map af).flatten))] :=
 wv 114 [1] [.a,.q,.f,.q,.ord [100000]] hs hi (y1 (eL h1))
end cO
namespace cH
@[reducible] def fn:Func:=Tryz.f129
def bM:List eh:=focus [0,2,0,0,2,0,0] [.code (az fn)]
def inv1(len n9:Nat)(tV:Int)(aL jv:List UInt32):St:=⟨[(0,(.row 100000 0 len 1)),(1,(.row 100001 0 n9 1)),(5,(eI tV))],[(100000,(.pure ((aL:List UInt32).map af).flatten)),(100001,(.pure ((jv:List UInt32).map af).flatten))]⟩
@[reducible] def au(len n9:Nat)(tV:Int)(aL jv:List UInt32)(sin:aG)(r:EV)(sout:aG):Prop:=LX bp fn bM (inv1 len n9 tV aL jv) sin r sout
theorem e0(a:Ws)(c:Nat)(b:Ws)(d:Nat){r:EV}{sout:aG}(h1:aO ((((max c d):Nat):Int)-1))(hL:au c d ((((max c d):Nat):Int)-1) a b [(100000,(.pure ((a:Ws).map af).flatten)),(100001,(.pure ((b:Ws).map af).flatten))] r sout):av bp 129 [(.row 100000 0 c 1),(.row 100001 0 d 1)] [(100000,(.pure ((a:Ws).map af).flatten)),(100001,(.pure ((b:Ws).map af).flatten))] r sout :=
 AM func129 81 [1,1] [.q,.aR [.o,.o,.o,.o,(iI (((max c d):Nat):Int)),(iI ((((max c d):Nat):Int)-1))],.aN [0,1,5]] (y2 (zD c d) (bS h1)) hL
theorem eo(b c:Nat)(d:Int)(g i z:Ws)(j:Nat)(z1:Ws)(k:Nat)(z2:Ws)(l:Nat)(z3:Ws)(m:Nat){sin:aG}(hs:sin.all (fun p=>Nat.ble fn.ntmps p.1)=true)(hi:sin.all (fun p=>pN p.1||(aG.get [(100000,(.pure ((z2:Ws).map af).flatten)),(100001,(.pure ((z3:Ws).map af).flatten))] p.1).isSome)=true)(h1:0≤d)(h2:av bp 154 [.row 100000 0 b 1,.pv (vI d)] [(100000,(.pure ((g:Ws).map af).flatten))] (.pv (vU j)) [(100000,(.pure ((z:Ws).map af).flatten))])(h3:av bp 154 [.row 100000 0 c 1,.pv (vI d)] [(100000,(.pure ((i:Ws).map af).flatten))] (.pv (vU k)) [(100000,(.pure ((z1:Ws).map af).flatten))])(h4:j≠k)(h5:av bp 154 [.row 100000 0 b 1,.pv (vI d)] [(100000,(.pure ((z:Ws).map af).flatten))] (.pv (vU l)) [(100000,(.pure ((z2:Ws).map af).flatten))])(h6:av bp 154 [.row 100000 0 c 1,.pv (vI d)] [(100000,(.pure ((z1:Ws).map af).flatten))] (.pv (vU m)) [(100000,(.pure ((z3:Ws).map af).flatten))])(h7:l<m):au b c d g i sin (.pv (vI (-1))) [(100000,(.pure ((z2:Ws).map af).flatten)),(100001,(.pure ((z3:Ws).map af).flatten))] :=
 wv 132 [1,1,1,1,1,1,1] [.a,.q,.t,.aR [.o,.o,(.bN [(100000,100000)] none (.pv (vU j)) [(100000,(.pure ((z:Ws).map af).flatten))]),.o,.o,(.bN [(100001,100000)] none (.pv (vU k)) [(100000,(.pure ((z1:Ws).map af).flatten))])],.t,.aR [.o,.o,(.bN [(100000,100000)] none (.pv (vU l)) [(100000,(.pure ((z2:Ws).map af).flatten))]),.o,.o,(.bN [(100001,100000)] none (.pv (vU m)) [(100000,(.pure ((z3:Ws).map af).flatten))])],.t,.q,.ord [100000,100001]] hs hi (y7 (dz h1) h2 h3 (aI h4) h5 h6 (ax h7))
theorem ew(b c:Nat)(d:Int)(g i z:Ws)(j:Nat)(z1:Ws)(k:Nat)(z2:Ws)(l:Nat)(z3:Ws)(m:Nat){sin:aG}(hs:sin.all (fun p=>Nat.ble fn.ntmps p.1)=true)(hi:sin.all (fun p=>pN p.1||(aG.get [(100000,(.pure ((z2:Ws).map af).flatten)),(100001,(.pure ((z3:Ws).map af).flatten))] p.1).isSome)=true)(h1:0≤d)(h2:av bp 154 [.row 100000 0 b 1,.pv (vI d)] [(100000,(.pure ((g:Ws).map af).flatten))] (.pv (vU j)) [(100000,(.pure ((z:Ws).map af).flatten))])(h3:av bp 154 [.row 100000 0 c 1,.pv (vI d)] [(100000,(.pure ((i:Ws).map af).flatten))] (.pv (vU k)) [(100000,(.pure ((z1:Ws).map af).flatten))])(h4:j≠k)(h5:av bp 154 [.row 100000 0 b 1,.pv (vI d)] [(100000,(.pure ((z:Ws).map af).flatten))] (.pv (vU l)) [(100000,(.pure ((z2:Ws).map af).flatten))])(h6:av bp 154 [.row 100000 0 c 1,.pv (vI d)] [(100000,(.pure ((z1:Ws).map af).flatten))] (.pv (vU m)) [(100000,(.pure ((z3:Ws).map af).flatten))])(h7:m≤l):au b c d g i sin (.pv (vI 1)) [(100000,(.pure ((z2:Ws).map af).flatten)),(100001,(.pure ((z3:Ws).map af).flatten))] :=
 wv 135 [1,1,1,1,1,1,1] [.a,.q,.t,.aR [.o,.o,(.bN [(100000,100000)] none (.pv (vU j)) [(100000,(.pure ((z:Ws).map af).flatten))]),.o,.o,(.bN [(100001,100000)] none (.pv (vU k)) [(100000,(.pure ((z1:Ws).map af).flatten))])],.t,.aR [.o,.o,(.bN [(100000,100000)] none (.pv (vU l)) [(100000,(.pure ((z2:Ws).map af).flatten))]),.o,.o,(.bN [(100001,100000)] none (.pv (vU m)) [(100000,(.pure ((z3:Ws).map af).flatten))])],.f,.q,.ord [100000,100001]] hs hi (y7 (dz h1) h2 h3 (aI h4) h5 h6 (ay h7))
theorem nr(b c:Nat)(d:Int)(g i z:Ws)(j:Nat)(z1:Ws)(k:Nat){r:EV}{sout:aG}{sin:aG}(hs:sin.all (fun p=>Nat.ble fn.ntmps p.1)=true)(h1:0≤d)(h2:av bp 154 [.row 100000 0 b 1,.pv (vI d)] [(100000,(.pure ((g:Ws).map af).flatten))] (.pv (vU j)) [(100000,(.pure ((z:Ws).map af).flatten))])(h3:av bp 154 [.row 100000 0 c 1,.pv (vI d)] [(100000,(.pure ((i:Ws).map af).flatten))] (.pv (vU k)) [(100000,(.pure ((z1:Ws).map af).flatten))])(h4:j=k)(h5:aO (d-1))(hL:au b c (d-1) z z1 sin r sout):au b c d g i sin r sout :=
 xQ 123 [1,1,1,1,1] [.a,.q,.t,.aR [.o,.o,(.bN [(100000,100000)] none (.pv (vU j)) [(100000,(.pure ((z:Ws).map af).flatten))]),.o,.o,(.bN [(100001,100000)] none (.pv (vU k)) [(100000,(.pure ((z1:Ws).map af).flatten))])],.f,.h 1 (iI (d-1)),.aN [0,1,5]] hs (y5 (dz h1) h2 h3 (b8 h4) (bS h5)) hL
theorem Bf(b c:Nat)(d:Int)(g i:Ws){sin:aG}(hs:sin.all (fun p=>Nat.ble fn.ntmps p.1)=true)(hi:sin.all (fun p=>pN p.1||(aG.get [(100000,(.pure ((g:Ws).map af).flatten)),(100001,(.pure ((i:Ws).map af).flatten))] p.1).isSome)=true)(h1:d<0):au b c d g i sin (.pv (vI 0)) [(100000,(.pure ((g:Ws).map af).flatten)),(100001,(.pure ((i:Ws).map af).flatten))] :=
 wv 114 [1] [.a,.q,.f,.q,.ord [100000,100001]] hs hi (y1 (eL h1))
end cH
namespace fJ
@[reducible] def fn:Func:=Tryz.f130
def bM:List eh:=focus [0,2,0,2,0,0] [.code (az fn)]
def inv1(len:Nat)(b:List UInt32)(oa Nv:Nat)(aL:List UInt32):St:=⟨[(0,(.row 100000 0 len 1)),(1,(.pv (aa b))),(4,(eU oa)),(8,(eI (len:Int))),(9,(eI (Nv:Int)))],[(100000,(.pure ((aL:List UInt32).map af).flatten))]⟩
@[reducible] def au(len:Nat)(b:List UInt32)(oa Nv:Nat)(aL:List UInt32)(sin:aG)(r:EV)(sout:aG):Prop:=LX bp fn bM (inv1 len b oa Nv aL) sin r sout
theorem e0 (a : Ws) (c : Nat) (b : Ws) {r : EV} {sout : aG}  (hL : au c b 0 0 a [(100000, (.pure ((a : Ws).map af).flatten))] r sout) : av bp 130 [(.row 100000 0 c 1), (.pv (aa b))] [(100000, (.pure ((a : Ws).map af).flatten))] r sout :=
 AM func130 78 [] [.q,.q,.aN [0,1,4,8,9]] True.intro hL
theorem eo(c:Nat)(b:Ws)(g i:Nat)(j z:Ws)(l s m d d1:Nat)(w:UInt32)(z1 d2:Nat){r:EV}{sout:aG}{sin:aG}(hs:sin.all (fun p=>Nat.ble fn.ntmps p.1)=true)(h1:i<c)(h2:av bp 154 [.row 100000 0 c 1,.pv (vI (i:Int))] [(100000,(.pure ((j:Ws).map af).flatten))] (.pv (vU l)) [(100000,(.pure ((z:Ws).map af).flatten))])(h3:(4294967296+l)%18446744073709551616=s)(h4:Cp 154 [aa b,(vI (i:Int))] (vU m))(h5:((s:Nat)-(m:Nat):Int)%18446744073709551616=(d:Int))(h6:((d:Nat)-(g:Nat):Int)%18446744073709551616=(d1:Int))(h7:d1%4294967296=w.toNat)(h8:d1/2^(min 32 64)=z1)(h9:((1:Nat)-(z1:Nat):Int)%18446744073709551616=(d2:Int))(bg:i<z.length)(cR:(i+1)<9223372036854775808)(hL:au c b d2 (i+1) (z.set i w) sin r sout):au c b g i j sin r sout :=
 xQ 123 [1,1,1,1,1,1,1,1,1,2,2,1] [.a,.q,.t,.q,.aR [.o,.o,(.bN [(100000,100000)] none (.pv (vU l)) [(100000,(.pure ((z:Ws).map af).flatten))]),iU s,.o,.o,(.pv (vU m)),iU d,.o,iU d1],.aR [.o,.o,.o,iW w,.o,iU z1,iU d2,(.nat i),(.cells (.pure (((z.set i w):Ws).map af).flatten))],.h 0 (iI (((i+1):Nat):Int)),.aN [0,1,4,8,9]] hs (Ki (ax h1) h2 (dp h3) h4 (da h5) (da h6) (cD h7) (cN (k := .u64) h8) (da h9) (cj (Eq.refl (((i:Nat):Int):Int)) h1) (fO bm (z:Ws) w bg) (aH cR)) hL
theorem ew(c:Nat)(b:Ws)(d g:Nat)(i:Ws){sin:aG}(hs:sin.all (fun p=>Nat.ble fn.ntmps p.1)=true)(hi:sin.all (fun p=>pN p.1||(aG.get [(100000,(.pure ((i:Ws).map af).flatten))] p.1).isSome)=true)(h1:c≤g):au c b d g i sin (.pv (.bx [])) [(100000,(.pure ((i:Ws).map af).flatten))] :=
 wv 105 [1] [.a,.q,.f,.ord [100000]] hs hi (y1 (ay h1))
end fJ
namespace ft
@[reducible] def fn:Func:=Tryz.f130
def bM:List eh:=focus [0,2,0,2,0,0] [.code (az fn)]
def inv1(len n9 oa Nv:Nat)(aL jv:List UInt32):St:=⟨[(0,(.row 100000 0 len 1)),(1,(.row 100001 0 n9 1)),(4,(eU oa)),(8,(eI (len:Int))),(9,(eI (Nv:Int)))],[(100000,(.pure ((aL:List UInt32).map af).flatten)),(100001,(.pure ((jv:List UInt32).map af).flatten))]⟩
@[reducible] def au(len n9 oa Nv:Nat)(aL jv:List UInt32)(sin:aG)(r:EV)(sout:aG):Prop:=LX bp fn bM (inv1 len n9 oa Nv aL jv) sin r sout
theorem e0 (a : Ws) (c : Nat) (b : Ws) (d : Nat) {r : EV} {sout : aG}  (hL : au c d 0 0 a b [(100000, (.pure ((a : Ws).map af).flatten)), (100001, (.pure ((b : Ws).map af).flatten))] r sout) : av bp 130 [(.row 100000 0 c 1), (.row 100001 0 d 1)] [(100000, (.pure ((a : Ws).map af).flatten)), (100001, (.pure ((b : Ws).map af).flatten))] r sout :=
 AM func130 78 [] [.q,.q,.aN [0,1,4,8,9]] True.intro hL
theorem eo(b c g i:Nat)(j l z:Ws)(m s:Nat)(z1:Ws)(n d d1:Nat)(w:UInt32)(z2 d2:Nat){r:EV}{sout:aG}{sin:aG}(hs:sin.all (fun p=>Nat.ble fn.ntmps p.1)=true)(h1:i<b)(h2:av bp 154 [.row 100000 0 b 1,.pv (vI (i:Int))] [(100000,(.pure ((j:Ws).map af).flatten))] (.pv (vU m)) [(100000,(.pure ((z:Ws).map af).flatten))])(h3:(4294967296+m)%18446744073709551616=s)(h4:av bp 154 [.row 100000 0 c 1,.pv (vI (i:Int))] [(100000,(.pure ((l:Ws).map af).flatten))] (.pv (vU n)) [(100000,(.pure ((z1:Ws).map af).flatten))])(h5:((s:Nat)-(n:Nat):Int)%18446744073709551616=(d:Int))(h6:((d:Nat)-(g:Nat):Int)%18446744073709551616=(d1:Int))(h7:d1%4294967296=w.toNat)(h8:d1/2^(min 32 64)=z2)(h9:((1:Nat)-(z2:Nat):Int)%18446744073709551616=(d2:Int))(bg:i<z.length)(cR:(i+1)<9223372036854775808)(hL:au b c d2 (i+1) (z.set i w) z1 sin r sout):au b c g i j l sin r sout :=
 xQ 123 [1,1,1,1,1,1,1,1,1,2,2,1] [.a,.q,.t,.q,.aR [.o,.o,(.bN [(100000,100000)] none (.pv (vU m)) [(100000,(.pure ((z:Ws).map af).flatten))]),iU s,.o,.o,(.bN [(100001,100000)] none (.pv (vU n)) [(100000,(.pure ((z1:Ws).map af).flatten))]),iU d,.o,iU d1],.aR [.o,.o,.o,iW w,.o,iU z2,iU d2,(.nat i),(.cells (.pure (((z.set i w):Ws).map af).flatten))],.h 0 (iI (((i+1):Nat):Int)),.aN [0,1,4,8,9]] hs (Ki (ax h1) h2 (dp h3) h4 (da h5) (da h6) (cD h7) (cN (k := .u64) h8) (da h9) (cj (Eq.refl (((i:Nat):Int):Int)) h1) (fO bm (z:Ws) w bg) (aH cR)) hL
theorem ew(b c d g:Nat)(i j:Ws){sin:aG}(hs:sin.all (fun p=>Nat.ble fn.ntmps p.1)=true)(hi:sin.all (fun p=>pN p.1||(aG.get [(100000,(.pure ((i:Ws).map af).flatten)),(100001,(.pure ((j:Ws).map af).flatten))] p.1).isSome)=true)(h1:b≤g):au b c d g i j sin (.pv (.bx [])) [(100000,(.pure ((i:Ws).map af).flatten)),(100001,(.pure ((j:Ws).map af).flatten))] :=
 wv 105 [1] [.a,.q,.f,.ord [100000,100001]] hs hi (y1 (ay h1))
end ft
namespace fe
@[reducible] def fn:Func:=Tryz.f131
def bM:List eh:=focus [0,2,0,0,0] [.code (az fn)]
def inv1(tZ:Nat)(a:List UInt32):St:=⟨[(0,(.row 100000 0 tZ 1))],[(100000,(.pure ((a:List UInt32).map af).flatten))]⟩
@[reducible] def au(tZ:Nat)(a:List UInt32)(sin:aG)(r:EV)(sout:aG):Prop:=LX bp fn bM (inv1 tZ a) sin r sout
theorem e0 (a : Ws) (b : Nat) {r : EV} {sout : aG}  (hL : au b a [(100000, (.pure ((a : Ws).map af).flatten))] r sout) : av bp 131 [(.row 100000 0 b 1)] [(100000, (.pure ((a : Ws).map af).flatten))] r sout :=
 AM func131 75 [] [.q,.aN [0]] True.intro hL
theorem eo(b:Nat)(a:Ws)(k:Nat)(v:UInt32)(u:Nat){r:EV}{sout:aG}{sin:aG}(hs:sin.all (fun p=>Nat.ble fn.ntmps p.1)=true)(h1:0<b)(h2:aO ((b:Int)-1))(h3:((b:Int)-1)=(k:Int))(h4:k<b)(h5:a[k]? = some v)(h6:v.toNat=0)(h7:((b:Int)-1)=(u:Int))(h8:u≤b)(hL:au u a sin r sout):au b a sin r sout :=
 xQ 102 [1,1,1,1,1,1,2,1,1,1,1,1,1,5] [.a,.aR [.o,.o,.o,.o,.o,.o,.o,(iI ((b:Int)-1)),(.nat k),(.ev (.pv (vW v))),.o,(.dec true)],.t,.aR [.o,.o,.o,(iI ((b:Int)-1)),(.rq 0 u [])],.aN [0]] hs (G9 (ax h1) (ax h1) (ax h1) (ax h1) (bS h2) (ax h1) (cj h3 h4) (ax h1) (fk (enc:=af) (f:=fun a=>(vW a)) (fun _=>rfl) h5) (ax h1) (ax h1) (br h6) (bS h2) (Nh (Eq.refl (0:Int)) h7 (Or.inl (Eq.refl 0)) (Nat.zero_le u) h8)) hL
theorem ew(b:Nat)(a:Ws)(k:Nat)(v:UInt32){sin:aG}(hs:sin.all (fun p=>Nat.ble fn.ntmps p.1)=true)(hi:sin.all (fun p=>pN p.1||(aG.get [(100000,(.pure (((a.take b):Ws).map af).flatten))] p.1).isSome)=true)(h1:0<b)(h2:aO ((b:Int)-1))(h3:((b:Int)-1)=(k:Int))(h4:k<b)(h5:a[k]? = some v)(h6:v.toNat≠0):au b a sin (.row 100000 0 b 1) [(100000,(.pure (((a.take b):Ws).map af).flatten))] :=
 wv 108 [1,1,1,1,1,1,2,1,1,1,1,1,1] [.a,.aR [.o,.o,.o,.o,.o,.o,.o,(iI ((b:Int)-1)),(.nat k),(.ev (.pv (vW v))),.o,(.dec true)],.f,.q,.cut 100000 (b*1) (((a.take b):Ws).map af).flatten,.ord [100000]] hs hi (LY (ax h1) (ax h1) (ax h1) (ax h1) (bS h2) (ax h1) (cj h3 h4) (ax h1) (fk (enc:=af) (f:=fun a=>(vW a)) (fun _=>rfl) h5) (ax h1) (ax h1) (aT h6) (Bd bm (a:Ws) b))
theorem nr(b:Nat)(a:Ws){sin:aG}(hs:sin.all (fun p=>Nat.ble fn.ntmps p.1)=true)(hi:sin.all (fun p=>pN p.1||(aG.get [(100000,(.pure (((a.take b):Ws).map af).flatten))] p.1).isSome)=true)(h1:b≤0):au b a sin (.row 100000 0 b 1) [(100000,(.pure (((a.take b):Ws).map af).flatten))] :=
 wv 108 [1,1,1,1,1,1,1,1,1] [.a,.aR [.o,.o,.o,.o,.skip,.skip,.skip,.skip,.skip,.skip,.skip,(.dec false)],.a,.q,.cut 100000 (b*1) (((a.take b):Ws).map af).flatten,.ord [100000]] hs hi (y9 (ay h1) (ay h1) (ay h1) (ay h1) (ay h1) (ay h1) (ay h1) (ay h1) (Bd bm (a:Ws) b))
end fe
namespace fK
@[reducible] def fn:Func:=Tryz.f132
def bM:List eh:=focus [0,2,0,2,0,2,0,0,2,0,0] [.code (az fn)]
def inv1(a b ya:List UInt32)(qC tY:Nat):St:=⟨[(0,(.pv (aa a))),(1,(.pv (aa b))),(5,(.row 31 0 ya.length 1)),(6,(eU qC)),(14,(eI ((((max a.length b.length)+1):Nat):Int))),(15,(eI (tY:Int)))],[(31,(.pure ((ya:List UInt32).map af).flatten))]⟩
@[reducible] def au(a b ya:List UInt32)(qC tY:Nat)(r:PV):Prop:=L bp fn bM (inv1 a b ya qC tY) r
theorem e0(a b:Ws){r:PV}(h1:((max a.length b.length)+1)<9223372036854775808)(hL:au a b [] 0 0 r):Cp 132 [aa a,aa b] r :=
 eG func132 93 [1,1,1,1] [.q,.h 0 .nil,.tj 5 31 1,.q,.aR [.o,(iI (a.length:Int)),.o,(iI (b.length:Int)),(iI (((max a.length b.length):Nat):Int)),(iI ((((max a.length b.length)+1):Nat):Int))],.aN [0,1,5,6,14,15]] (y4 (ar af a) (ar af b) (zD a.length b.length) (aH h1)) hL
theorem eo(a b c:Ws)(d g i j s s1:Nat)(w:UInt32)(z:Nat){r:PV}(h1:g<((max a.length b.length)+1))(h2:Cp 154 [aa a,(vI (g:Int))] (vU i))(h3:Cp 154 [aa b,(vI (g:Int))] (vU j))(h4:(i+j)%18446744073709551616=s)(h5:(s+d)%18446744073709551616=s1)(h6:s1%4294967296=w.toNat)(h7:((c++[w]):Ws).length*4≤140737488355328)(h8:s1/2^(min 32 64)=z)(h9:(g+1)<9223372036854775808)(hL:au a b (c++[w]) z (g+1) r):au a b c d g r :=
 lG 138 [1,1,1,1,1,1,6,1,1] [.a,.q,.t,.q,.aR [.o,.o,(.pv (vU i)),.o,.o,(.pv (vU j)),iU s,.o,iU s1],.aR [.o,.o,iW w,.o,(.app ((c++[w]):Ws).length (((c++[w]):Ws).map af).flatten),.o,iU z],.h 0 (iI (((g+1):Nat):Int)),.aN [0,1,5,6,14,15],.drop [30]] (y9 (ax h1) h2 h3 (dp h4) (dp h5) (cD h6) (pr bm (c:Ws) ([w]:Ws) 4 (Eq.refl (c:Ws).length) (Eq.refl ([w]:Ws).length) h7 rfl) (cN (k := .u64) h8) (aH h9)) hL
theorem ew(a b c:Ws)(d g:Nat)(i:Ws)(h1:((max a.length b.length)+1)≤g)(h2:Cp 127 [aa c] (aa i)):au a b c d g (aa i) :=
 lD 126 [1,3,1] [.a,.q,.f,.lK 5 ((c:Ws).map af),.h 1 (.pv (aa i))] (y3 (ay h1) (eM bm (c:Ws) (Eq.refl (c:Ws).length)) h2)
end fK
namespace jW
theorem e0(a:aC)(h1:a.cP.length=0):Cp 133 [a.pv] (vB (!a.neg)) :=
 eD func133 84 [1,1] [.q,.h 2 (iI (a.cP.length:Int)),.t,.q] (y2 (ar af a.cP) (br h1))
theorem e1(a:aC)(k:Nat)(v:UInt32)(h1:a.cP.length≠0)(h2:aO ((a.cP.length:Int)-1))(h3:((a.cP.length:Int)-1)=(k:Int))(h4:a.cP[k]? = some v):Cp 133 [a.pv] (vB ((v.toNat:Int) != 0)) :=
 eD func133 87 [1,1,1,1,3] [.q,.h 2 (iI (a.cP.length:Int)),.f,.aR [.o,.o,.o,.o,(iI (a.cP.length:Int)),(iI ((a.cP.length:Int)-1)),(.row k (af v))]] (y5 (ar af a.cP) (aT h1) (ar af a.cP) (bS h2) (aY af h3 h4))
end jW
namespace cE
@[reducible] def fn:Func:=Tryz.f134
def bM:List eh:=focus [0,2,0,2,0,0,2,0,0] [.code (az fn)]
def inv1(a b:List UInt32)(Fj:Nat)(qI:List UInt32):St:=⟨[(0,(.pv (aa a))),(1,(.pv (aa b))),(5,(.row 15 0 (a.length+b.length) 1)),(17,(eI (a.length:Int))),(18,(eI (Fj:Int)))],[(15,(.pure ((qI:List UInt32).map af).flatten))]⟩
@[reducible] def au(a b:List UInt32)(Fj:Nat)(qI:List UInt32)(r:PV):Prop:=L bp fn bM (inv1 a b Fj qI) r
def fw:List eh:=focus [0,2,0,2,0,0,2,0,0,0,0,2,0,0,2,0,0,0,2,0,2,0,0,2,0,0] [.code (az fn)]
def inv2(a b:List UInt32)(xd qE Fj Nx:Nat)(qI:List UInt32):St:=⟨[(0,(.pv (aa a))),(1,(.pv (aa b))),(5,(.row 15 0 (a.length+b.length) 1)),(6,(eI (xd:Int))),(7,(eU qE)),(17,(eI (a.length:Int))),(18,(eI (Fj:Int))),(22,(eI (b.length:Int))),(23,(eI (Nx:Int)))],[(15,(.pure ((qI:List UInt32).map af).flatten))]⟩
@[reducible] def aM(a b:List UInt32)(xd qE Fj Nx:Nat)(qI:List UInt32)(r:PV):Prop:=L bp fn fw (inv2 a b xd qE Fj Nx qI) r
theorem e0(a b:Ws){r:PV}(h1:(a.length+b.length)<9223372036854775808)(h2:4*(a.length+b.length)≤140737488355328)(hL:au a b 0 (List.replicate (a.length+b.length) (0:UInt32)) r):Cp 134 [aa a,aa b] r :=
 eG func134 87 [1,1,1,5,1] [.q,.aR [.o,(iI (a.length:Int)),.o,(iI (b.length:Int)),(iI (((a.length+b.length):Nat):Int)),(.app (a.length+b.length) ((List.replicate (a.length+b.length) (0:UInt32):Ws).map af).flatten)],.h 1 (iI (a.length:Int)),.aN [0,1,5,17,18]] (y5 (ar af a) (ar af b) (aH h1) (sX af 0 4 (a.length+b.length) (Eq.refl ((((a.length+b.length):Nat):Int):Int)) h2 rfl) (ar af a)) hL
theorem eo(a b:Ws)(c:Nat)(d:Ws){r:PV}(h1:c<a.length)(hL:aM a b c 0 c 0 d r):au a b c d r :=
 lG 138 [1,1] [.a,.q,.t,.q,.q,.h 1 (iI (b.length:Int)),.aN [0,1,5,6,7,17,18,22,23]] (y2 (ax h1) (ar af b)) hL
theorem ew(a b:Ws)(c:Nat)(d g:Ws)(h1:a.length≤c)(h2:(a.length+b.length)=d.length)(h3:Cp 127 [aa d] (aa g)):au a b c d (aa g) :=
 lD 120 [1,3,1] [.a,.q,.f,.lK 5 ((d:Ws).map af),.h 1 (.pv (aa g))] (y3 (ay h1) (eM bm (d:Ws) h2) h3)
theorem mX(a b:Ws)(c d g i:Nat)(j:Ws)(v v1:UInt32)(p:Nat)(v2:UInt32)(s s1:Nat)(w:UInt32)(z:Nat){r:PV}(h1:i<b.length)(h2:a[c]? = some v)(h3:b[i]? = some v1)(h4:(v.toNat*v1.toNat)%18446744073709551616=p)(h5:(c+i)<9223372036854775808)(h6:(c+i)<(a.length+b.length))(h7:j[(c+i)]? = some v2)(h8:(p+v2.toNat)%18446744073709551616=s)(h9:(s+d)%18446744073709551616=s1)(bg:s1%4294967296=w.toNat)(cR:s1/2^(min 32 64)=z)(cw:(c+i)<j.length)(cu:(i+1)<9223372036854775808)(hL:aM a b c z g (i+1) (j.set (c+i) w) r):aM a b c d g i j r :=
 lG 183 [1,3,1,3,1,1,1,2,1,1,1,1,1,1,1,2,2,1] [.a,.q,.t,.q,dr 21 1 [.none,.none,(.row c (af v)),.none,iU v.toNat,.none,.none,(.row i (af v1)),.none,iU v1.toNat,iU p,.none,.none,.none,(iI (((c+i):Nat):Int)),(.nat (c+i)),(.ev (.pv (vW v2))),iU v2.toNat,iU s,.none,iU s1],.aR [.o,.o,.o,(iI (((c+i):Nat):Int)),.o,iW w,.o,iU z,(.nat (c+i)),(.cells (.pure (((j.set (c+i) w):Ws).map af).flatten))],.h 0 (iI (((i+1):Nat):Int)),.aN [0,1,5,6,7,17,18,22,23]] (PJ (ax h1) (aY af (Eq.refl (((c:Nat):Int):Int)) h2) (mq v) (aY af (Eq.refl (((i:Nat):Int):Int)) h3) (mq v1) (lW h4) (aH h5) (cj (Eq.refl ((((c+i):Nat):Int):Int)) h6) (fk (enc:=af) (f:=fun a=>(vW a)) (fun _=>rfl) h7) (mq v2) (dp h8) (dp h9) (aH h5) (cD bg) (cN (k := .u64) cR) (cj (Eq.refl ((((c+i):Nat):Int):Int)) h6) (fO bm (j:Ws) w cw) (aH cu)) hL
theorem mY(a b:Ws)(c d g i:Nat)(j:Ws)(w:UInt32){r:PV}(h1:b.length≤i)(h2:(c+b.length)<9223372036854775808)(h3:d%4294967296=w.toNat)(h4:(c+b.length)<(a.length+b.length))(h5:(c+b.length)<j.length)(h6:(g+1)<9223372036854775808)(hL:au a b (g+1) (j.set (c+b.length) w) r):aM a b c d g i j r :=
 lG 174 [1,1,1,1,2,2,1] [.a,.q,.f,.aR [.o,.o,.o,(iI (b.length:Int)),(iI (((c+b.length):Nat):Int)),.o,iW w,(.nat (c+b.length)),(.cells (.pure (((j.set (c+b.length) w):Ws).map af).flatten))],.h 0 (iI (((g+1):Nat):Int)),.aN [0,1,5,17,18]] (y7 (ay h1) (ar af b) (aH h2) (cD h3) (cj (Eq.refl ((((c+b.length):Nat):Int):Int)) h4) (fO bm (j:Ws) w h5) (aH h6)) hL
end cE
namespace cf
@[reducible] def fn:Func:=Tryz.f145
def bM:List eh:=focus [0,2,0,2,0,2,0,0,2,0,0] [.code (az fn)]
def inv1(a b:List UInt32)(mw:Int)(qJ qK:List UInt32):St:=⟨[(0,(.pv (aa a))),(1,(.pv (aa b))),(6,(.row 13 0 a.length 1)),(7,(.row 17 0 (b.length+1) 1)),(8,(eI mw))],[(13,(.pure ((qJ:List UInt32).map af).flatten)),(17,(.pure ((qK:List UInt32).map af).flatten))]⟩
@[reducible] def au(a b:List UInt32)(mw:Int)(qJ qK:List UInt32)(r:PV):Prop:=L bp fn bM (inv1 a b mw qJ qK) r
def fw:List eh:=focus [0,2,0,2,0,2,0,0,2,0,0,0,0,0,2,0,2,0,0,0,2,0,0,2,0,0] [.code (az fn)]
def inv2(a b:List UInt32)(mw:Int)(Cb:UInt32)(Ny:Nat)(qJ qK:List UInt32):St:=⟨[(0,(.pv (aa a))),(1,(.pv (aa b))),(6,(.row 13 0 a.length 1)),(7,(.row 17 0 (b.length+1) 1)),(8,(eI mw)),(9,(eW Cb)),(35,(eI (((b.length+1):Nat):Int))),(36,(eI (Ny:Int)))],[(13,(.pure ((qJ:List UInt32).map af).flatten)),(17,(.pure ((qK:List UInt32).map af).flatten))]⟩
@[reducible] def aM(a b:List UInt32)(mw:Int)(Cb:UInt32)(Ny:Nat)(qJ qK:List UInt32)(r:PV):Prop:=L bp fn fw (inv2 a b mw Cb Ny qJ qK) r
theorem e0(a b:Ws)(c:Int){r:PV}(h1:4*a.length≤140737488355328)(h2:(b.length+1)<9223372036854775808)(h3:4*(b.length+1)≤140737488355328)(h4:Cp 176 [aa a] (vI c))(h5:aO (c-1))(hL:au a b (c-1) (List.replicate a.length (0:UInt32)) (List.replicate (b.length+1) (0:UInt32)) r):Cp 145 [aa a,aa b] r :=
 eG func145 93 [1,5,1,1,5,1,1] [.q,.aR [.o,(iI (a.length:Int)),(.app a.length ((List.replicate a.length (0:UInt32):Ws).map af).flatten)],.aR [.o,(iI (b.length:Int)),(iI (((b.length+1):Nat):Int)),(.app (b.length+1) ((List.replicate (b.length+1) (0:UInt32):Ws).map af).flatten)],.aR [.o,(.pv (vI c)),(iI (c-1))],.aN [0,1,6,7,8],.ord [13,17]] (y7 (ar af a) (sX af 0 4 a.length (Eq.refl (((a.length:Nat):Int):Int)) h1 rfl) (ar af b) (aH h2) (sX af 0 4 (b.length+1) (Eq.refl ((((b.length+1):Nat):Int):Int)) h3 rfl) h4 (bS h5)) hL
theorem eo(a b:Ws)(c:Int)(d g:Ws)(k:Nat)(v:UInt32)(k1:Nat)(z z1:UInt32){r:PV}(h1:0≤c)(h2:c=(k:Int))(h3:k<9223372036854775808)(h4:a[(k/32)]? = some v)(h5:c=(k1:Int))(h6:v.toNat/2^(min (k1%32) 32)=z.toNat)(h7:(z.toNat%4294967296) &&& (1%4294967296)=z1.toNat)(hL:aM a b c z1 0 d g r):au a b c d g r :=
 lG 138 [1,1,3,1,1,1] [.a,.q,.t,.aR [.o,.o,(iI (((k/32):Nat):Int)),(.row (k/32) (af v)),.o,.o,(iI (((k1%32):Nat):Int)),iW z,iW z1],.q,.aN [0,1,6,7,8,9,35,36]] (y6 (dz h1) (KT h2 (Ga (y:=32) (by decide) h3)) (aY af (Eq.refl ((((k/32):Nat):Int):Int)) h4) (KT h5 (Gb (x:=k1) (y:=32) (by decide))) (kj (k := .i64) h6) (fH h7)) hL
theorem ew(a b:Ws)(c:Int)(d g i j:Ws)(h1:c<0)(h2:a.length=d.length)(h3:(b.length+1)=g.length)(h4:Cp 127 [aa d] (aa i))(h5:Cp 127 [aa g] (aa j)):au a b c d g (.bx [aa i,aa j]) :=
 lD 126 [1,3,3,1,1] [.a,.q,.f,.lK 6 ((d:Ws).map af),.lK 7 ((g:Ws).map af),.aR [.o,(.pv (aa i)),.o,(.pv (aa j))]] (y5 (eL h1) (eM bm (d:Ws) h2) (eM bm (g:Ws) h3) h4 h5)
theorem mX(a b:Ws)(c:Int)(d:UInt32)(g:Nat)(i j:Ws)(v z z1 z2:UInt32){r:PV}(h1:g<(b.length+1))(h2:j[g]? = some v)(h3:(v.toNat*2^(min 1 32))%4294967296=z.toNat)(h4:(z.toNat%4294967296) ||| (d.toNat%4294967296)=z1.toNat)(h5:v.toNat/2^(min 31 32)=z2.toNat)(h6:g<j.length)(h7:(g+1)<9223372036854775808)(hL:aM a b c z2 (g+1) i (j.set g z1) r):aM a b c d g i j r :=
 lG 177 [1,2,1,1,1,2,1,1,2,2,1] [.a,.q,.t,.q,dr 16 1 [.none,.none,.none,.none,(.nat g),(.ev (.pv (vW v))),iW z,.none,iW z1,.none,.none,(.nat g),(.ev (.pv (vW v))),iW z2,(.nat g),(.cells (.pure (((j.set g z1):Ws).map af).flatten))],.h 0 (iI (((g+1):Nat):Int)),.aN [0,1,6,7,8,9,35,36]] (Fb (ax h1) (cj (Eq.refl (((g:Nat):Int):Int)) h1) (fk (enc:=af) (f:=fun a=>(vW a)) (fun _=>rfl) h2) (zw (k := .u64) h3) (sC h4) (cj (Eq.refl (((g:Nat):Int):Int)) h1) (fk (enc:=af) (f:=fun a=>(vW a)) (fun _=>rfl) h2) (kj (k := .u64) h5) (cj (Eq.refl (((g:Nat):Int):Int)) h1) (fO bm (j:Ws) z1 h6) (aH h7)) hL
theorem mY(a b:Ws)(c:Int)(d:UInt32)(g:Nat)(i j z:Ws)(l:Int)(z1:Ws)(k:Nat)(v:UInt32)(k1:Nat)(z2 z3:UInt32){r:PV}(h1:(b.length+1)≤g)(h2:av bp 129 [.row 100000 0 (b.length+1) 1,.pv (aa b)] [(100000,(.pure ((j:Ws).map af).flatten))] (.pv (vI l)) [(100000,(.pure ((z:Ws).map af).flatten))])(h3:0≤l)(h4:av bp 130 [.row 100000 0 (b.length+1) 1,.pv (aa b)] [(100000,(.pure ((z:Ws).map af).flatten))] (.pv (.bx [])) [(100000,(.pure ((z1:Ws).map af).flatten))])(h5:c=(k:Int))(h6:k<9223372036854775808)(h7:(k/32)<a.length)(h8:i[(k/32)]? = some v)(h9:c=(k1:Int))(bg:(1*2^(min (k1%32) 32))%4294967296=z2.toNat)(cR:(v.toNat%4294967296) ||| (z2.toNat%4294967296)=z3.toNat)(cw:(k/32)<i.length)(cu:aO (c-1))(hL:au a b (c-1) (i.set (k/32) z3) z1 r):aM a b c d g i j r :=
 lG 189 [1,1,1,1,1,2,1,1,1,1,2,2,1] [.a,.q,.f,.h 2 (.bN [(17,100000)] none (.pv (vI l)) [(100000,(.pure ((z:Ws).map af).flatten))]),.t,.h 2 (.bN [(17,100000)] none (.pv (.bx [])) [(100000,(.pure ((z1:Ws).map af).flatten))]),dr 10 1 [.none,.none,(iI (((k/32):Nat):Int)),(.nat (k/32)),(.ev (.pv (vW v))),.none,(iI (((k1%32):Nat):Int)),iW z2,iW z3,(.nat (k/32)),(.cells (.pure (((i.set (k/32) z3):Ws).map af).flatten))],.h 1 (iI (c-1)),.aN [0,1,6,7,8]] (LY (ay h1) h2 (dz h3) h4 (KT h5 (Ga (y:=32) (by decide) h6)) (cj (Eq.refl ((((k/32):Nat):Int):Int)) h7) (fk (enc:=af) (f:=fun a=>(vW a)) (fun _=>rfl) h8) (KT h9 (Gb (x:=k1) (y:=32) (by decide))) (zw (k := .i64) bg) (sC cR) (cj (Eq.refl ((((k/32):Nat):Int):Int)) h7) (fO bm (i:Ws) z3 cw) (bS cu)) hL
theorem xR(a b:Ws)(c:Int)(d:UInt32)(g:Nat)(i j z:Ws)(k:Int){r:PV}(h1:(b.length+1)≤g)(h2:av bp 129 [.row 100000 0 (b.length+1) 1,.pv (aa b)] [(100000,(.pure ((j:Ws).map af).flatten))] (.pv (vI k)) [(100000,(.pure ((z:Ws).map af).flatten))])(h3:k<0)(h4:aO (c-1))(hL:au a b (c-1) i z r):aM a b c d g i j r :=
 lG 183 [1,1,1,1] [.a,.q,.f,.h 2 (.bN [(17,100000)] none (.pv (vI k)) [(100000,(.pure ((z:Ws).map af).flatten))]),.f,.h 1 (iI (c-1)),.aN [0,1,6,7,8]] (y4 (ay h1) h2 (eL h3) (bS h4)) hL
end cf
namespace fu
@[reducible] def fn:Func:=Tryz.f146
def bM:List eh:=focus [0,2,0,2,0,2,0,0,2,0,0] [.code (az fn)]
def inv1(a b yb:List UInt32)(nX Nz:Nat):St:=⟨[(0,(.pv (aa a))),(1,(.pv (aa b))),(5,(.row 28 0 yb.length 1)),(6,(eU nX)),(10,(eI (a.length:Int))),(11,(eI (Nz:Int)))],[(28,(.pure ((yb:List UInt32).map af).flatten))]⟩
@[reducible] def au(a b yb:List UInt32)(nX Nz:Nat)(r:PV):Prop:=L bp fn bM (inv1 a b yb nX Nz) r
theorem e0 (a b : Ws) {r : PV}  (hL : au a b [] 0 0 r) : Cp 146 [aa a, aa b] r :=
 eG func146 93 [1] [.q,.h 0 .nil,.tj 5 28 1,.q,.h 1 (iI (a.length:Int)),.aN [0,1,5,6,10,11]] (y1 (ar af a)) hL
theorem eo(a b c:Ws)(g i j s l d d1:Nat)(w:UInt32)(z d2:Nat){r:PV}(h1:i<a.length)(h2:Cp 154 [aa a,(vI (i:Int))] (vU j))(h3:(4294967296+j)%18446744073709551616=s)(h4:Cp 154 [aa b,(vI (i:Int))] (vU l))(h5:((s:Nat)-(l:Nat):Int)%18446744073709551616=(d:Int))(h6:((d:Nat)-(g:Nat):Int)%18446744073709551616=(d1:Int))(h7:d1%4294967296=w.toNat)(h8:((c++[w]):Ws).length*4≤140737488355328)(h9:d1/2^(min 32 64)=z)(bg:((1:Nat)-(z:Nat):Int)%18446744073709551616=(d2:Int))(cR:(i+1)<9223372036854775808)(hL:au a b (c++[w]) d2 (i+1) r):au a b c g i r :=
 lG 138 [1,1,1,1,1,1,1,6,1,1,1] [.a,.q,.t,.q,.aR [.o,.o,(.pv (vU j)),iU s,.o,.o,(.pv (vU l)),iU d,.o,iU d1],.aR [.o,.o,iW w,.o,(.app ((c++[w]):Ws).length (((c++[w]):Ws).map af).flatten),.o,iU z,iU d2],.h 0 (iI (((i+1):Nat):Int)),.aN [0,1,5,6,10,11],.drop [27]] (Fb (ax h1) h2 (dp h3) h4 (da h5) (da h6) (cD h7) (pr bm (c:Ws) ([w]:Ws) 4 (Eq.refl (c:Ws).length) (Eq.refl ([w]:Ws).length) h8 rfl) (cN (k := .u64) h9) (da bg) (aH cR)) hL
theorem ew(a b c:Ws)(d g:Nat)(i:Ws)(h1:a.length≤g)(h2:Cp 127 [aa c] (aa i)):au a b c d g (aa i) :=
 lD 126 [1,3,1] [.a,.q,.f,.lK 5 ((c:Ws).map af),.h 1 (.pv (aa i))] (y3 (ay h1) (eM bm (c:Ws) (Eq.refl (c:Ws).length)) h2)
end fu
namespace l3
theorem e0(a:Ws)(i:Int)(k:Nat)(v:UInt32)(h1:i<(a.length:Int))(h2:i=(k:Int))(h3:a[k]? = some v):Cp 154 [aa a,vI i] (vU v.toNat) :=
 eD func154 84 [1,1,3,1] [.q,.h 2 (iI (a.length:Int)),.t,.aR [.o,.o,(.row k (af v)),.o,iU v.toNat]] (y4 (ar af a) (bd h1) (aY af h2 h3) (mq v))
theorem e1(a:Ws)(i:Int)(h1:(a.length:Int)≤i):Cp 154 [aa a,vI i] (vU 0) :=
 eD func154 87 [1,1] [.q,.h 2 (iI (a.length:Int)),.f,.q] (y2 (ar af a) (ba h1))
end l3
namespace lu
theorem e0(a:Ws)(b:Nat)(i:Int)(k:Nat)(v:UInt32)(h1:i<(b:Int))(h2:i=(k:Int))(h3:k<b)(h4:a[k]? = some v):av bp 154 [(.row 100000 0 b 1),eI i] [(100000,(.pure ((a:Ws).map af).flatten))] (.pv (vU v.toNat)) [(100000,(.pure ((a:Ws).map af).flatten))] :=
 Nk func154 84 [1,2,1,1] [.q,.q,.t,.aR [.o,.o,(.nat k),(.ev (.pv (vW v))),iU v.toNat],.ord [100000]] (y4 (bd h1) (cj h2 h3) (fk (enc:=af) (f:=fun a=>(vW a)) (fun _=>rfl) h4) (mq v))
theorem e1(a:Ws)(b:Nat)(i:Int)(h1:(b:Int)≤i):av bp 154 [(.row 100000 0 b 1),eI i] [(100000,(.pure ((a:Ws).map af).flatten))] (.pv (vU 0)) [(100000,(.pure ((a:Ws).map af).flatten))] :=
 Nk func154 87 [1] [.q,.q,.f,.q,.ord [100000]] (y1 (ba h1))
end lu
namespace dJ
@[reducible] def fn:Func:=Tryz.f176
def bM:List eh:=focus [0,2,0,0,2,1,2,0,2,0,0,2,0,0] [.code (az fn)]
def inv1(IT:Int)(Sp:UInt32):St:=⟨[(3,(eI IT)),(4,(eW Sp))],[]⟩
@[reducible] def au(IT:Int)(Sp:UInt32)(r:PV):Prop:=L bp fn bM (inv1 IT Sp) r
theorem e0(a:Ws)(h1:a.length=0):Cp 176 [aa a] (vI 0) :=
 eD func176 84 [1,1] [.q,.h 1 (iI (a.length:Int)),.t,.q] (y2 (ar af a) (br h1))
theorem e1(a:Ws)(k:Nat)(v:UInt32){r:PV}(h1:a.length≠0)(h2:aO ((a.length:Int)-1))(h3:aO (32*((a.length:Int)-1)))(h4:((a.length:Int)-1)=(k:Int))(h5:a[k]? = some v)(hL:au (32*((a.length:Int)-1)) v r):Cp 176 [aa a] r :=
 eG func176 102 [1,1,1,1,1,1,1,3] [.q,.h 1 (iI (a.length:Int)),.f,.aR [.o,(iI (a.length:Int)),(iI ((a.length:Int)-1)),(iI (32*((a.length:Int)-1)))],.aR [.o,.o,(iI (a.length:Int)),(iI ((a.length:Int)-1)),(.row k (af v))],.aN [3,4]] (y8 (ar af a) (aT h1) (ar af a) (bS h2) (M9 h3) (ar af a) (bS h2) (aY af h4 h5)) hL
theorem eo(b:Int)(c z:UInt32){r:PV}(h1:0<c.toNat)(h2:aO (b+1))(h3:c.toNat/2^(min 1 32)=z.toNat)(hL:au (b+1) z r):au b c r :=
 lG 135 [1,1,1] [.a,.q,.t,.h 1 (iI (b+1)),.h 1 (iW z),.aN [3,4]] (y3 (ax h1) (ki h2) (kj (k := .u64) h3)) hL
theorem ew(b:Int)(c:UInt32)(h1:c.toNat≤0):au b c (vI b) :=
 lD 135 [1] [.a,.q,.f,.q] (y1 (ay h1))
end dJ
end Go.Proofs.YtfjfekodeplcoaaGreat.Sym.Path
end
