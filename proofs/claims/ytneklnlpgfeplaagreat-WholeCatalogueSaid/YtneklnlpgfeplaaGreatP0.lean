/- Lemmas for the statements of this seat. -/
import Derived.Test.YtneklnlpgfeplaaGreatT0
noncomputable section
namespace Go.Proofs.YtneklnlpgfeplaaGreat.Sym.Path
open Go Tryz
set_option maxRecDepth 20000
set_option linter.unusedVariables false
namespace nt
theorem e0(a b:aR)(c d:Int)(h1:Cp 39 [a.pv] (vI c))(h2:Cp 39 [b.pv] (vI d))(h3:c≠d)(h4:c<d):Cp 33 [a.pv,b.pv] (vI (-1)) :=
 eD func33 [] [.q,dr 4 2 [.none,(.pv (vI c)),.none,(.pv (vI d))],.q,.t,.q,.t,.q] (y4 h1 h2 (yi h3) (br h4))
theorem e1(a b:aR)(c d:Int)(h1:Cp 39 [a.pv] (vI c))(h2:Cp 39 [b.pv] (vI d))(h3:c≠d)(h4:d≤c):Cp 33 [a.pv,b.pv] (vI 1) :=
 eD func33 [] [.q,dr 4 2 [.none,(.pv (vI c)),.none,(.pv (vI d))],.q,.t,.q,.f,.q] (y4 h1 h2 (yi h3) (ah h4))
theorem e2(a b:aR)(c d:Int)(g i:Ws)(j:Int)(k:Bool)(h1:Cp 39 [a.pv] (vI c))(h2:Cp 39 [b.pv] (vI d))(h3:c=d)(h4:Cp 64 [a.pv] (af g))(h5:Cp 64 [b.pv] (af i))(h6:Cp 63 [af g,af i] (vI j))(h7:Cp 65 [a.pv] (vB k))(h8:k=true)(h9:bf (-j)):Cp 33 [a.pv,b.pv] (vI (-j)) :=
 eD func33 [] [.q,dr 4 2 [.none,(.pv (vI c)),.none,(.pv (vI d))],.q,.f,dr 5 1 [.none,(.pv (af g)),.none,(.pv (af i)),(.pv (vI j))],.h 1 (.pv (vB k)),.t,.h 1 (iI (-j))] (y9 h1 h2 (pO h3) h4 h5 h6 h7 h8 (PQ h9))
theorem e3(a b:aR)(c d:Int)(g i:Ws)(j:Int)(k:Bool)(h1:Cp 39 [a.pv] (vI c))(h2:Cp 39 [b.pv] (vI d))(h3:c=d)(h4:Cp 64 [a.pv] (af g))(h5:Cp 64 [b.pv] (af i))(h6:Cp 63 [af g,af i] (vI j))(h7:Cp 65 [a.pv] (vB k))(h8:k=false):Cp 33 [a.pv,b.pv] (vI j) :=
 eD func33 [] [.q,dr 4 2 [.none,(.pv (vI c)),.none,(.pv (vI d))],.q,.f,dr 5 1 [.none,(.pv (af g)),.none,(.pv (af i)),(.pv (vI j))],.h 1 (.pv (vB k)),.f,.q] (y8 h1 h2 (pO h3) h4 h5 h6 h7 h8)
end nt
namespace yl
theorem e0(a b:aR)(c d:Bool)(g i j:Ws)(k:aR)(h1:Cp 65 [a.pv] (vB c))(h2:Cp 65 [b.pv] (vB d))(h3:Cp 64 [a.pv] (af g))(h4:Cp 64 [b.pv] (af i))(h5:Cp 67 [af g,af i] (af j))(h6:Cp 66 [(vB (!(c==d))),af j] k.pv):Cp 34 [a.pv,b.pv] k.pv :=
 eD func34 [] [.q,dr 11 1 [.none,(.pv (vB c)),.none,(.pv (vB d)),.none,.none,(.pv (af g)),.none,(.pv (af i)),(.pv (af j)),(.pv k.pv)]] (y6 h1 h2 h3 h4 h5 h6)
end yl
namespace og
theorem e0(a:aR)(b:Ws)(h1:Cp 64 [a.pv] (af b))(h2:b.length=0):Cp 39 [a.pv] (vI 0) :=
 eD func39 [] [.q,.bx [.o,(.pv (af b)),(iL b)],.t,.q] (y3 h1 (aH aE b) (bL h2))
theorem e1(a:aR)(b:Ws)(h1:Cp 64 [a.pv] (af b))(h2:b.length≠0)(h3:a.neg=true):Cp 39 [a.pv] (vI (-1)) :=
 eD func39 [] [.q,.bx [.o,(.pv (af b)),(iL b)],.f,.q,.t,.q] (y4 h1 (aH aE b) (aZ h2) h3)
theorem e2(a:aR)(b:Ws)(h1:Cp 64 [a.pv] (af b))(h2:b.length≠0)(h3:a.neg=false):Cp 39 [a.pv] (vI 1) :=
 eD func39 [] [.q,.bx [.o,(.pv (af b)),(iL b)],.f,.q,.f,.q] (y4 h1 (aH aE b) (aZ h2) h3)
end og
namespace vz
theorem e0(n:Int)(m m1:Nat)(w:UInt32)(z:Nat)(w1:UInt32)(a:aR)(h1:n%18446744073709551616=(m:Int))(h2:n<0)(h3:(0-(m:Int))%18446744073709551616=(m1:Int))(h4:m1%4294967296=w.toNat)(h5:m1/2^(min 32 64)=z)(h6:z%4294967296=w1.toNat)(h7:Cp 66 [(vB (decide (n<0))),(af [w,w1])] a.pv):Cp 41 [vI n] a.pv :=
 eD func41 [1,1,1,1,1,1,3] [.q,.h 1 (iU m),.q,.t,.h 1 (iU m1),.bx [.o,.o,.o,iW w,.o,iU z,iW w1,(.fM 0 0 (([w,w1]:Ws).map aE)),(.pv a.pv)]] (y8 (DP h1) (br h2) (AM h3) (dz h4) (dO (k := .u64) h5) (dz h6) (gA bJ ([w,w1]:Ws)) h7)
theorem e1(n:Int)(m:Nat)(w:UInt32)(z:Nat)(w1:UInt32)(a:aR)(h1:n%18446744073709551616=(m:Int))(h2:0≤n)(h3:m%4294967296=w.toNat)(h4:m/2^(min 32 64)=z)(h5:z%4294967296=w1.toNat)(h6:Cp 66 [(vB (decide (n<0))),(af [w,w1])] a.pv):Cp 41 [vI n] a.pv :=
 eD func41 [1,1,1,1,1,3] [.q,.h 1 (iU m),.q,.f,.bx [.o,.o,.o,iW w,.o,iU z,iW w1,(.fM 0 0 (([w,w1]:Ws).map aE)),(.pv a.pv)]] (y7 (DP h1) (ah h2) (dz h3) (dO (k := .u64) h4) (dz h5) (gA bJ ([w,w1]:Ws)) h6)
end vz
namespace qn
theorem e0(a:aR)(h1:a.db.length=0):Cp 61 [a.pv] (vB (!a.neg)) :=
 eD func61 [] [.q,.h 2 (iL a.db),.t,.q] (y2 (aH aE a.db) (bL h1))
theorem e1(a:aR)(k:Nat)(v:UInt32)(h1:a.db.length≠0)(h2:bf ((a.db.length:Int)-1))(h3:((a.db.length:Int)-1)=(k:Int))(h4:a.db[k]? = some v):Cp 61 [a.pv] (vB ((v.toNat:Int) != 0)) :=
 eD func61 [1,1,1,1,3] [.q,.h 2 (iL a.db),.f,.bx [.o,.o,.o,.o,(iL a.db),(iI ((a.db.length:Int)-1)),(.row k (aE v))]] (y5 (aH aE a.db) (aZ h1) (aH aE a.db) (b9 h2) (bG aE h3 h4))
end qn
namespace kX
@[reducible] def fn:Func:=Tryz.f62
def bM:List eh:=focus [0,2,0,2,0,0,0] [.code (aS fn)]
def inv1(Wf Wg:List UInt32):St:=⟨[(4,(.ptr 4 0)),(5,(.pv (af Wf))),(6,(.pv (af Wg)))],[(4,(.lit [(eB false),(.pv (.list []))]))]⟩
@[reducible] def ay(Wf Wg:List UInt32)(r:PV):Prop:=L aV fn bM (inv1 Wf Wg) r
theorem e0(a b:aR)(c d:Ws){r:PV}(h1:Cp 64 [a.pv] (af c))(h2:Cp 64 [b.pv] (af d))(hL:ay c d r):Cp 62 [a.pv,b.pv] r :=
 eG func62 [] [.q,dr 4 2 [.none,(.pv (af c)),.none,(.pv (af d))],.aW [4,5,6],.drop [3,2]] (y2 h1 h2) hL
theorem eu(b c d g:Ws){r:PV}(h1:0<c.length)(h2:Cp 106 [af b,af c] (.bg [af d,af g]))(hL:ay c g r):ay b c r :=
 lG [] [.a,.h 1 (iL c),.t,.h 2 (.pv (.bg [af d,af g])),.q,.aW [4,5,6]] (y3 (aH aE c) (aG h1) h2) hL
theorem dp(b c:Ws)(d:aR)(h1:c.length≤0)(h2:Cp 66 [vB false,af b] d.pv):ay b c d.pv :=
 lD [] [.a,.h 1 (iL c),.f,.h 1 (.pv d.pv)] (y3 (aH aE c) (aL h1) h2)
end kX
namespace eo
@[reducible] def fn:Func:=Tryz.f63
def bM:List eh:=focus [0,2,0,0,2,1,2,0,0,2,0,0] [.code (aS fn)]
def inv1(a b:List UInt32)(KV:Int):St:=⟨[(0,(.pv (af a))),(1,(.pv (af b))),(5,(eI KV))],[]⟩
@[reducible] def ay(a b:List UInt32)(KV:Int)(r:PV):Prop:=L aV fn bM (inv1 a b KV) r
theorem e0(a b:Ws)(h1:a.length≠b.length)(h2:a.length<b.length):Cp 63 [af a,af b] (vI (-1)) :=
 eD func63 [] [.q,.bx [.o,(iL a),.o,(iL b)],.t,.bx [.o,(iL a),.o,(iL b)],.t,.q] (y6 (aH aE a) (aH aE b) (mL h1) (aH aE a) (aH aE b) (aG h2))
theorem e1(a b:Ws)(h1:a.length≠b.length)(h2:b.length≤a.length):Cp 63 [af a,af b] (vI 1) :=
 eD func63 [] [.q,.bx [.o,(iL a),.o,(iL b)],.t,.bx [.o,(iL a),.o,(iL b)],.f,.q] (y6 (aH aE a) (aH aE b) (mL h1) (aH aE a) (aH aE b) (aL h2))
theorem e2(a b:Ws){r:PV}(h1:a.length=b.length)(h2:bf ((a.length:Int)-1))(hL:ay a b ((a.length:Int)-1) r):Cp 63 [af a,af b] r :=
 eG func63 [] [.q,.bx [.o,(iL a),.o,(iL b)],.f,.bx [.o,(iL a),(iI ((a.length:Int)-1))],.aW [0,1,5]] (y5 (aH aE a) (aH aE b) (bH h1) (aH aE a) (b9 h2)) hL
theorem eu(a b:Ws)(c:Int)(k:Nat)(v:UInt32)(k1:Nat)(v1:UInt32)(k2:Nat)(v2:UInt32)(k3:Nat)(v3:UInt32)(h1:0≤c)(h2:c=(k:Int))(h3:a[k]? = some v)(h4:c=(k1:Int))(h5:b[k1]? = some v1)(h6:v.toNat≠v1.toNat)(h7:c=(k2:Int))(h8:a[k2]? = some v2)(h9:c=(k3:Int))(cE:b[k3]? = some v3)(dC:v2.toNat<v3.toNat):ay a b c (vI (-1)) :=
 lD [1,3,3,1,3,3] [.a,.q,.t,dr 9 0 [.none,.none,(.row k (aE v)),.none,.none,.none,(.row k1 (aE v1))],.t,dr 9 0 [.none,.none,(.row k2 (aE v2)),.none,.none,.none,(.row k3 (aE v3))],.t,.q] (y7 (dV h1) (bG aE h2 h3) (bG aE h4 h5) (mL h6) (bG aE h7 h8) (bG aE h9 cE) (aG dC))
theorem dp(a b:Ws)(c:Int)(k:Nat)(v:UInt32)(k1:Nat)(v1:UInt32)(k2:Nat)(v2:UInt32)(k3:Nat)(v3:UInt32)(h1:0≤c)(h2:c=(k:Int))(h3:a[k]? = some v)(h4:c=(k1:Int))(h5:b[k1]? = some v1)(h6:v.toNat≠v1.toNat)(h7:c=(k2:Int))(h8:a[k2]? = some v2)(h9:c=(k3:Int))(cE:b[k3]? = some v3)(dC:v3.toNat≤v2.toNat):ay a b c (vI 1) :=
 lD [1,3,3,1,3,3] [.a,.q,.t,dr 9 0 [.none,.none,(.row k (aE v)),.none,.none,.none,(.row k1 (aE v1))],.t,dr 9 0 [.none,.none,(.row k2 (aE v2)),.none,.none,.none,(.row k3 (aE v3))],.f,.q] (y7 (dV h1) (bG aE h2 h3) (bG aE h4 h5) (mL h6) (bG aE h7 h8) (bG aE h9 cE) (aL dC))
theorem im(a b:Ws)(c:Int)(k:Nat)(v:UInt32)(k1:Nat)(v1:UInt32){r:PV}(h1:0≤c)(h2:c=(k:Int))(h3:a[k]? = some v)(h4:c=(k1:Int))(h5:b[k1]? = some v1)(h6:v.toNat=v1.toNat)(h7:bf (c-1))(hL:ay a b (c-1) r):ay a b c r :=
 lG [1,3,3] [.a,.q,.t,dr 9 0 [.none,.none,(.row k (aE v)),.none,.none,.none,(.row k1 (aE v1))],.f,.h 1 (iI (c-1)),.aW [0,1,5]] (y5 (dV h1) (bG aE h2 h3) (bG aE h4 h5) (bH h6) (b9 h7)) hL
theorem ym(a b:Ws)(c:Int)(h1:c<0):ay a b c (vI 0) :=
 lD [] [.a,.q,.f,.q] (y1 (aX h1))
end eo
namespace tv
theorem e0(a:aR)(b:Bool)(h1:Cp 61 [a.pv] (vB b))(h2:b=false):Cp 64 [a.pv] (af []) :=
 eD func64 [] [.q,.h 1 (.pv (vB b)),.t,.q] (y2 h1 (bE h2))
theorem e1(a:aR)(b:Bool)(h1:Cp 61 [a.pv] (vB b))(h2:b=true):Cp 64 [a.pv] (af a.db) :=
 eD func64 [] [.q,.h 1 (.pv (vB b)),.f,.q] (y2 h1 (av h2))
end tv
namespace tx
theorem e0(a:aR)(b:Bool)(h1:Cp 61 [a.pv] (vB b))(h2:b=true):Cp 65 [a.pv] (vB a.neg) :=
 eD func65 [] [.q,.bx [.o,(.pv (vB b)),.o,.o,.o,(.dec true)]] (y4 h1 h2 h2 h2)
theorem e1(a:aR)(b:Bool)(h1:Cp 61 [a.pv] (vB b))(h2:b=false):Cp 65 [a.pv] (vB false) :=
 eD func65 [] [.q,.bx [.o,(.pv (vB b)),.o,.skip,.skip,(.dec false)]] (y4 h1 h2 h2 h2)
end tx
namespace qo
theorem e0(a:Bool)(m b:Ws)(h1:Cp 107 [af m] (af b))(h2:a=true):Cp 66 [vB a,af m] ((⟨(decide ((b.length:Int)>0)),b⟩:aR).pv) :=
 eD func66 [] [.q,.h 1 (.pv (af b)),.bx [.o,.o,.o,(iL b),.o,(.dec true)]] (y6 h1 h2 h2 (aH aE b) h2 h2)
theorem e1(a:Bool)(m b:Ws)(h1:Cp 107 [af m] (af b))(h2:a=false):Cp 66 [vB a,af m] ((⟨false,b⟩:aR).pv) :=
 eD func66 [] [.q,.h 1 (.pv (af b)),.bx [.o,.o,.skip,.skip,.skip,(.dec false)]] (y5 h1 h2 h2 h2 h2)
end qo
namespace fD
@[reducible] def fn:Func:=Tryz.f67
def bM:List eh:=focus [0,2,0,2,0,0,2,0,0] [.code (aS fn)]
def inv1(b a:List UInt32)(GU:Nat)(jY:List UInt32):St:=⟨[(1,(.pv (af b))),(5,(.row 16 0 (a.length+b.length) 1)),(17,(.pv (af a))),(18,(eI (a.length:Int))),(19,(eI (GU:Int)))],[(16,(.pure ((jY:List UInt32).map aE).flatten))]⟩
@[reducible] def ay(b a:List UInt32)(GU:Nat)(jY:List UInt32)(r:PV):Prop:=L aV fn bM (inv1 b a GU jY) r
def mP:List eh:=focus [0,2,0,2,0,0,2,0,0,0,0,2,0,0,2,0,0,0,2,0,2,0,0,2,0,0] [.code (aS fn)]
def inv2(b a:List UInt32)(GV:Nat)(v:UInt32)(DS GU AZ:Nat)(jY:List UInt32):St:=⟨[(1,(.pv (af b))),(5,(.row 16 0 (a.length+b.length) 1)),(6,(eI (GV:Int))),(7,(eW v)),(8,(eU DS)),(17,(.pv (af a))),(18,(eI (a.length:Int))),(19,(eI (GU:Int))),(24,(.pv (af b))),(25,(eI (b.length:Int))),(26,(eI (AZ:Int)))],[(16,(.pure ((jY:List UInt32).map aE).flatten))]⟩
@[reducible] def bS(b a:List UInt32)(GV:Nat)(v:UInt32)(DS GU AZ:Nat)(jY:List UInt32)(r:PV):Prop:=L aV fn mP (inv2 b a GV v DS GU AZ jY) r
theorem e0(a b:Ws){r:PV}(h1:(a.length+b.length)<9223372036854775808)(h2:4*(a.length+b.length)≤140737488355328)(hL:ay b a 0 (List.replicate (a.length+b.length) (0:UInt32)) r):Cp 67 [af a,af b] r :=
 eG func67 [1,1,1,5] [.q,.bx [.o,(iL a),.o,(iL b),(iI (((a.length+b.length):Nat):Int)),(.app (a.length+b.length) ((List.replicate (a.length+b.length) (0:UInt32):Ws).map aE).flatten)],.h 1 (iL a),.aW [1,5,17,18,19]] (y5 (aH aE a) (aH aE b) (bj h1) (uB aE 0 4 (a.length+b.length) (rN (a.length+b.length)) h2 rfl) (aH aE a)) hL
theorem eu(b a:Ws)(c:Nat)(d:Ws)(v:UInt32){r:PV}(h1:c<a.length)(h2:a[c]? = some v)(hL:bS b a c v 0 c 0 d r):ay b a c d r :=
 lG [1,3] [.a,.q,.t,.h 1 (.row c (aE v)),.q,.h 1 (iL b),.aW [1,5,6,7,8,17,18,19,24,25,26]] (y3 (aG h1) (bG aE (rN c) h2) (aH aE b)) hL
theorem dp(b a:Ws)(c:Nat)(d g:Ws)(h1:a.length≤c)(h2:(a.length+b.length)=d.length)(h3:Cp 107 [af d] (af g)):ay b a c d (af g) :=
 lD [1,3] [.a,.q,.f,.jz 5 ((d:Ws).map aE),.h 1 (.pv (af g))] (y3 (aL h1) (dJ bJ (d:Ws) h2) h3)
theorem yn(b a:Ws)(c:Nat)(v:UInt32)(d g i:Nat)(j:Ws)(v1:UInt32)(p:Nat)(v2:UInt32)(s s1:Nat)(w:UInt32)(z:Nat){r:PV}(h1:i<b.length)(h2:b[i]? = some v1)(h3:(v.toNat*v1.toNat)%18446744073709551616=p)(h4:(c+i)<9223372036854775808)(h5:(c+i)<(a.length+b.length))(h6:j[(c+i)]? = some v2)(h7:(p+v2.toNat)%18446744073709551616=s)(h8:(d+s)%18446744073709551616=s1)(h9:s1%4294967296=w.toNat)(cE:(c+i)<j.length)(dC:s1/2^(min 32 64)=z)(dI:(i+1)<9223372036854775808)(hL:bS b a c v z g (i+1) (j.set (c+i) w) r):bS b a c v d g i j r :=
 lG [1,3,1,1,1,1,2,1,1,1,1,1,1,2,2] [.a,.q,.t,.h 1 (.row i (aE v1)),.bx [.o,.o,iU v.toNat,.o,iU v1.toNat,iU p,.o,.o,.o,(iI (((c+i):Nat):Int)),(.nat (c+i)),(.ev (.pv (vW v2))),iU v2.toNat,iU s,iU s1],.bx [.o,.o,.o,(iI (((c+i):Nat):Int)),.o,iW w,(.nat (c+i)),(.cells (.pure (((j.set (c+i) w):Ws).map aE).flatten))],.h 1 (iU z),.h 0 (iI (((i+1):Nat):Int)),.aW [1,5,6,7,8,17,18,19,24,25,26]] (Nk (aG h1) (bG aE (rN i) h2) (oM v) (oM v1) (oL h3) (bj h4) (cj (rN (c+i)) h5) (et (enc:=aE) (f:=fun a=>(vW a)) (fun _=>rfl) h6) (oM v2) (fk h7) (fk h8) (bj h4) (dz h9) (cj (rN (c+i)) h5) (jw bJ (j:Ws) w cE) (dO (k := .u64) dC) (bj dI)) hL
theorem zf(b a:Ws)(c:Nat)(v:UInt32)(d g i:Nat)(j:Ws)(w:UInt32){r:PV}(h1:b.length≤i)(h2:(c+b.length)<9223372036854775808)(h3:d%4294967296=w.toNat)(h4:(c+b.length)<(a.length+b.length))(h5:(c+b.length)<j.length)(h6:(g+1)<9223372036854775808)(hL:ay b a (g+1) (j.set (c+b.length) w) r):bS b a c v d g i j r :=
 lG [1,1,1,1,2,2] [.a,.q,.f,.bx [.o,.o,.o,(iL b),(iI (((c+b.length):Nat):Int)),.o,iW w,(.nat (c+b.length)),(.cells (.pure (((j.set (c+b.length) w):Ws).map aE).flatten))],.h 0 (iI (((g+1):Nat):Int)),.aW [1,5,17,18,19]] (y7 (aL h1) (aH aE b) (bj h2) (dz h3) (cj (rN (c+b.length)) h4) (jw bJ (j:Ws) w h5) (bj h6)) hL
end fD
namespace yo
theorem e0(a:aR)(b:Bool)(c:Ws)(d:aR)(h1:Cp 65 [a.pv] (vB b))(h2:Cp 64 [a.pv] (af c))(h3:Cp 66 [(vB (!b)),af c] d.pv):Cp 73 [a.pv] d.pv :=
 eD func73 [] [.q,dr 6 1 [.none,(.pv (vB b)),.none,.none,(.pv (af c)),(.pv d.pv)]] (y3 h1 h2 h3)
end yo
namespace pS
theorem e1(a b:aR)(c d g i:Ws)(j:Bool)(k l:Ws)(m n:Bool)(p s:aR)(h1:Cp 64 [b.pv] (af c))(h2:c.length≠0)(h3:Cp 64 [a.pv] (af d))(h4:Cp 106 [af d,af c] (.bg [af g,af i]))(h5:Cp 65 [a.pv] (vB j))(h6:j=true)(h7:0<i.length)(h8:Cp 110 [af g,(af [(1:UInt32)])] (af k))(h9:Cp 111 [af c,af i] (af l))(cE:Cp 65 [a.pv] (vB m))(dC:Cp 65 [b.pv] (vB n))(dI:Cp 66 [(vB (!(m==n))),af k] p.pv)(ep:Cp 66 [vB false,af l] s.pv):Cp 74 [a.pv,b.pv] (.bg [p.pv,s.pv,.ar]) :=
 eD func74 [1,1,1,1,1,1,1,1,1,1,1,1,3] [.q,.h 1 (.pv (af c)),.h 1 (iL c),.f,.bx [.o,(.pv (af d)),.o,(.pv (.bg [af g,af i]))],.bx [.o,(.pv (vB j)),.o,.o,(iL i),.o,(.dec true)],.t,.bx [.o,(.fM 0 0 (([(1:UInt32)]:Ws).map aE)),(.pv (af k)),.o,.o,(.pv (af l))],dr 9 3 [.none,(.pv (vB m)),.none,(.pv (vB n)),.none,.none,(.pv p.pv),.none,(.pv s.pv)]] (Rx h1 (aH aE c) (aZ h2) h3 h4 h5 h6 h6 (aH aE i) h6 h6 (aG h7) (gA bJ ([(1:UInt32)]:Ws)) h8 h9 cE dC dI ep)
theorem e2(a b:aR)(c d g i:Ws)(j k l:Bool)(m n:aR)(h1:Cp 64 [b.pv] (af c))(h2:c.length≠0)(h3:Cp 64 [a.pv] (af d))(h4:Cp 106 [af d,af c] (.bg [af g,af i]))(h5:Cp 65 [a.pv] (vB j))(h6:j=true)(h7:i.length≤0)(h8:Cp 65 [a.pv] (vB k))(h9:Cp 65 [b.pv] (vB l))(cE:Cp 66 [(vB (!(k==l))),af g] m.pv)(dC:Cp 66 [vB false,af i] n.pv):Cp 74 [a.pv,b.pv] (.bg [m.pv,n.pv,.ar]) :=
 eD func74 [] [.q,.h 1 (.pv (af c)),.h 1 (iL c),.f,.bx [.o,(.pv (af d)),.o,(.pv (.bg [af g,af i]))],.bx [.o,(.pv (vB j)),.o,.o,(iL i),.o,(.dec true)],.f,dr 9 3 [.none,(.pv (vB k)),.none,(.pv (vB l)),.none,.none,(.pv m.pv),.none,(.pv n.pv)]] (Nj h1 (aH aE c) (aZ h2) h3 h4 h5 h6 h6 (aH aE i) h6 h6 (aL h7) h8 h9 cE dC)
theorem e3(a b:aR)(c d g i:Ws)(j k l:Bool)(m n:aR)(h1:Cp 64 [b.pv] (af c))(h2:c.length≠0)(h3:Cp 64 [a.pv] (af d))(h4:Cp 106 [af d,af c] (.bg [af g,af i]))(h5:Cp 65 [a.pv] (vB j))(h6:j=false)(h7:Cp 65 [a.pv] (vB k))(h8:Cp 65 [b.pv] (vB l))(h9:Cp 66 [(vB (!(k==l))),af g] m.pv)(cE:Cp 66 [vB false,af i] n.pv):Cp 74 [a.pv,b.pv] (.bg [m.pv,n.pv,.ar]) :=
 eD func74 [] [.q,.h 1 (.pv (af c)),.h 1 (iL c),.f,.bx [.o,(.pv (af d)),.o,(.pv (.bg [af g,af i]))],.bx [.o,(.pv (vB j)),.o,.skip,.skip,.skip,(.dec false)],.a,dr 9 3 [.none,(.pv (vB k)),.none,(.pv (vB l)),.none,.none,(.pv m.pv),.none,(.pv n.pv)]] (PW h1 (aH aE c) (aZ h2) h3 h4 h5 h6 h6 h6 h6 h7 h8 h9 cE)
end pS
namespace pT
theorem e0(a b:aR)(c d:Ws)(g i j:Bool)(k:Ws)(l:aR)(h1:Cp 64 [a.pv] (af c))(h2:Cp 64 [b.pv] (af d))(h3:Cp 65 [a.pv] (vB g))(h4:Cp 65 [b.pv] (vB i))(h5:g=i)(h6:Cp 65 [a.pv] (vB j))(h7:Cp 110 [af c,af d] (af k))(h8:Cp 66 [vB j,af k] l.pv):Cp 105 [a.pv,b.pv] l.pv :=
 eD func105 [] [.q,dr 4 2 [.none,(.pv (af c)),.none,(.pv (af d))],dr 5 1 [.none,(.pv (vB g)),.none,(.pv (vB i))],.t,.bx [.o,(.pv (vB j)),.o,.o,(.pv (af k)),(.pv l.pv)]] (y8 h1 h2 h3 h4 (OC h5) h6 h7 h8)
theorem e1(a b:aR)(c d:Ws)(g i:Bool)(j:Int)(k:Bool)(l:Ws)(m:aR)(h1:Cp 64 [a.pv] (af c))(h2:Cp 64 [b.pv] (af d))(h3:Cp 65 [a.pv] (vB g))(h4:Cp 65 [b.pv] (vB i))(h5:g≠i)(h6:Cp 63 [af c,af d] (vI j))(h7:0≤j)(h8:Cp 65 [a.pv] (vB k))(h9:Cp 111 [af c,af d] (af l))(cE:Cp 66 [vB k,af l] m.pv):Cp 105 [a.pv,b.pv] m.pv :=
 eD func105 [] [.q,dr 4 2 [.none,(.pv (af c)),.none,(.pv (af d))],dr 5 1 [.none,(.pv (vB g)),.none,(.pv (vB i))],.f,.h 2 (.pv (vI j)),.t,.bx [.o,(.pv (vB k)),.o,.o,(.pv (af l)),(.pv m.pv)]] (F4 h1 h2 h3 h4 (Fe h5) h6 (dV h7) h8 h9 cE)
theorem e2(a b:aR)(c d:Ws)(g i:Bool)(j:Int)(k:Bool)(l:Ws)(m:aR)(h1:Cp 64 [a.pv] (af c))(h2:Cp 64 [b.pv] (af d))(h3:Cp 65 [a.pv] (vB g))(h4:Cp 65 [b.pv] (vB i))(h5:g≠i)(h6:Cp 63 [af c,af d] (vI j))(h7:j<0)(h8:Cp 65 [b.pv] (vB k))(h9:Cp 111 [af d,af c] (af l))(cE:Cp 66 [vB k,af l] m.pv):Cp 105 [a.pv,b.pv] m.pv :=
 eD func105 [] [.q,dr 4 2 [.none,(.pv (af c)),.none,(.pv (af d))],dr 5 1 [.none,(.pv (vB g)),.none,(.pv (vB i))],.f,.h 2 (.pv (vI j)),.f,.bx [.o,(.pv (vB k)),.o,.o,(.pv (af l)),(.pv m.pv)]] (F4 h1 h2 h3 h4 (Fe h5) h6 (aX h7) h8 h9 cE)
end pT
namespace bU
@[reducible] def fn:Func:=Tryz.f106
def bM:List eh:=focus [0,2,0,0,2,1,2,0,0,2,1,2,0,2,0,2,0,2,0,2,0,0,2,0,0] [.code (aS fn)]
def inv1(PY:Int)(up b:List UInt32)(n m:Nat)(v1 v2:UInt32)(GW:Int)(rD rE:List UInt32):St:=⟨[(8,(eI PY)),(9,(.pv (af (up.take b.length)))),(10,(.row 55 0 n 1)),(11,(.row 61 0 m 1)),(12,(eU v1.toNat)),(13,(eU v2.toNat)),(14,(eI GW))],[(55,(.pure ((rD:List UInt32).map aE).flatten)),(61,(.pure ((rE:List UInt32).map aE).flatten))]⟩
@[reducible] def ay(PY:Int)(up b:List UInt32)(n m:Nat)(v1 v2:UInt32)(GW:Int)(rD rE:List UInt32)(r:PV):Prop:=L aV fn bM (inv1 PY up b n m v1 v2 GW rD rE) r
def mP:List eh:=focus [0,2,0,0,2,1,2,0,0,2,1,2,0,2,0,2,0,2,0,2,0,0,2,0,0,0,0,0,2,0,2,0,0,0,2,0,2,0,2,0,0,0] [.code (aS fn)]
def inv2(PY:Int)(up b:List UInt32)(n m:Nat)(v1 v2:UInt32)(GW:Int)(l u A0 DT:Nat)(rD rE:List UInt32):St:=⟨[(8,(eI PY)),(9,(.pv (af (up.take b.length)))),(10,(.row 55 0 n 1)),(11,(.row 61 0 m 1)),(12,(eU v1.toNat)),(13,(eU v2.toNat)),(14,(eI GW)),(15,(.row 55 (0+l*1) (u-l) 1)),(17,(eU A0)),(18,(eU DT))],[(55,(.pure ((rD:List UInt32).map aE).flatten)),(61,(.pure ((rE:List UInt32).map aE).flatten))]⟩
@[reducible] def bS(PY:Int)(up b:List UInt32)(n m:Nat)(v1 v2:UInt32)(GW:Int)(l u A0 DT:Nat)(rD rE:List UInt32)(r:PV):Prop:=L aV fn mP (inv2 PY up b n m v1 v2 GW l u A0 DT rD rE) r
theorem e0(a b:Ws)(c:Int)(d:Ws)(h1:Cp 63 [af a,af b] (vI c))(h2:c<0)(h3:Cp 107 [af a] (af d)):Cp 106 [af a,af b] (.bg [(af []),af d]) :=
 eD func106 [] [.q,.h 2 (.pv (vI c)),.t,.h 1 (.pv (af d))] (y3 h1 (br h2) h3)
theorem e1(a b:Ws)(c:Int)(v:UInt32)(d:Ws)(g:UInt32)(i:Ws)(h1:Cp 63 [af a,af b] (vI c))(h2:0≤c)(h3:b.length=1)(h4:b[0]? = some v)(h5:Cp 145 [af a,vW v] (.bg [af d,vW g]))(h6:Cp 107 [(af [g])] (af i)):Cp 106 [af a,af b] (.bg [af d,af i]) :=
 eD func106 [1,1,1,1,3,1,3] [.q,.h 2 (.pv (vI c)),.f,.h 1 (iL b),.t,.bx [.o,.o,(.row 0 (aE v)),.o,(.pv (.bg [af d,vW g]))],.bx [.o,.o,(.fM 0 0 (([g]:Ws).map aE)),(.pv (af i))]] (y8 h1 (ah h2) (aH aE b) (bL h3) (bG aE (Eq.refl (0:Int)) h4) h5 (gA bJ ([g]:Ws)) h6)
theorem e2(a b:Ws)(c:Int)(k:Nat)(v:UInt32)(d:Int)(up z:Ws)(n m k1:Nat)(v1:UInt32)(k2:Nat)(v2:UInt32){r:PV}(h1:Cp 63 [af a,af b] (vI c))(h2:0≤c)(h3:b.length≠1)(h4:bf ((b.length:Int)-1))(h5:((b.length:Int)-1)=(k:Int))(h6:b[k]? = some v)(h7:Cp 146 [vW v] (vI d))(h8:Cp 147 [af b,vI d] (af up))(h9:b.length≤up.length)(cE:ag aV 147 [.pv (af a),.pv (vI d)] [] (.row 0 0 n 1) [(0,(pW z))])(dC:bf ((n:Int)-(((up.take b.length).length:Nat):Int)))(dI:((n:Int)-(((up.take b.length).length:Nat):Int))=(m:Int))(ep:4*m≤140737488355328)(jq:bf ((((up.take b.length).length:Nat):Int)-1))(ky:((((up.take b.length).length:Nat):Int)-1)=(k1:Int))(mo:(up.take b.length)[k1]? = some v1)(ie:bf ((((up.take b.length).length:Nat):Int)-2))(oS:((((up.take b.length).length:Nat):Int)-2)=(k2:Int))(A1:(up.take b.length)[k2]? = some v2)(sF:bf ((m:Int)-1))(hL:ay d up b n m v1 v2 ((m:Int)-1) z (List.replicate m (0:UInt32)) r):Cp 106 [af a,af b] r :=
 eG func106 [1,1,1,1,1,1,3,1,1,1,6,1,1,1,5,1,1,3,1,1,1,3] [.q,.h 2 (.pv (vI c)),.f,.h 1 (iL b),.f,.bx [.o,.o,(iL b),(iI ((b.length:Int)-1)),(.row k (aE v)),.o,(.pv (vI d))],dr 9 2 [.none,.none,(.pv (af up)),.none,(iL b),(.fM 0 b.length (((up.take b.length):Ws).map aE)),.none,.none,(.bm [] (some (0,55)) (.row 0 0 n 1) [(0,(pW z))])],.bx [.o,.o,.o,(iI (((up.take b.length).length:Nat):Int)),(iI ((n:Int)-(((up.take b.length).length:Nat):Int))),(.app m ((List.replicate m (0:UInt32):Ws).map aE).flatten)],dr 15 1 [.none,.none,(iI (((up.take b.length).length:Nat):Int)),(iI ((((up.take b.length).length:Nat):Int)-1)),(.row k1 (aE v1)),.none,iU v1.toNat,.none,.none,(iI (((up.take b.length).length:Nat):Int)),(iI ((((up.take b.length).length:Nat):Int)-2)),(.row k2 (aE v2)),.none,iU v2.toNat],.h 2 (iI ((m:Int)-1)),.aW [8,9,10,11,12,13,14],.ord [55,61]] (SJ h1 (ah h2) (aH aE b) (aZ h3) (aH aE b) (b9 h4) (bG aE h5 h6) h7 h8 (aH aE b) (jH bJ (up:Ws) (rN b.length) h9) cE (aH aE (up.take b.length)) (b9 dC) (uB aE 0 4 m dI ep rfl) (aH aE (up.take b.length)) (b9 jq) (bG aE ky mo) (oM v1) (aH aE (up.take b.length)) (b9 ie) (bG aE oS A1) (oM v2) (b9 sF)) hL
theorem eu(c:Int)(up b:Ws)(n m:Nat)(v1 v2:UInt32)(d:Int)(g i:Ws)(l u:Nat)(v:UInt32)(z k:Nat)(v3:UInt32)(z1 q m1:Nat){r:PV}(h1:0≤d)(h2:bf (d+(((up.take b.length).length:Nat):Int)))(h3:bf ((d+(((up.take b.length).length:Nat):Int))+1))(h4:d=(l:Int))(h5:((d+(((up.take b.length).length:Nat):Int))+1)=(u:Int))(h6:l=0∨l<u)(h7:l≤u)(h8:u≤n)(h9:(up.take b.length).length<(u-l))(cE:g[(0+l*1)+((up.take b.length).length)]? = some v)(dC:(v.toNat*2^(min 32 64))%18446744073709551616=z)(dI:bf ((((up.take b.length).length:Nat):Int)-1))(ep:((((up.take b.length).length:Nat):Int)-1)=(k:Int))(jq:k<(u-l))(ky:g[(0+l*1)+k]? = some v3)(mo:(z%18446744073709551616) ||| (v3.toNat%18446744073709551616)=z1)(ie:v1.toNat≠0)(oS:(z1/v1.toNat)%18446744073709551616=q)(A1:z1%v1.toNat=m1)(hL:bS c up b n m v1 v2 d l u q m1 g i r):ay c up b n m v1 v2 d g i r :=
 lG [1,1,1,1,5,1,2,1,1,1,1,1,2] [.a,.q,.t,.bx [.o,.o,.o,.o,(iI (((up.take b.length).length:Nat):Int)),(iI (d+(((up.take b.length).length:Nat):Int))),(iI ((d+(((up.take b.length).length:Nat):Int))+1)),(.fM l u [])],dr 15 1 [.none,.none,(iI (((up.take b.length).length:Nat):Int)),(.nat ((up.take b.length).length)),(.ev (.pv (vW v))),iU v.toNat,iU z,.none,.none,(iI (((up.take b.length).length:Nat):Int)),(iI ((((up.take b.length).length:Nat):Int)-1)),(.nat k),(.ev (.pv (vW v3))),iU v3.toNat,iU z1],dr 7 1 [.none,.none,iU q,.none,.none,iU m1],.aW [8,9,10,11,12,13,14,15,17,18]] (UA (dV h1) (aH aE (up.take b.length)) (jk h2) (jk h3) (SG h4 h5 h6 h7 h8) (aH aE (up.take b.length)) (cj (Eq.refl ((((up.take b.length).length:Nat):Int):Int)) h9) (oN (enc:=aE) (f:=fun a=>(vW a)) (fun _=>rfl) cE) (oM v) (iw (k := .u64) dC) (aH aE (up.take b.length)) (b9 dI) (cj ep jq) (oN (enc:=aE) (f:=fun a=>(vW a)) (fun _=>rfl) ky) (oM v3) (mK mo) (AK ie oS) (AL ie A1)) hL
theorem dp(c:Int)(up b:Ws)(n m:Nat)(v1 v2:UInt32)(d:Int)(g i j k:Ws)(h1:d<0)(h2:m=i.length)(h3:n=g.length)(h4:Cp 107 [af i] (af j))(h5:Cp 150 [af g,vI c] (af k)):ay c up b n m v1 v2 d g i (.bg [af j,af k]) :=
 lD [1,3,3] [.a,.q,.f,.jz 11 ((i:Ws).map aE),.jz 10 ((g:Ws).map aE),.bx [.o,(.pv (af j)),.o,.o,(.pv (af k))]] (y5 (aX h1) (dJ bJ (i:Ws) h2) (dJ bJ (g:Ws) h3) h4 h5)
theorem yn(c:Int)(up b:Ws)(n m:Nat)(v1 v2:UInt32)(g:Int)(l u i j:Nat)(k p:Ws)(d s:Nat){r:PV}(h1:j<4294967296)(h2:4294967296≤i)(h3:((i:Nat)-(1:Nat):Int)%18446744073709551616=(d:Int))(h4:(j+v1.toNat)%18446744073709551616=s)(hL:bS c up b n m v1 v2 g l u d s k p r):bS c up b n m v1 v2 g l u i j k p r :=
 lG [] [.a,.bx [.o,.o,.o,.o,.o,.o,.skip,.skip,.skip,.skip,.skip,.skip,.skip,.skip,.skip,.skip,.skip,.skip,.skip,.skip,(.dec true),(.dec true)],.a,.h 1 (iU d),.h 2 (iU s),.aW [8,9,10,11,12,13,14,15,17,18]] (UC (aG h1) (aG h1) (aG h1) (cK h2) (cK h2) (cK h2) (cK h2) (cK h2) (cK h2) (cK h2) (cK h2) (cK h2) (cK h2) (cK h2) (cK h2) (cK h2) (cK h2) (aG h1) (cK h2) (aG h1) (eP h3) (fk h4)) hL
theorem zf(c:Int)(up b:Ws)(n m:Nat)(v1 v2:UInt32)(g:Int)(l u i j:Nat)(q w:Ws)(p z k:Nat)(v:UInt32)(z1 d s:Nat){r:PV}(h1:j<4294967296)(h2:i<4294967296)(h3:(i*v2.toNat)%18446744073709551616=p)(h4:(j*2^(min 32 64))%18446744073709551616=z)(h5:bf ((((up.take b.length).length:Nat):Int)-2))(h6:((((up.take b.length).length:Nat):Int)-2)=(k:Int))(h7:k<(u-l))(h8:q[(0+l*1)+k]? = some v)(h9:(z%18446744073709551616) ||| (v.toNat%18446744073709551616)=z1)(cE:z1<p)(dC:((i:Nat)-(1:Nat):Int)%18446744073709551616=(d:Int))(dI:(j+v1.toNat)%18446744073709551616=s)(hL:bS c up b n m v1 v2 g l u d s q w r):bS c up b n m v1 v2 g l u i j q w r :=
 lG [1,1,1,1,1,1,1,1,1,1,1,1,1,1,1,1,1,2] [.a,.bx [.o,.o,.o,.o,.o,.o,.o,.o,iU p,.o,iU z,.o,.o,(iI (((up.take b.length).length:Nat):Int)),(iI ((((up.take b.length).length:Nat):Int)-2)),(.nat k),(.ev (.pv (vW v))),iU v.toNat,iU z1,.o,(.dec false),(.dec true)],.t,.h 1 (iU d),.h 2 (iU s),.aW [8,9,10,11,12,13,14,15,17,18]] (Z5 (aG h1) (aG h1) (aG h1) (b7 h2) (b7 h2) (b7 h2) (oL h3) (b7 h2) (b7 h2) (iw (k := .u64) h4) (b7 h2) (b7 h2) (b7 h2) (aH aE (up.take b.length)) (b7 h2) (b9 h5) (b7 h2) (cj h6 h7) (b7 h2) (oN (enc:=aE) (f:=fun a=>(vW a)) (fun _=>rfl) h8) (b7 h2) (oM v) (b7 h2) (mK h9) (b7 h2) (aG h1) (b7 h2) (aG h1) (aG cE) (eP dC) (fk dI)) hL
theorem Rz(c:Int)(up b:Ws)(n m:Nat)(v1 v2:UInt32)(g:Int)(l u i j:Nat)(q s:Ws)(p z k:Nat)(v:UInt32)(z1:Nat)(z2:Ws)(x:Bool)(d:Nat)(z3:Ws)(w:UInt32)(k1:Nat){r:PV}(h1:j<4294967296)(h2:i<4294967296)(h3:(i*v2.toNat)%18446744073709551616=p)(h4:(j*2^(min 32 64))%18446744073709551616=z)(h5:bf ((((up.take b.length).length:Nat):Int)-2))(h6:((((up.take b.length).length:Nat):Int)-2)=(k:Int))(h7:k<(u-l))(h8:q[(0+l*1)+k]? = some v)(h9:(z%18446744073709551616) ||| (v.toNat%18446744073709551616)=z1)(cE:p≤z1)(dC:ag aV 148 [.row 100000 (0+l*1) (u-l) 1,.pv (af (up.take b.length)),.pv (vU i)] [(100000,(pW q))] (.pv (vB x)) [(100000,(pW z2))])(dI:x=true)(ep:((i:Nat)-(1:Nat):Int)%18446744073709551616=(d:Int))(jq:ag aV 149 [.row 100000 (0+l*1) (u-l) 1,.pv (af (up.take b.length))] [(100000,(pW z2))] (.pv (.bg [])) [(100000,(pW z3))])(ky:d%4294967296=w.toNat)(mo:g=(k1:Int))(ie:k1<m)(oS:k1<s.length)(A1:bf (g-1))(hL:ay c up b n m v1 v2 (g-1) z3 (s.set k1 w) r):bS c up b n m v1 v2 g l u i j q s r :=
 lG [1,1,1,1,1,1,1,1,1,1,1,1,1,1,1,1,1,2,1,1,1,1,1,1,1,1,1,1,1,1,1,1,1,1,2,2] [.a,.bx [.o,.o,.o,.o,.o,.o,.o,.o,iU p,.o,iU z,.o,.o,(iI (((up.take b.length).length:Nat):Int)),(iI ((((up.take b.length).length:Nat):Int)-2)),(.nat k),(.ev (.pv (vW v))),iU v.toNat,iU z1,.o,(.dec false),(.dec true)],.f,.h 3 (.bm [(55,100000)] none (.pv (vB x)) [(100000,(pW z2))]),.t,.h 1 (iU d),.h 2 (.bm [(55,100000)] none (.pv (.bg [])) [(100000,(pW z3))]),.bx [.o,.o,.o,iW w,(.nat k1),(.cells (.pure (((s.set k1 w):Ws).map aE).flatten))],.h 1 (iI (g-1)),.aW [8,9,10,11,12,13,14]] (Z9 (aG h1) (aG h1) (aG h1) (b7 h2) (b7 h2) (b7 h2) (oL h3) (b7 h2) (b7 h2) (iw (k := .u64) h4) (b7 h2) (b7 h2) (b7 h2) (aH aE (up.take b.length)) (b7 h2) (b9 h5) (b7 h2) (cj h6 h7) (b7 h2) (oN (enc:=aE) (f:=fun a=>(vW a)) (fun _=>rfl) h8) (b7 h2) (oM v) (b7 h2) (mK h9) (b7 h2) (aG h1) (b7 h2) (aG h1) (aL cE) dC dI (eP ep) jq (dz ky) (cj mo ie) (jw bJ (s:Ws) w oS) (b9 A1)) hL
theorem SM(c:Int)(up b:Ws)(n m:Nat)(v1 v2:UInt32)(d:Int)(l u g i:Nat)(j q:Ws)(p z k:Nat)(v:UInt32)(z1:Nat)(z2:Ws)(s:Bool)(w:UInt32)(k1:Nat){r:PV}(h1:i<4294967296)(h2:g<4294967296)(h3:(g*v2.toNat)%18446744073709551616=p)(h4:(i*2^(min 32 64))%18446744073709551616=z)(h5:bf ((((up.take b.length).length:Nat):Int)-2))(h6:((((up.take b.length).length:Nat):Int)-2)=(k:Int))(h7:k<(u-l))(h8:j[(0+l*1)+k]? = some v)(h9:(z%18446744073709551616) ||| (v.toNat%18446744073709551616)=z1)(cE:p≤z1)(dC:ag aV 148 [.row 100000 (0+l*1) (u-l) 1,.pv (af (up.take b.length)),.pv (vU g)] [(100000,(pW j))] (.pv (vB s)) [(100000,(pW z2))])(dI:s=false)(ep:g%4294967296=w.toNat)(jq:d=(k1:Int))(ky:k1<m)(mo:k1<q.length)(ie:bf (d-1))(hL:ay c up b n m v1 v2 (d-1) z2 (q.set k1 w) r):bS c up b n m v1 v2 d l u g i j q r :=
 lG [1,1,1,1,1,1,1,1,1,1,1,1,1,1,1,1,1,2,1,1,1,1,1,1,1,1,1,1,1,1,1,1,2,2] [.a,.bx [.o,.o,.o,.o,.o,.o,.o,.o,iU p,.o,iU z,.o,.o,(iI (((up.take b.length).length:Nat):Int)),(iI ((((up.take b.length).length:Nat):Int)-2)),(.nat k),(.ev (.pv (vW v))),iU v.toNat,iU z1,.o,(.dec false),(.dec true)],.f,.h 3 (.bm [(55,100000)] none (.pv (vB s)) [(100000,(pW z2))]),.f,.bx [.o,.o,.o,iW w,(.nat k1),(.cells (.pure (((q.set k1 w):Ws).map aE).flatten))],.h 1 (iI (d-1)),.aW [8,9,10,11,12,13,14]] (Z7 (aG h1) (aG h1) (aG h1) (b7 h2) (b7 h2) (b7 h2) (oL h3) (b7 h2) (b7 h2) (iw (k := .u64) h4) (b7 h2) (b7 h2) (b7 h2) (aH aE (up.take b.length)) (b7 h2) (b9 h5) (b7 h2) (cj h6 h7) (b7 h2) (oN (enc:=aE) (f:=fun a=>(vW a)) (fun _=>rfl) h8) (b7 h2) (oM v) (b7 h2) (mK h9) (b7 h2) (aG h1) (b7 h2) (aG h1) (aL cE) dC dI (dz ep) (cj jq ky) (jw bJ (q:Ws) w mo) (b9 ie)) hL
theorem UF(c:Int)(up b:Ws)(n m:Nat)(v1 v2:UInt32)(g:Int)(l u i j:Nat)(p q z:Ws)(s:Bool)(d:Nat)(z1:Ws)(w:UInt32)(k:Nat){r:PV}(h1:4294967296≤j)(h2:ag aV 148 [.row 100000 (0+l*1) (u-l) 1,.pv (af (up.take b.length)),.pv (vU i)] [(100000,(pW p))] (.pv (vB s)) [(100000,(pW z))])(h3:s=true)(h4:((i:Nat)-(1:Nat):Int)%18446744073709551616=(d:Int))(h5:ag aV 149 [.row 100000 (0+l*1) (u-l) 1,.pv (af (up.take b.length))] [(100000,(pW z))] (.pv (.bg [])) [(100000,(pW z1))])(h6:d%4294967296=w.toNat)(h7:g=(k:Int))(h8:k<m)(h9:k<q.length)(cE:bf (g-1))(hL:ay c up b n m v1 v2 (g-1) z1 (q.set k w) r):bS c up b n m v1 v2 g l u i j p q r :=
 lG [1,1,1,1,1,1,1,1,1,1,2,2] [.a,.bx [.o,.o,.o,.skip,.skip,.skip,.skip,.skip,.skip,.skip,.skip,.skip,.skip,.skip,.skip,.skip,.skip,.skip,.skip,.skip,.skip,(.dec false)],.a,.h 3 (.bm [(55,100000)] none (.pv (vB s)) [(100000,(pW z))]),.t,.h 1 (iU d),.h 2 (.bm [(55,100000)] none (.pv (.bg [])) [(100000,(pW z1))]),.bx [.o,.o,.o,iW w,(.nat k),(.cells (.pure (((q.set k w):Ws).map aE).flatten))],.h 1 (iI (g-1)),.aW [8,9,10,11,12,13,14]] (F5 (aL h1) (aL h1) (aL h1) (aL h1) (aL h1) h2 h3 (eP h4) h5 (dz h6) (cj h7 h8) (jw bJ (q:Ws) w h9) (b9 cE)) hL
theorem YC(c:Int)(up b:Ws)(n m:Nat)(v1 v2:UInt32)(d:Int)(l u g i:Nat)(j p z:Ws)(q:Bool)(w:UInt32)(k:Nat){r:PV}(h1:4294967296≤i)(h2:ag aV 148 [.row 100000 (0+l*1) (u-l) 1,.pv (af (up.take b.length)),.pv (vU g)] [(100000,(pW j))] (.pv (vB q)) [(100000,(pW z))])(h3:q=false)(h4:g%4294967296=w.toNat)(h5:d=(k:Int))(h6:k<m)(h7:k<p.length)(h8:bf (d-1))(hL:ay c up b n m v1 v2 (d-1) z (p.set k w) r):bS c up b n m v1 v2 d l u g i j p r :=
 lG [1,1,1,1,1,1,1,1,2,2] [.a,.bx [.o,.o,.o,.skip,.skip,.skip,.skip,.skip,.skip,.skip,.skip,.skip,.skip,.skip,.skip,.skip,.skip,.skip,.skip,.skip,.skip,(.dec false)],.a,.h 3 (.bm [(55,100000)] none (.pv (vB q)) [(100000,(pW z))]),.f,.bx [.o,.o,.o,iW w,(.nat k),(.cells (.pure (((p.set k w):Ws).map aE).flatten))],.h 1 (iI (d-1)),.aW [8,9,10,11,12,13,14]] (H7 (aL h1) (aL h1) (aL h1) (aL h1) (aL h1) h2 h3 (dz h4) (cj h5 h6) (jw bJ (p:Ws) w h7) (b9 h8)) hL
end bU
namespace jZ
@[reducible] def fn:Func:=Tryz.f107
def bM:List eh:=focus [0,2,0,2,0,0,0] [.code (aS fn)]
def inv1(m:List UInt32)(PZ:Int):St:=⟨[(0,(.pv (af m))),(3,(eI PZ))],[]⟩
@[reducible] def ay(m:List UInt32)(PZ:Int)(r:PV):Prop:=L aV fn bM (inv1 m PZ) r
theorem e0 (m : Ws) {r : PV}  (hL : ay m (m.length : Int) r) : Cp 107 [af m] r :=
 eG func107 [] [.q,.h 1 (iL m),.aW [0,3]] (y1 (aH aE m)) hL
theorem eu(m:Ws)(b:Int)(k:Nat)(v:UInt32){r:PV}(h1:0<b)(h2:bf (b-1))(h3:(b-1)=(k:Int))(h4:m[k]? = some v)(h5:v.toNat=0)(hL:ay m (b-1) r):ay m b r :=
 lG [1,1,1,1,1,3] [.a,.bx [.o,.o,.o,.o,.o,(iI (b-1)),(.row k (aE v)),.o,.o,(.dec true)],.t,.h 1 (iI (b-1)),.aW [0,3]] (H7 (br h1) (br h1) (br h1) (b9 h2) (br h1) (bG aE h3 h4) (br h1) (br h1) (br h1) (bL h5) (b9 h2)) hL
theorem im(m:Ws)(b:Int)(k:Nat)(v:UInt32)(u:Nat)(h1:0<b)(h2:bf (b-1))(h3:(b-1)=(k:Int))(h4:m[k]? = some v)(h5:v.toNat≠0)(h6:b≠0)(h7:b=(u:Int))(h8:u≤m.length)(h9:(([]:Ws)++(m.take u):Ws).length*4≤140737488355328):ay m b (af (m.take u)) :=
 lD [1,1,1,1,1,3,1,1,1,1,1,6,6,3] [.a,.bx [.o,.o,.o,.o,.o,(iI (b-1)),(.row k (aE v)),.o,.o,(.dec true)],.f,.q,.f,.bx [.o,.o,.o,(.fM 0 u (((m.take u):Ws).map aE)),(.app ((m.take u):Ws).length (((m.take u):Ws).map aE).flatten)],.jz 2 (((m.take u):Ws).map aE)] (PW (br h1) (br h1) (br h1) (b9 h2) (br h1) (bG aE h3 h4) (br h1) (br h1) (br h1) (aZ h5) (dc h6) (jH bJ (m:Ws) h7 h8) (tp bJ ([]:Ws) ((m.take u):Ws) 4 (Eq.refl ([]:Ws).length) h9 rfl) (dJ bJ ((m.take u):Ws) (Eq.refl ((m.take u):Ws).length)))
theorem ym(m:Ws)(b:Int)(h1:b≤0)(h2:b=0):ay m b (af []) :=
 lD [] [.a,.bx [.o,.o,.o,.skip,.skip,.skip,.skip,.skip,.skip,(.dec false)],.a,.q,.t,.q] (y8 (ah h1) (ah h1) (ah h1) (ah h1) (ah h1) (ah h1) (ah h1) (dG h2))
end jZ
namespace lP
@[reducible] def fn:Func:=Tryz.f110
def bM:List eh:=focus [0,2,0,2,0,2,0,0,2,0,0] [.code (aS fn)]
def inv1(a b:List UInt32)(rG mQ:Nat)(lQ:List UInt32):St:=⟨[(0,(.pv (af a))),(1,(.pv (af b))),(5,(.row 14 0 ((max a.length b.length)+1) 1)),(6,(eU rG)),(16,(eI ((((max a.length b.length)+1):Nat):Int))),(17,(eI (mQ:Int)))],[(14,(.pure ((lQ:List UInt32).map aE).flatten))]⟩
@[reducible] def ay(a b:List UInt32)(rG mQ:Nat)(lQ:List UInt32)(r:PV):Prop:=L aV fn bM (inv1 a b rG mQ lQ) r
theorem e0(a b:Ws){r:PV}(h1:((max a.length b.length)+1)<9223372036854775808)(h2:4*((max a.length b.length)+1)≤140737488355328)(hL:ay a b 0 0 (List.replicate ((max a.length b.length)+1) (0:UInt32)) r):Cp 110 [af a,af b] r :=
 eG func110 [1,1,1,1,5] [.q,.bx [.o,(iL a),.o,(iL b),(iI (((max a.length b.length):Nat):Int)),(iI ((((max a.length b.length)+1):Nat):Int)),(.app ((max a.length b.length)+1) ((List.replicate ((max a.length b.length)+1) (0:UInt32):Ws).map aE).flatten)],.q,.q,.aW [0,1,5,6,16,17]] (y5 (aH aE a) (aH aE b) (AR a.length b.length) (bj h1) (uB aE 0 4 ((max a.length b.length)+1) (Eq.refl (((((max a.length b.length)+1):Nat):Int):Int)) h2 rfl)) hL
theorem eu(a b:Ws)(c d:Nat)(g:Ws)(i j s s1:Nat)(w:UInt32)(z:Nat){r:PV}(h1:d<((max a.length b.length)+1))(h2:Cp 151 [af a,(vI (d:Int))] (vU i))(h3:Cp 151 [af b,(vI (d:Int))] (vU j))(h4:(i+j)%18446744073709551616=s)(h5:(c+s)%18446744073709551616=s1)(h6:s1%4294967296=w.toNat)(h7:d<g.length)(h8:s1/2^(min 32 64)=z)(h9:(d+1)<9223372036854775808)(hL:ay a b z (d+1) (g.set d w) r):ay a b c d g r :=
 lG [1,1,1,1,1,1,2,2] [.a,.q,.t,.q,.bx [.o,.o,.o,(.pv (vU i)),.o,.o,(.pv (vU j)),iU s,iU s1],.bx [.o,.o,.o,iW w,(.nat d),(.cells (.pure (((g.set d w):Ws).map aE).flatten))],.h 1 (iU z),.h 0 (iI (((d+1):Nat):Int)),.aW [0,1,5,6,16,17]] (F4 (aG h1) h2 h3 (fk h4) (fk h5) (dz h6) (cj (rN d) h1) (jw bJ (g:Ws) w h7) (dO (k := .u64) h8) (bj h9)) hL
theorem dp(a b:Ws)(c d:Nat)(g i:Ws)(h1:((max a.length b.length)+1)≤d)(h2:((max a.length b.length)+1)=g.length)(h3:Cp 107 [af g] (af i)):ay a b c d g (af i) :=
 lD [1,3] [.a,.q,.f,.jz 5 ((g:Ws).map aE),.h 1 (.pv (af i))] (y3 (aL h1) (dJ bJ (g:Ws) h2) h3)
end lP
namespace lS
@[reducible] def fn:Func:=Tryz.f111
def bM:List eh:=focus [0,2,0,2,0,2,0,0,2,0,0] [.code (aS fn)]
def inv1(a b:List UInt32)(oT GX:Nat)(rH:List UInt32):St:=⟨[(0,(.pv (af a))),(1,(.pv (af b))),(5,(.row 11 0 a.length 1)),(6,(eU oT)),(13,(eI (a.length:Int))),(14,(eI (GX:Int)))],[(11,(.pure ((rH:List UInt32).map aE).flatten))]⟩
@[reducible] def ay(a b:List UInt32)(oT GX:Nat)(rH:List UInt32)(r:PV):Prop:=L aV fn bM (inv1 a b oT GX rH) r
theorem e0(a b:Ws){r:PV}(h1:4*a.length≤140737488355328)(hL:ay a b 0 0 (List.replicate a.length (0:UInt32)) r):Cp 111 [af a,af b] r :=
 eG func111 [1,5] [.q,.bx [.o,(iL a),(.app a.length ((List.replicate a.length (0:UInt32):Ws).map aE).flatten)],.q,.q,.aW [0,1,5,6,13,14]] (y2 (aH aE a) (uB aE 0 4 a.length (rN a.length) h1 rfl)) hL
theorem eu(a b:Ws)(c g:Nat)(i:Ws)(v:UInt32)(j d d1:Nat)(w:UInt32)(z:Nat){r:PV}(h1:g<a.length)(h2:a[g]? = some v)(h3:Cp 151 [af b,(vI (g:Int))] (vU j))(h4:((v.toNat:Nat)-(j:Nat):Int)%18446744073709551616=(d:Int))(h5:((d:Nat)-(c:Nat):Int)%18446744073709551616=(d1:Int))(h6:d1%4294967296=w.toNat)(h7:g<i.length)(h8:d1/2^(min 63 64)=z)(h9:(g+1)<9223372036854775808)(hL:ay a b z (g+1) (i.set g w) r):ay a b c g i r :=
 lG [1,3,1,1,1,1,1,2,2] [.a,.q,.t,.q,dr 11 1 [.none,.none,(.row g (aE v)),.none,iU v.toNat,.none,.none,(.pv (vU j)),iU d,.none,iU d1],.bx [.o,.o,.o,iW w,(.nat g),(.cells (.pure (((i.set g w):Ws).map aE).flatten))],.h 1 (iU z),.h 0 (iI (((g+1):Nat):Int)),.aW [0,1,5,6,13,14]] (H7 (aG h1) (bG aE (rN g) h2) (oM v) h3 (eP h4) (eP h5) (dz h6) (cj (rN g) h1) (jw bJ (i:Ws) w h7) (dO (k := .u64) h8) (bj h9)) hL
theorem dp(a b:Ws)(c d:Nat)(g i:Ws)(h1:a.length≤d)(h2:a.length=g.length)(h3:Cp 107 [af g] (af i)):ay a b c d g (af i) :=
 lD [1,3] [.a,.q,.f,.jz 5 ((g:Ws).map aE),.h 1 (.pv (af i))] (y3 (aL h1) (dJ bJ (g:Ws) h2) h3)
end lS
namespace kz
@[reducible] def fn:Func:=Tryz.f145
def bM:List eh:=focus [0,2,0,2,0,2,0,0,2,0,0] [.code (aS fn)]
def inv1(a:List UInt32)(b:UInt32)(GY:Nat)(Wh:Int)(rH:List UInt32):St:=⟨[(0,(.pv (af a))),(1,(eW b)),(6,(.row 11 0 a.length 1)),(7,(eU GY)),(8,(eI Wh))],[(11,(.pure ((rH:List UInt32).map aE).flatten))]⟩
@[reducible] def ay(a:List UInt32)(b:UInt32)(GY:Nat)(Wh:Int)(rH:List UInt32)(r:PV):Prop:=L aV fn bM (inv1 a b GY Wh rH) r
theorem e0(a:Ws)(b:UInt32){r:PV}(h1:4*a.length≤140737488355328)(h2:bf ((a.length:Int)-1))(hL:ay a b 0 ((a.length:Int)-1) (List.replicate a.length (0:UInt32)) r):Cp 145 [af a,vW b] r :=
 eG func145 [1,5] [.q,.bx [.o,(iL a),(.app a.length ((List.replicate a.length (0:UInt32):Ws).map aE).flatten)],.q,.bx [.o,(iL a),(iI ((a.length:Int)-1))],.aW [0,1,6,7,8]] (y4 (aH aE a) (uB aE 0 4 a.length (rN a.length) h1 rfl) (aH aE a) (b9 h2)) hL
theorem eu(a:Ws)(b:UInt32)(c:Nat)(d:Int)(g:Ws)(z k:Nat)(v:UInt32)(z1 q:Nat)(w:UInt32)(k1 m:Nat){r:PV}(h1:0≤d)(h2:(c*2^(min 32 64))%18446744073709551616=z)(h3:d=(k:Int))(h4:a[k]? = some v)(h5:(z%18446744073709551616) ||| (v.toNat%18446744073709551616)=z1)(h6:b.toNat≠0)(h7:(z1/b.toNat)%18446744073709551616=q)(h8:q%4294967296=w.toNat)(h9:d=(k1:Int))(cE:k1<a.length)(dC:k1<g.length)(dI:z1%b.toNat=m)(ep:bf (d-1))(hL:ay a b m (d-1) (g.set k1 w) r):ay a b c d g r :=
 lG [1,1,3,1,1,1,1,1,2,2] [.a,.q,.t,.bx [.o,iU z,.o,.o,(.row k (aE v)),.o,iU v.toNat,iU z1],.bx [.o,.o,.o,.o,iU b.toNat,iU q,iW w,(.nat k1),(.cells (.pure (((g.set k1 w):Ws).map aE).flatten))],.bx [.o,.o,iU b.toNat,iU m],.h 1 (iI (d-1)),.aW [0,1,6,7,8]] (F5 (dV h1) (iw (k := .u64) h2) (bG aE h3 h4) (oM v) (mK h5) (oM b) (AK h6 h7) (dz h8) (cj h9 cE) (jw bJ (g:Ws) w dC) (oM b) (AL h6 dI) (b9 ep)) hL
theorem dp(a:Ws)(b:UInt32)(c:Nat)(d:Int)(g i:Ws)(w:UInt32)(h1:d<0)(h2:a.length=g.length)(h3:Cp 107 [af g] (af i))(h4:c%4294967296=w.toNat):ay a b c d g (.bg [af i,vW w]) :=
 lD [1,3] [.a,.q,.f,.jz 6 ((g:Ws).map aE),.bx [.o,(.pv (af i)),.o,iW w]] (y4 (aX h1) (dJ bJ (g:Ws) h2) h3 (dz h4))
end kz
namespace kA
theorem e0(x:UInt32)(a:Int)(h1:Cp 197 [vW x] (vI a))(h2:bf (32-a)):Cp 146 [vW x] (vI (32-a)) :=
 eD func146 [] [.q,.bx [.o,(.pv (vI a)),(iI (32-a))]] (y2 h1 (b9 h2))
end kA
namespace oV
@[reducible] def fn:Func:=Tryz.f147
def bM:List eh:=focus [0,2,0,2,0,0,2,0,0] [.code (aS fn)]
def inv1(n:Int)(a:List UInt32)(kM:Nat)(rI:List UInt32):St:=⟨[(1,(eI n)),(5,(.row 12 0 (a.length+1) 1)),(13,(.pv (af a))),(14,(eI (a.length:Int))),(15,(eI (kM:Int)))],[(12,(.pure ((rI:List UInt32).map aE).flatten))]⟩
@[reducible] def ay(n:Int)(a:List UInt32)(kM:Nat)(rI:List UInt32)(r:PV):Prop:=L aV fn bM (inv1 n a kM rI) r
theorem e0(a:Ws)(n:Int){r:PV}(h1:(a.length+1)<9223372036854775808)(h2:4*(a.length+1)≤140737488355328)(hL:ay n a 0 (List.replicate (a.length+1) (0:UInt32)) r):Cp 147 [af a,vI n] r :=
 eG func147 [1,1,5] [.q,.bx [.o,(iL a),(iI (((a.length+1):Nat):Int)),(.app (a.length+1) ((List.replicate (a.length+1) (0:UInt32):Ws).map aE).flatten)],.h 1 (iL a),.aW [1,5,13,14,15]] (y4 (aH aE a) (bj h1) (uB aE 0 4 (a.length+1) (rN (a.length+1)) h2 rfl) (aH aE a)) hL
theorem eu(n:Int)(a:Ws)(b:Nat)(c:Ws)(v:UInt32)(k z:Nat)(v1 w z1:UInt32)(z2:Nat)(w1:UInt32){r:PV}(h1:b<a.length)(h2:a[b]? = some v)(h3:n=(k:Int))(h4:(v.toNat*2^(min k 64))%18446744073709551616=z)(h5:b<(a.length+1))(h6:c[b]? = some v1)(h7:z%4294967296=w.toNat)(h8:(v1.toNat%4294967296) ||| (w.toNat%4294967296)=z1.toNat)(h9:b<c.length)(cE:(b+1)<9223372036854775808)(dC:z/2^(min 32 64)=z2)(dI:z2%4294967296=w1.toNat)(ep:(b+1)<(a.length+1))(jq:(b+1)<(c.set b z1).length)(hL:ay n a (b+1) ((c.set b z1).set (b+1) w1) r):ay n a b c r :=
 lG [1,3,1,1,2,1,1,1,2,2,1,1,1,2,2] [.a,.q,.t,.h 1 (.row b (aE v)),.bx [.o,iU v.toNat,.o,iU z],.bx [.o,.o,(.nat b),(.ev (.pv (vW v1))),.o,iW w,iW z1,(.nat b),(.cells (.pure (((c.set b z1):Ws).map aE).flatten))],.bx [.o,.o,(iI (((b+1):Nat):Int)),.o,iU z2,iW w1,(.nat (b+1)),(.cells (.pure ((((c.set b z1).set (b+1) w1):Ws).map aE).flatten))],.h 0 (iI (((b+1):Nat):Int)),.aW [1,5,13,14,15]] (Nj (aG h1) (bG aE (rN b) h2) (oM v) (KQ h3 (iw (k := .i64) h4)) (cj (rN b) h5) (et (enc:=aE) (f:=fun a=>(vW a)) (fun _=>rfl) h6) (dz h7) (CI h8) (cj (rN b) h5) (jw bJ (c:Ws) z1 h9) (bj cE) (dO (k := .u64) dC) (dz dI) (cj (rN (b+1)) ep) (jw bJ ((c.set b z1):Ws) w1 jq) (bj cE)) hL
theorem dp(n:Int)(a:Ws)(b:Nat)(c:Ws)(h1:a.length≤b)(h2:(a.length+1)=c.length):ay n a b c (af c) :=
 lD [1,3] [.a,.q,.f,.q,.jz 4 ((c:Ws).map aE)] (y2 (aL h1) (dJ bJ (c:Ws) h2))
end oV
namespace nu
@[reducible] def fn:Func:=Tryz.f147
def bM:List eh:=focus [0,2,0,2,0,0,2,0,0] [.code (aS fn)]
def inv1(n:Int)(a:List UInt32)(kM:Nat)(rI:List UInt32):St:=⟨[(1,(eI n)),(5,(.row 12 0 (a.length+1) 1)),(13,(.pv (af a))),(14,(eI (a.length:Int))),(15,(eI (kM:Int)))],[(12,(.pure ((rI:List UInt32).map aE).flatten))]⟩
@[reducible] def ay(n:Int)(a:List UInt32)(kM:Nat)(rI:List UInt32)(sin:aY)(r:EV)(sout:aY):Prop:=LX aV fn bM (inv1 n a kM rI) sin r sout
theorem e0(a:Ws)(n:Int){r:EV}{sout:aY}(h1:(a.length+1)<9223372036854775808)(h2:4*(a.length+1)≤140737488355328)(hL:ay n a 0 (List.replicate (a.length+1) (0:UInt32)) [] r sout):ag aV 147 [(.pv (af a)),eI n] [] r sout :=
 AT func147 [1,1,5] [.q,.bx [.o,(iL a),(iI (((a.length+1):Nat):Int)),(.app (a.length+1) ((List.replicate (a.length+1) (0:UInt32):Ws).map aE).flatten)],.h 1 (iL a),.aW [1,5,13,14,15]] (y4 (aH aE a) (bj h1) (uB aE 0 4 (a.length+1) (rN (a.length+1)) h2 rfl) (aH aE a)) hL
theorem eu(n:Int)(a:Ws)(b:Nat)(c:Ws)(v:UInt32)(k z:Nat)(v1 w z1:UInt32)(z2:Nat)(w1:UInt32){r:EV}{sout:aY}{sin:aY}(hs:dX fn sin)(h1:b<a.length)(h2:a[b]? = some v)(h3:n=(k:Int))(h4:(v.toNat*2^(min k 64))%18446744073709551616=z)(h5:b<(a.length+1))(h6:c[b]? = some v1)(h7:z%4294967296=w.toNat)(h8:(v1.toNat%4294967296) ||| (w.toNat%4294967296)=z1.toNat)(h9:b<c.length)(cE:(b+1)<9223372036854775808)(dC:z/2^(min 32 64)=z2)(dI:z2%4294967296=w1.toNat)(ep:(b+1)<(a.length+1))(jq:(b+1)<(c.set b z1).length)(hL:ay n a (b+1) ((c.set b z1).set (b+1) w1) sin r sout):ay n a b c sin r sout :=
 sI [1,3,1,1,2,1,1,1,2,2,1,1,1,2,2] [.a,.q,.t,.h 1 (.row b (aE v)),.bx [.o,iU v.toNat,.o,iU z],.bx [.o,.o,(.nat b),(.ev (.pv (vW v1))),.o,iW w,iW z1,(.nat b),(.cells (.pure (((c.set b z1):Ws).map aE).flatten))],.bx [.o,.o,(iI (((b+1):Nat):Int)),.o,iU z2,iW w1,(.nat (b+1)),(.cells (.pure ((((c.set b z1).set (b+1) w1):Ws).map aE).flatten))],.h 0 (iI (((b+1):Nat):Int)),.aW [1,5,13,14,15]] hs (Nj (aG h1) (bG aE (rN b) h2) (oM v) (KQ h3 (iw (k := .i64) h4)) (cj (rN b) h5) (et (enc:=aE) (f:=fun a=>(vW a)) (fun _=>rfl) h6) (dz h7) (CI h8) (cj (rN b) h5) (jw bJ (c:Ws) z1 h9) (bj cE) (dO (k := .u64) dC) (dz dI) (cj (rN (b+1)) ep) (jw bJ ((c.set b z1):Ws) w1 jq) (bj cE)) hL
theorem dp(n:Int)(a:Ws)(b:Nat)(c:Ws){sin:aY}(hs:dX fn sin)(hi:sin.all (fun p=>nP p.1||(aY.get [(0,(.pure (((c.take (a.length+1)):Ws).map aE).flatten))] p.1).isSome)=true)(h1:a.length≤b):ay n a b c sin (.row 0 0 (a.length+1) 1) [(0,(.pure (((c.take (a.length+1)):Ws).map aE).flatten))] :=
 vP [] [.a,.q,.f,.q,.pH 12 0,.cut 0 ((a.length+1)*1) (((c.take (a.length+1)):Ws).map aE).flatten,.ord [0]] hs hi (y2 (aL h1) (AQ bJ (c:Ws) (a.length+1)))
end nu
namespace jK
@[reducible] def fn:Func:=Tryz.f148
def bM:List eh:=focus [0,2,0,2,0,0,2,0,0] [.code (aS fn)]
def inv1(off len:Nat)(v:List UInt32)(n DU A2 oW:Nat)(bV:List UInt32):St:=⟨[(0,(.row 100000 off len 1)),(1,(.pv (af v))),(2,(eU n)),(7,(eU DU)),(8,(eU A2)),(12,(eI (len:Int))),(13,(eI (oW:Int)))],[(100000,(.pure ((bV:List UInt32).map aE).flatten))]⟩
@[reducible] def ay(off len:Nat)(v:List UInt32)(n DU A2 oW:Nat)(bV:List UInt32)(sin:aY)(r:EV)(sout:aY):Prop:=LX aV fn bM (inv1 off len v n DU A2 oW bV) sin r sout
theorem e0 (u : Ws) (a b : Nat) (v : Ws) (n : Nat) {r : EV} {sout : aY}  (hL : ay a b v n 0 0 0 u [(100000, (pW u))] r sout) : ag aV 148 [(.row 100000 a b 1), (.pv (af v)), eU n] [(100000, (pW u))] r sout :=
 AT func148 [] [.q,.q,.q,.aW [0,1,2,7,8,12,13]] True.intro hL
theorem eu(b c:Nat)(v:Ws)(n g i j:Nat)(l:Ws)(m p s:Nat)(v1 w:UInt32)(d d1:Nat)(w1:UInt32)(z z1:Nat){r:EV}{sout:aY}{sin:aY}(hs:dX fn sin)(h1:j<c)(h2:Cp 151 [af v,(vI (j:Int))] (vU m))(h3:(n*m)%18446744073709551616=p)(h4:(g+p)%18446744073709551616=s)(h5:l[b+j]? = some v1)(h6:s%4294967296=w.toNat)(h7:((v1.toNat:Nat)-(w.toNat:Nat):Int)%18446744073709551616=(d:Int))(h8:((d:Nat)-(i:Nat):Int)%18446744073709551616=(d1:Int))(h9:d1%4294967296=w1.toNat)(cE:(b+j)<l.length)(dC:d1/2^(min 63 64)=z)(dI:s/2^(min 32 64)=z1)(ep:(j+1)<9223372036854775808)(hL:ay b c v n z1 z (j+1) (l.set (b+j) w1) sin r sout):ay b c v n g i j l sin r sout :=
 sI [1,1,1,1,2,1,1,1,1,1,1,1,2,2] [.a,.q,.t,.q,.bx [.o,.o,.o,.o,(.pv (vU m)),iU p,iU s],.bx [.o,.o,(.nat j),(.ev (.pv (vW v1))),iU v1.toNat,.o,iW w,iU w.toNat,iU d,.o,iU d1],.bx [.o,.o,.o,iW w1,(.nat j),(.cells (.pure (((l.set (b+j) w1):Ws).map aE).flatten))],.h 1 (iU z),.h 1 (iU z1),.h 0 (iI (((j+1):Nat):Int)),.aW [0,1,2,7,8,12,13]] hs (Nk (aG h1) h2 (oL h3) (fk h4) (cj (rN j) h1) (oN (enc:=aE) (f:=fun a=>(vW a)) (fun _=>rfl) h5) (oM v1) (dz h6) (oM w) (eP h7) (eP h8) (dz h9) (cj (rN j) h1) (DQ bJ (l:Ws) w1 b j cE) (dO (k := .u64) dC) (dO (k := .u64) dI) (bj ep)) hL
theorem dp(b c:Nat)(v:Ws)(n d g i:Nat)(j:Ws){sin:aY}(hs:dX fn sin)(hi:sin.all (fun p=>nP p.1||(aY.get [(100000,(pW j))] p.1).isSome)=true)(h1:c≤i):ay b c v n d g i j sin (.pv (vB ((g:Int)==1))) [(100000,(pW j))] :=
 vP [] [.a,.q,.f,.q,.ord [100000]] hs hi (y1 (aL h1))
end jK
namespace lT
@[reducible] def fn:Func:=Tryz.f149
def bM:List eh:=focus [0,2,0,2,0,0] [.code (aS fn)]
def inv1(off len:Nat)(v:List UInt32)(DV qp:Nat)(bV:List UInt32):St:=⟨[(0,(.row 100000 off len 1)),(1,(.pv (af v))),(4,(eU DV)),(7,(eI (len:Int))),(8,(eI (qp:Int)))],[(100000,(.pure ((bV:List UInt32).map aE).flatten))]⟩
@[reducible] def ay(off len:Nat)(v:List UInt32)(DV qp:Nat)(bV:List UInt32)(sin:aY)(r:EV)(sout:aY):Prop:=LX aV fn bM (inv1 off len v DV qp bV) sin r sout
theorem e0 (u : Ws) (a b : Nat) (v : Ws) {r : EV} {sout : aY}  (hL : ay a b v 0 0 u [(100000, (pW u))] r sout) : ag aV 149 [(.row 100000 a b 1), (.pv (af v))] [(100000, (pW u))] r sout :=
 AT func149 [] [.q,.q,.aW [0,1,4,7,8]] True.intro hL
theorem eu(b c:Nat)(v:Ws)(d g:Nat)(i:Ws)(v1:UInt32)(j s s1:Nat)(w:UInt32)(z:Nat){r:EV}{sout:aY}{sin:aY}(hs:dX fn sin)(h1:g<c)(h2:i[b+g]? = some v1)(h3:Cp 151 [af v,(vI (g:Int))] (vU j))(h4:(v1.toNat+j)%18446744073709551616=s)(h5:(d+s)%18446744073709551616=s1)(h6:s1%4294967296=w.toNat)(h7:(b+g)<i.length)(h8:s1/2^(min 32 64)=z)(h9:(g+1)<9223372036854775808)(hL:ay b c v z (g+1) (i.set (b+g) w) sin r sout):ay b c v d g i sin r sout :=
 sI [1,2,1,1,1,1,1,1,2,2] [.a,.q,.t,.q,dr 11 1 [.none,.none,.none,(.nat g),(.ev (.pv (vW v1))),iU v1.toNat,.none,.none,(.pv (vU j)),iU s,iU s1],.bx [.o,.o,.o,iW w,(.nat g),(.cells (.pure (((i.set (b+g) w):Ws).map aE).flatten))],.h 1 (iU z),.h 0 (iI (((g+1):Nat):Int)),.aW [0,1,4,7,8]] hs (H8 (aG h1) (cj (rN g) h1) (oN (enc:=aE) (f:=fun a=>(vW a)) (fun _=>rfl) h2) (oM v1) h3 (fk h4) (fk h5) (dz h6) (cj (rN g) h1) (DQ bJ (i:Ws) w b g h7) (dO (k := .u64) h8) (bj h9)) hL
theorem dp(b c:Nat)(v:Ws)(d g:Nat)(i:Ws){sin:aY}(hs:dX fn sin)(hi:sin.all (fun p=>nP p.1||(aY.get [(100000,(pW i))] p.1).isSome)=true)(h1:c≤g):ay b c v d g i sin (.pv (.bg [])) [(100000,(pW i))] :=
 vP [] [.a,.q,.f,.ord [100000]] hs hi (y1 (aL h1))
end lT
namespace lU
@[reducible] def fn:Func:=Tryz.f150
def bM:List eh:=focus [0,2,0,2,0,0,2,0,0] [.code (aS fn)]
def inv1(a:List UInt32)(n:Int)(A3:Nat)(iC:List UInt32):St:=⟨[(0,(.pv (af a))),(1,(eI n)),(5,(.row 9 0 a.length 1)),(11,(eI (a.length:Int))),(12,(eI (A3:Int)))],[(9,(.pure ((iC:List UInt32).map aE).flatten))]⟩
@[reducible] def ay(a:List UInt32)(n:Int)(A3:Nat)(iC:List UInt32)(r:PV):Prop:=L aV fn bM (inv1 a n A3 iC) r
theorem e0(a:Ws)(n:Int){r:PV}(h1:4*a.length≤140737488355328)(hL:ay a n 0 (List.replicate a.length (0:UInt32)) r):Cp 150 [af a,vI n] r :=
 eG func150 [1,5] [.q,.bx [.o,(iL a),(.app a.length ((List.replicate a.length (0:UInt32):Ws).map aE).flatten)],.h 1 (iL a),.aW [0,1,5,11,12]] (y3 (aH aE a) (uB aE 0 4 a.length (rN a.length) h1 rfl) (aH aE a)) hL
theorem eu(a:Ws)(n:Int)(b:Nat)(c:Ws)(v:UInt32)(d z z1 k z2:Nat)(w:UInt32){r:PV}(h1:b<a.length)(h2:a[b]? = some v)(h3:(b+1)<9223372036854775808)(h4:Cp 151 [af a,(vI (((b+1):Nat):Int))] (vU d))(h5:(d*2^(min 32 64))%18446744073709551616=z)(h6:(v.toNat%18446744073709551616) ||| (z%18446744073709551616)=z1)(h7:n=(k:Int))(h8:z1/2^(min k 64)=z2)(h9:z2%4294967296=w.toNat)(cE:b<c.length)(hL:ay a n (b+1) (c.set b w) r):ay a n b c r :=
 lG [1,3,1,1,1,1,1,1,1,2,2] [.a,.q,.t,.q,dr 17 1 [.none,.none,.none,.none,(.row b (aE v)),.none,iU v.toNat,.none,.none,(iI (((b+1):Nat):Int)),(.pv (vU d)),iU z,iU z1,.none,iU z2,iW w,(.nat b),(.cells (.pure (((c.set b w):Ws).map aE).flatten))],.h 0 (iI (((b+1):Nat):Int)),.aW [0,1,5,11,12]] (H8 (aG h1) (bG aE (rN b) h2) (oM v) (bj h3) h4 (iw (k := .u64) h5) (mK h6) (KQ h7 (dO (k := .i64) h8)) (dz h9) (cj (rN b) h1) (jw bJ (c:Ws) w cE) (bj h3)) hL
theorem dp(a:Ws)(n:Int)(b:Nat)(c d:Ws)(h1:a.length≤b)(h2:a.length=c.length)(h3:Cp 107 [af c] (af d)):ay a n b c (af d) :=
 lD [1,3] [.a,.q,.f,.jz 5 ((c:Ws).map aE),.h 1 (.pv (af d))] (y3 (aL h1) (dJ bJ (c:Ws) h2) h3)
end lU
namespace rJ
theorem e0(m:Ws)(i:Int)(k:Nat)(v:UInt32)(h1:i<(m.length:Int))(h2:i=(k:Int))(h3:m[k]? = some v):Cp 151 [af m,vI i] (vU v.toNat) :=
 eD func151 [1,1,3] [.q,.h 2 (iL m),.t,.bx [.o,.o,(.row k (aE v)),.o,iU v.toNat]] (y4 (aH aE m) (br h1) (bG aE h2 h3) (oM v))
theorem e1(m:Ws)(i:Int)(h1:(m.length:Int)≤i):Cp 151 [af m,vI i] (vU 0) :=
 eD func151 [] [.q,.h 2 (iL m),.f,.q] (y2 (aH aE m) (ah h1))
end rJ
namespace iR
theorem e0(x z z1:UInt32)(m b:Nat)(h1:65536≤x.toNat)(h2:x.toNat/2^(min 16 32)=z.toNat)(h3:256≤z.toNat)(h4:z.toNat/2^(min 8 32)=z1.toNat)(h5:z1.toNat%256=m)(h6:((ByteArray.mk #[0,1,2,2,3,3,3,3,4,4,4,4,4,4,4,4,5,5,5,5,5,5,5,5,5,5,5,5,5,5,5,5,6,6,6,6,6,6,6,6,6,6,6,6,6,6,6,6,6,6,6,6,6,6,6,6,6,6,6,6,6,6,6,6,7,7,7,7,7,7,7,7,7,7,7,7,7,7,7,7,7,7,7,7,7,7,7,7,7,7,7,7,7,7,7,7,7,7,7,7,7,7,7,7,7,7,7,7,7,7,7,7,7,7,7,7,7,7,7,7,7,7,7,7,7,7,7,7,8,8,8,8,8,8,8,8,8,8,8,8,8,8,8,8,8,8,8,8,8,8,8,8,8,8,8,8,8,8,8,8,8,8,8,8,8,8,8,8,8,8,8,8,8,8,8,8,8,8,8,8,8,8,8,8,8,8,8,8,8,8,8,8,8,8,8,8,8,8,8,8,8,8,8,8,8,8,8,8,8,8,8,8,8,8,8,8,8,8,8,8,8,8,8,8,8,8,8,8,8,8,8,8,8,8,8,8,8,8,8,8,8,8,8,8,8,8,8,8,8,8,8,8,8,8,8,8]).data.toList[m]?).map (fun b=>(b.toNat:Int))=some (b:Int))(h7:b<9223372036854775808)(h8:(24+b)<9223372036854775808):Cp 197 [vW x] (vI (((24+b):Nat):Int)) :=
 eD func197 [1,1,1,1,1,2] [.q,.q,.t,.h 1 (iW z),.q,.q,.t,.h 1 (iW z1),.q,.bx [.o,.o,(.pv (.int .u8 (m:Int))),(.row m [.int .u8 (b:Int)]),(iI (b:Int)),(iI (((24+b):Nat):Int))]] (y8 (cK h1) (rA (k := .u64) h2) (cK h3) (rA (k := .u64) h4) (AN h5) (cj (rN m) h6) (wI h7) (bj h8))
theorem e1(x z:UInt32)(m b:Nat)(h1:65536≤x.toNat)(h2:x.toNat/2^(min 16 32)=z.toNat)(h3:z.toNat<256)(h4:z.toNat%256=m)(h5:((ByteArray.mk #[0,1,2,2,3,3,3,3,4,4,4,4,4,4,4,4,5,5,5,5,5,5,5,5,5,5,5,5,5,5,5,5,6,6,6,6,6,6,6,6,6,6,6,6,6,6,6,6,6,6,6,6,6,6,6,6,6,6,6,6,6,6,6,6,7,7,7,7,7,7,7,7,7,7,7,7,7,7,7,7,7,7,7,7,7,7,7,7,7,7,7,7,7,7,7,7,7,7,7,7,7,7,7,7,7,7,7,7,7,7,7,7,7,7,7,7,7,7,7,7,7,7,7,7,7,7,7,7,8,8,8,8,8,8,8,8,8,8,8,8,8,8,8,8,8,8,8,8,8,8,8,8,8,8,8,8,8,8,8,8,8,8,8,8,8,8,8,8,8,8,8,8,8,8,8,8,8,8,8,8,8,8,8,8,8,8,8,8,8,8,8,8,8,8,8,8,8,8,8,8,8,8,8,8,8,8,8,8,8,8,8,8,8,8,8,8,8,8,8,8,8,8,8,8,8,8,8,8,8,8,8,8,8,8,8,8,8,8,8,8,8,8,8,8,8,8,8,8,8,8,8,8,8,8,8,8]).data.toList[m]?).map (fun b=>(b.toNat:Int))=some (b:Int))(h6:b<9223372036854775808)(h7:(16+b)<9223372036854775808):Cp 197 [vW x] (vI (((16+b):Nat):Int)) :=
 eD func197 [1,1,1,1,2] [.q,.q,.t,.h 1 (iW z),.q,.q,.f,.bx [.o,.o,(.pv (.int .u8 (m:Int))),(.row m [.int .u8 (b:Int)]),(iI (b:Int)),(iI (((16+b):Nat):Int))]] (y7 (cK h1) (rA (k := .u64) h2) (b7 h3) (AN h4) (cj (rN m) h5) (wI h6) (bj h7))
theorem e2(x z:UInt32)(m b:Nat)(h1:x.toNat<65536)(h2:256≤x.toNat)(h3:x.toNat/2^(min 8 32)=z.toNat)(h4:z.toNat%256=m)(h5:((ByteArray.mk #[0,1,2,2,3,3,3,3,4,4,4,4,4,4,4,4,5,5,5,5,5,5,5,5,5,5,5,5,5,5,5,5,6,6,6,6,6,6,6,6,6,6,6,6,6,6,6,6,6,6,6,6,6,6,6,6,6,6,6,6,6,6,6,6,7,7,7,7,7,7,7,7,7,7,7,7,7,7,7,7,7,7,7,7,7,7,7,7,7,7,7,7,7,7,7,7,7,7,7,7,7,7,7,7,7,7,7,7,7,7,7,7,7,7,7,7,7,7,7,7,7,7,7,7,7,7,7,7,8,8,8,8,8,8,8,8,8,8,8,8,8,8,8,8,8,8,8,8,8,8,8,8,8,8,8,8,8,8,8,8,8,8,8,8,8,8,8,8,8,8,8,8,8,8,8,8,8,8,8,8,8,8,8,8,8,8,8,8,8,8,8,8,8,8,8,8,8,8,8,8,8,8,8,8,8,8,8,8,8,8,8,8,8,8,8,8,8,8,8,8,8,8,8,8,8,8,8,8,8,8,8,8,8,8,8,8,8,8,8,8,8,8,8,8,8,8,8,8,8,8,8,8,8,8,8,8]).data.toList[m]?).map (fun b=>(b.toNat:Int))=some (b:Int))(h6:b<9223372036854775808)(h7:(8+b)<9223372036854775808):Cp 197 [vW x] (vI (((8+b):Nat):Int)) :=
 eD func197 [1,1,1,1,2] [.q,.q,.f,.q,.t,.h 1 (iW z),.q,.bx [.o,.o,(.pv (.int .u8 (m:Int))),(.row m [.int .u8 (b:Int)]),(iI (b:Int)),(iI (((8+b):Nat):Int))]] (y7 (b7 h1) (cK h2) (rA (k := .u64) h3) (AN h4) (cj (rN m) h5) (wI h6) (bj h7))
theorem e3(x:UInt32)(m b:Nat)(h1:x.toNat<65536)(h2:x.toNat<256)(h3:x.toNat%256=m)(h4:((ByteArray.mk #[0,1,2,2,3,3,3,3,4,4,4,4,4,4,4,4,5,5,5,5,5,5,5,5,5,5,5,5,5,5,5,5,6,6,6,6,6,6,6,6,6,6,6,6,6,6,6,6,6,6,6,6,6,6,6,6,6,6,6,6,6,6,6,6,7,7,7,7,7,7,7,7,7,7,7,7,7,7,7,7,7,7,7,7,7,7,7,7,7,7,7,7,7,7,7,7,7,7,7,7,7,7,7,7,7,7,7,7,7,7,7,7,7,7,7,7,7,7,7,7,7,7,7,7,7,7,7,7,8,8,8,8,8,8,8,8,8,8,8,8,8,8,8,8,8,8,8,8,8,8,8,8,8,8,8,8,8,8,8,8,8,8,8,8,8,8,8,8,8,8,8,8,8,8,8,8,8,8,8,8,8,8,8,8,8,8,8,8,8,8,8,8,8,8,8,8,8,8,8,8,8,8,8,8,8,8,8,8,8,8,8,8,8,8,8,8,8,8,8,8,8,8,8,8,8,8,8,8,8,8,8,8,8,8,8,8,8,8,8,8,8,8,8,8,8,8,8,8,8,8,8,8,8,8,8,8]).data.toList[m]?).map (fun b=>(b.toNat:Int))=some (b:Int))(h5:b<9223372036854775808)(h6:(0+b)<9223372036854775808):Cp 197 [vW x] (vI (((0+b):Nat):Int)) :=
 eD func197 [1,1,1,2] [.q,.q,.f,.q,.f,.bx [.o,.o,(.pv (.int .u8 (m:Int))),(.row m [.int .u8 (b:Int)]),(iI (b:Int)),(iI (((0+b):Nat):Int))]] (y6 (b7 h1) (b7 h2) (AN h3) (cj (rN m) h4) (wI h5) (bj h6))
end iR
namespace uS
theorem e0(x:Nat)(b:Int)(h1:Cp 263 [vU x] (vI b)):Cp 203 [vU x] (vI b) :=
 eD func203 [] [.q,.a,.h 1 (.pv (vI b))] (y1 h1)
end uS
namespace sf
theorem e7(x m b:Nat)(h1:x<4294967296)(h2:x<65536)(h3:x<256)(h4:x%256=m)(h5:((ByteArray.mk #[0,1,2,2,3,3,3,3,4,4,4,4,4,4,4,4,5,5,5,5,5,5,5,5,5,5,5,5,5,5,5,5,6,6,6,6,6,6,6,6,6,6,6,6,6,6,6,6,6,6,6,6,6,6,6,6,6,6,6,6,6,6,6,6,7,7,7,7,7,7,7,7,7,7,7,7,7,7,7,7,7,7,7,7,7,7,7,7,7,7,7,7,7,7,7,7,7,7,7,7,7,7,7,7,7,7,7,7,7,7,7,7,7,7,7,7,7,7,7,7,7,7,7,7,7,7,7,7,8,8,8,8,8,8,8,8,8,8,8,8,8,8,8,8,8,8,8,8,8,8,8,8,8,8,8,8,8,8,8,8,8,8,8,8,8,8,8,8,8,8,8,8,8,8,8,8,8,8,8,8,8,8,8,8,8,8,8,8,8,8,8,8,8,8,8,8,8,8,8,8,8,8,8,8,8,8,8,8,8,8,8,8,8,8,8,8,8,8,8,8,8,8,8,8,8,8,8,8,8,8,8,8,8,8,8,8,8,8,8,8,8,8,8,8,8,8,8,8,8,8,8,8,8,8,8,8]).data.toList[m]?).map (fun b=>(b.toNat:Int))=some (b:Int))(h6:b<9223372036854775808)(h7:(0+b)<9223372036854775808):Cp 263 [vU x] (vI (((0+b):Nat):Int)) :=
 eD func263 [1,1,1,1,2] [.q,.q,.f,.q,.f,.q,.f,.bx [.o,.o,(.pv (.int .u8 (m:Int))),(.row m [.int .u8 (b:Int)]),(iI (b:Int)),(iI (((0+b):Nat):Int))]] (y7 (b7 h1) (b7 h2) (b7 h3) (AN h4) (cj (rN m) h5) (wI h6) (bj h7))
end sf
namespace lV
theorem e0(a b c:aR)(d:Int)(h1:Cp 97 [a.pv,b.pv] c.pv)(h2:Cp 54 [c.pv] (vI d)):Cp 50 [a.pv,b.pv] (vI d) :=
 eD func50 [] [.q,.bx [.o,.o,(.pv c.pv),(.pv (vI d))]] (y2 h1 h2)
end lV
namespace lW
theorem e0(a b:aR)(c d g:Ws)(i:aR)(h1:Cp 100 [a.pv] (af c))(h2:Cp 100 [b.pv] (af d))(h3:Cp 99 [af c,af d] (af g))(h4:Cp 98 [vB false,af g] i.pv):Cp 51 [a.pv,b.pv] i.pv :=
 eD func51 [] [.q,dr 6 1 [.none,(.pv (af c)),.none,(.pv (af d)),(.pv (af g)),(.pv i.pv)]] (y4 h1 h2 h3 h4)
end lW
namespace ew
theorem e0(a:aR)(b:Ws)(h1:Cp 100 [a.pv] (af b))(h2:b.length=0):Cp 54 [a.pv] (vI 0) :=
 eD func54 [] [.q,.bx [.o,(.pv (af b)),(iL b)],.t,.q] (y3 h1 (aH aE b) (bL h2))
theorem e1(a:aR)(b:Ws)(c:Bool)(h1:Cp 100 [a.pv] (af b))(h2:b.length≠0)(h3:Cp 102 [a.pv] (vB c))(h4:c=true):Cp 54 [a.pv] (vI (-1)) :=
 eD func54 [] [.q,.bx [.o,(.pv (af b)),(iL b)],.f,.h 1 (.pv (vB c)),.t,.q] (y5 h1 (aH aE b) (aZ h2) h3 h4)
theorem e2(a:aR)(b:Ws)(c:Bool)(h1:Cp 100 [a.pv] (af b))(h2:b.length≠0)(h3:Cp 102 [a.pv] (vB c))(h4:c=false):Cp 54 [a.pv] (vI 1) :=
 eD func54 [] [.q,.bx [.o,(.pv (af b)),(iL b)],.f,.h 1 (.pv (vB c)),.f,.q] (y5 h1 (aH aE b) (aZ h2) h3 h4)
end ew
namespace lX
theorem e0(a b c d:aR)(h1:Cp 137 [b.pv] c.pv)(h2:Cp 136 [a.pv,c.pv] d.pv):Cp 97 [a.pv,b.pv] d.pv :=
 eD func97 [] [.q,dr 4 1 [.none,.none,(.pv c.pv),(.pv d.pv)]] (y2 h1 h2)
end lX
namespace kN
theorem e0(a:Bool)(m b:Ws)(h1:Cp 138 [af m] (af b))(h2:b.length=0):Cp 98 [vB a,af m] ((⟨false,[]⟩:aR).pv) :=
 eD func98 [] [.q,.h 1 (.pv (af b)),.h 1 (iL b),.t,.q] (y3 h1 (aH aE b) (bL h2))
theorem e1(a:Bool)(m b:Ws)(h1:Cp 138 [af m] (af b))(h2:b.length≠0):Cp 98 [vB a,af m] ((⟨a,b⟩:aR).pv) :=
 eD func98 [] [.q,.h 1 (.pv (af b)),.h 1 (iL b),.f,.q] (y3 h1 (aH aE b) (aZ h2))
end kN
namespace aQ
@[reducible] def fn:Func:=Tryz.f99
def bM:List eh:=focus [0,2,0,2,0,0,2,1,2,0,0,2,1,2,0,2,0,0,0] [.code (aS fn)]
def inv1(oX oY kO:Nat)(fI iC:List UInt32):St:=⟨[(0,(.row 7 0 oX 1)),(1,(.row 9 0 oY 1)),(5,(eI (kO:Int)))],[(7,(.pure ((fI:List UInt32).map aE).flatten)),(9,(.pure ((iC:List UInt32).map aE).flatten))]⟩
@[reducible] def ay(oX oY kO:Nat)(fI iC:List UInt32)(r:PV):Prop:=L aV fn bM (inv1 oX oY kO fI iC) r
def mP:List eh:=focus [0,2,0,2,0,0,2,1,2,0,0,2,1,2,0,2,0,0,0,0,0,0,2,1,2,2,2,2,0,0,0] [.code (aS fn)]
def inv2(oX oY kO:Nat)(fI iC:List UInt32):St:=⟨[(0,(.row 7 0 oX 1)),(1,(.row 9 0 oY 1)),(5,(eI (kO:Int)))],[(7,(.pure ((fI:List UInt32).map aE).flatten)),(9,(.pure ((iC:List UInt32).map aE).flatten))]⟩
@[reducible] def bS(oX oY kO:Nat)(fI iC:List UInt32)(r:PV):Prop:=L aV fn mP (inv2 oX oY kO fI iC) r
def GZ:List eh:=focus [0,2,0,2,0,0,2,1,2,0,0,2,1,2,0,2,0,0,0,0,0,0,2,1,2,2,2,2,0,0,0,0,0,0,2,0,2,0,0,0,0] [.code (aS fn)]
def G0(oX oY kO:Nat)(fI iC:List UInt32):St:=⟨[(0,(.row 7 0 oX 1)),(1,(.row 9 0 oY 1)),(5,(eI (kO:Int)))],[(7,(.pure ((fI:List UInt32).map aE).flatten)),(9,(.pure ((iC:List UInt32).map aE).flatten))]⟩
@[reducible] def kf(oX oY kO:Nat)(fI iC:List UInt32)(r:PV):Prop:=L aV fn GZ (G0 oX oY kO fI iC) r
def KW:List eh:=focus [0,2,0,2,0,0,2,1,2,0,0,2,1,2,0,2,0,0,0,0,0,0,2,1,2,2,2,2,0,0,0,0,0,0,2,1,2,2,2,2,0,0,2,0,0] [.code (aS fn)]
def KX(Wi:List UInt32)(P0 P1:Nat):St:=⟨[(1,(.pv (af Wi))),(64,(eI (P0:Int))),(65,(eI (P1:Int)))],[]⟩
@[reducible] def nv(Wi:List UInt32)(P0 P1:Nat)(r:PV):Prop:=L aV fn KW (KX Wi P0 P1) r
def Wj:List eh:=focus [0,2,0,2,0,0,2,1,2,0,0,2,1,2,0,2,0,0,0,0,0,0,2,1,2,2,2,2,0,0,0,0,0,0,2,0,2,0,0,0,0,0,0,0,2,1,2,2,2,2,0,0,0] [.code (aS fn)]
def Wk(oX oY kO:Nat)(fI iC:List UInt32):St:=⟨[(0,(.row 7 0 oX 1)),(1,(.row 9 0 oY 1)),(5,(eI (kO:Int)))],[(7,(.pure ((fI:List UInt32).map aE).flatten)),(9,(.pure ((iC:List UInt32).map aE).flatten))]⟩
@[reducible] def wN(oX oY kO:Nat)(fI iC:List UInt32)(r:PV):Prop:=L aV fn Wj (Wk oX oY kO fI iC) r
theorem e0(a b z:Ws)(n:Nat)(z1:Ws)(n1:Nat)(h1:ag aV 138 [.pv (af a)] [] (.row 0 0 n 1) [(0,(pW z))])(h2:ag aV 138 [.pv (af b)] [] (.row 0 0 n1 1) [(0,(pW z1))])(h3:n=0)(h4:n1=z1.length):Cp 99 [af a,af b] (af z1) :=
 eD func99 [1,1,1,3] [.q,.bx [.o,(.bm [] (some (0,7)) (.row 0 0 n 1) [(0,(pW z))]),.o,(.bm [] (some (0,9)) (.row 0 0 n1 1) [(0,(pW z1))])],.q,.t,.q,.jz 4 ((z1:Ws).map aE)] (y4 h1 h2 (bL h3) (dJ bJ (z1:Ws) h4))
theorem e1(a b z:Ws)(n:Nat)(z1:Ws)(n1:Nat)(h1:ag aV 138 [.pv (af a)] [] (.row 0 0 n 1) [(0,(pW z))])(h2:ag aV 138 [.pv (af b)] [] (.row 0 0 n1 1) [(0,(pW z1))])(h3:n≠0)(h4:n1=0)(h5:n=z.length):Cp 99 [af a,af b] (af z) :=
 eD func99 [1,1,1,1,3] [.q,.bx [.o,(.bm [] (some (0,7)) (.row 0 0 n 1) [(0,(pW z))]),.o,(.bm [] (some (0,9)) (.row 0 0 n1 1) [(0,(pW z1))])],.q,.f,.q,.t,.q,.jz 4 ((z:Ws).map aE)] (y5 h1 h2 (aZ h3) (bL h4) (dJ bJ (z:Ws) h5))
theorem e2(a b z:Ws)(n:Nat)(z1:Ws)(n1:Nat){r:PV}(h1:ag aV 138 [.pv (af a)] [] (.row 0 0 n 1) [(0,(pW z))])(h2:ag aV 138 [.pv (af b)] [] (.row 0 0 n1 1) [(0,(pW z1))])(h3:n≠0)(h4:n1≠0)(hL:ay n n1 0 z z1 r):Cp 99 [af a,af b] r :=
 eG func99 [] [.q,.bx [.o,(.bm [] (some (0,7)) (.row 0 0 n 1) [(0,(pW z))]),.o,(.bm [] (some (0,9)) (.row 0 0 n1 1) [(0,(pW z1))])],.q,.f,.q,.f,.q,.aW [0,1,5],.ord [7,9]] (y4 h1 h2 (aZ h3) (aZ h4)) hL
theorem eu(b c d:Nat)(g i:Ws)(v z v1 z1:UInt32)(z2:Ws)(n:Nat)(z3:Ws)(n1:Nat){r:PV}(h1:0<b)(h2:g[0]? = some v)(h3:(v.toNat%4294967296) &&& (1%4294967296)=z.toNat)(h4:z.toNat=0)(h5:0<c)(h6:i[0]? = some v1)(h7:(v1.toNat%4294967296) &&& (1%4294967296)=z1.toNat)(h8:z1.toNat=0)(h9:ag aV 139 [.row 100000 0 b 1] [(100000,(pW g))] (.row 100000 0 n 1) [(100000,(pW z2))])(cE:ag aV 139 [.row 100000 0 c 1] [(100000,(pW i))] (.row 100000 0 n1 1) [(100000,(pW z3))])(dC:(d+1)<9223372036854775808)(hL:ay n n1 (d+1) z2 z3 r):ay b c d g i r :=
 lG [2,1,1,1,1,2] [.a,.bx [.o,(.nat 0),(.ev (.pv (vW v))),iW z,.o,.o,.o,(.nat 0),(.ev (.pv (vW v1))),iW z1,.o,(.dec true)],.t,.bx [.o,(.bm [(7,100000)] none (.row 100000 0 n 1) [(100000,(pW z2))]),.o,(.bm [(9,100000)] none (.row 100000 0 n1 1) [(100000,(pW z3))])],.h 1 (iI (((d+1):Nat):Int)),.aW [0,1,5]] (Nj (cj (Eq.refl (0:Int)) h1) (et (enc:=aE) (f:=fun a=>(vW a)) (fun _=>rfl) h2) (gL h3) (bL h4) (bL h4) (cj (Eq.refl (0:Int)) h5) (bL h4) (et (enc:=aE) (f:=fun a=>(vW a)) (fun _=>rfl) h6) (bL h4) (gL h7) (bL h4) (bL h4) (bL h8) h9 cE (bj dC)) hL
theorem dp(b c d:Nat)(g i:Ws)(v z v1 z1:UInt32){r:PV}(h1:0<b)(h2:g[0]? = some v)(h3:(v.toNat%4294967296) &&& (1%4294967296)=z.toNat)(h4:z.toNat=0)(h5:0<c)(h6:i[0]? = some v1)(h7:(v1.toNat%4294967296) &&& (1%4294967296)=z1.toNat)(h8:z1.toNat≠0)(hL:bS b c d g i r):ay b c d g i r :=
 lG [2,1,1,1,1,2] [.a,.bx [.o,(.nat 0),(.ev (.pv (vW v))),iW z,.o,.o,.o,(.nat 0),(.ev (.pv (vW v1))),iW z1,.o,(.dec true)],.f,.aW [0,1,5]] (F5 (cj (Eq.refl (0:Int)) h1) (et (enc:=aE) (f:=fun a=>(vW a)) (fun _=>rfl) h2) (gL h3) (bL h4) (bL h4) (cj (Eq.refl (0:Int)) h5) (bL h4) (et (enc:=aE) (f:=fun a=>(vW a)) (fun _=>rfl) h6) (bL h4) (gL h7) (bL h4) (bL h4) (aZ h8)) hL
theorem im(b c d:Nat)(g i:Ws)(v z:UInt32){r:PV}(h1:0<b)(h2:g[0]? = some v)(h3:(v.toNat%4294967296) &&& (1%4294967296)=z.toNat)(h4:z.toNat≠0)(hL:bS b c d g i r):ay b c d g i r :=
 lG [2] [.a,.bx [.o,(.nat 0),(.ev (.pv (vW v))),iW z,.o,.o,.skip,.skip,.skip,.skip,.skip,(.dec false)],.a,.aW [0,1,5]] (y9 (cj (Eq.refl (0:Int)) h1) (et (enc:=aE) (f:=fun a=>(vW a)) (fun _=>rfl) h2) (gL h3) (aZ h4) (aZ h4) (aZ h4) (aZ h4) (aZ h4) (aZ h4)) hL
theorem yn(b c d:Nat)(g i:Ws){r:PV}(h1:0<b)(hL:kf b c d g i r):bS b c d g i r :=
 lG [] [.a,.q,.t,.aW [0,1,5]] (y1 (aG h1)) hL
theorem zf(b c d:Nat)(g i:Ws){r:PV}(h1:b≤0)(h2:c=i.length)(hL:nv i d 0 r):bS b c d g i r :=
 lG [1,3] [.a,.q,.f,.q,.jz 1 ((i:Ws).map aE),.aW [1,64,65],.drop [7]] (y2 (aL h1) (dJ bJ (i:Ws) h2)) hL
theorem RA(b c d:Nat)(g i:Ws)(v z:UInt32)(z1:Ws)(n:Nat){r:PV}(h1:0<b)(h2:g[0]? = some v)(h3:(v.toNat%4294967296) &&& (1%4294967296)=z.toNat)(h4:z.toNat=0)(h5:ag aV 139 [.row 100000 0 b 1] [(100000,(pW g))] (.row 100000 0 n 1) [(100000,(pW z1))])(hL:kf n c d z1 i r):kf b c d g i r :=
 lG [2] [.a,.bx [.o,(.nat 0),(.ev (.pv (vW v))),iW z],.t,.h 1 (.bm [(7,100000)] none (.row 100000 0 n 1) [(100000,(pW z1))]),.aW [0,1,5]] (y5 (cj (Eq.refl (0:Int)) h1) (et (enc:=aE) (f:=fun a=>(vW a)) (fun _=>rfl) h2) (gL h3) (bL h4) h5) hL
theorem P2(b c d:Nat)(g i:Ws)(v z:UInt32){r:PV}(h1:0<b)(h2:g[0]? = some v)(h3:(v.toNat%4294967296) &&& (1%4294967296)=z.toNat)(h4:z.toNat≠0)(hL:wN b c d g i r):kf b c d g i r :=
 lG [2] [.a,.bx [.o,(.nat 0),(.ev (.pv (vW v))),iW z],.f,.aW [0,1,5]] (y4 (cj (Eq.refl (0:Int)) h1) (et (enc:=aE) (f:=fun a=>(vW a)) (fun _=>rfl) h2) (gL h3) (aZ h4)) hL
theorem P4(b:Ws)(c d:Nat)(g:Ws){r:PV}(h1:d<c)(h2:Cp 143 [af b,af b] (af g))(h3:(d+1)<9223372036854775808)(hL:nv g c (d+1) r):nv b c d r :=
 lG [] [.a,.q,.t,.h 2 (.pv (af g)),.h 0 (iI (((d+1):Nat):Int)),.aW [1,64,65]] (y3 (aG h1) h2 (bj h3)) hL
theorem P5(b:Ws)(c d:Nat)(h1:c≤d):nv b c d (af b) :=
 lD [] [.a,.q,.f,.q] (y1 (aL h1))
theorem YD(b c d:Nat)(g i:Ws)(v z:UInt32)(z1:Ws)(n:Nat){r:PV}(h1:0<c)(h2:i[0]? = some v)(h3:(v.toNat%4294967296) &&& (1%4294967296)=z.toNat)(h4:z.toNat=0)(h5:ag aV 139 [.row 100000 0 c 1] [(100000,(pW i))] (.row 100000 0 n 1) [(100000,(pW z1))])(hL:wN b n d g z1 r):wN b c d g i r :=
 lG [2] [.a,.bx [.o,(.nat 0),(.ev (.pv (vW v))),iW z],.t,.h 1 (.bm [(9,100000)] none (.row 100000 0 n 1) [(100000,(pW z1))]),.aW [0,1,5]] (y5 (cj (Eq.refl (0:Int)) h1) (et (enc:=aE) (f:=fun a=>(vW a)) (fun _=>rfl) h2) (gL h3) (bL h4) h5) hL
theorem YE(b c d:Nat)(g i:Ws)(v z:UInt32)(z1 z2:Ws)(j:Int)(z3 z4 z5:Ws)(n:Nat){r:PV}(h1:0<c)(h2:i[0]? = some v)(h3:(v.toNat%4294967296) &&& (1%4294967296)=z.toNat)(h4:z.toNat≠0)(h5:ag aV 140 [.row 100000 0 b 1,.row 100001 0 c 1] [(100000,(pW g)),(100001,(pW i))] (.pv (vI j)) [(100000,(pW z1)),(100001,(pW z2))])(h6:j<0)(h7:ag aV 141 [.row 100000 0 c 1,.row 100001 0 b 1] [(100000,(pW z2)),(100001,(pW z1))] (.pv (.bg [])) [(100000,(pW z3)),(100001,(pW z4))])(h8:ag aV 142 [.row 100000 0 c 1] [(100000,(pW z3))] (.row 100000 0 n 1) [(100000,(pW z5))])(hL:bS n b d z5 z4 r):wN b c d g i r :=
 lG [2] [.a,.bx [.o,(.nat 0),(.ev (.pv (vW v))),iW z],.f,.h 2 (.bm [(7,100000),(9,100001)] none (.pv (vI j)) [(100000,(pW z1)),(100001,(pW z2))]),.t,.q,.h 2 (.bm [(9,100000),(7,100001)] none (.pv (.bg [])) [(100000,(pW z3)),(100001,(pW z4))]),.h 1 (.bm [(9,100000)] none (.row 100000 0 n 1) [(100000,(pW z5))]),.aW [0,1,5],.pH 9 71,.pH 7 9,.pH 71 7,.ord [7,9]] (y8 (cj (Eq.refl (0:Int)) h1) (et (enc:=aE) (f:=fun a=>(vW a)) (fun _=>rfl) h2) (gL h3) (aZ h4) h5 (br h6) h7 h8) hL
theorem YF(b c d:Nat)(g i:Ws)(v z:UInt32)(z1 z2:Ws)(j:Int)(z3 z4 z5:Ws)(n:Nat){r:PV}(h1:0<c)(h2:i[0]? = some v)(h3:(v.toNat%4294967296) &&& (1%4294967296)=z.toNat)(h4:z.toNat≠0)(h5:ag aV 140 [.row 100000 0 b 1,.row 100001 0 c 1] [(100000,(pW g)),(100001,(pW i))] (.pv (vI j)) [(100000,(pW z1)),(100001,(pW z2))])(h6:0≤j)(h7:ag aV 141 [.row 100000 0 b 1,.row 100001 0 c 1] [(100000,(pW z1)),(100001,(pW z2))] (.pv (.bg [])) [(100000,(pW z3)),(100001,(pW z4))])(h8:ag aV 142 [.row 100000 0 b 1] [(100000,(pW z3))] (.row 100000 0 n 1) [(100000,(pW z5))])(hL:bS n c d z5 z4 r):wN b c d g i r :=
 lG [2] [.a,.bx [.o,(.nat 0),(.ev (.pv (vW v))),iW z],.f,.h 2 (.bm [(7,100000),(9,100001)] none (.pv (vI j)) [(100000,(pW z1)),(100001,(pW z2))]),.f,.h 2 (.bm [(7,100000),(9,100001)] none (.pv (.bg [])) [(100000,(pW z3)),(100001,(pW z4))]),.h 1 (.bm [(7,100000)] none (.row 100000 0 n 1) [(100000,(pW z5))]),.aW [0,1,5]] (y8 (cj (Eq.refl (0:Int)) h1) (et (enc:=aE) (f:=fun a=>(vW a)) (fun _=>rfl) h2) (gL h3) (aZ h4) h5 (ah h6) h7 h8) hL
end aQ
namespace gB
theorem e0(a:aR)(b:Bool)(h1:Cp 144 [a.pv] (vB b))(h2:b=false):Cp 100 [a.pv] (af []) :=
 eD func100 [] [.q,.h 1 (.pv (vB b)),.t,.q] (y2 h1 (bE h2))
theorem e1(a:aR)(b:Bool)(h1:Cp 144 [a.pv] (vB b))(h2:b=true):Cp 100 [a.pv] (af a.db) :=
 eD func100 [] [.q,.h 1 (.pv (vB b)),.f,.q] (y2 h1 (av h2))
end gB
namespace mR
theorem e0(n:Int)(m m1:Nat)(w:UInt32)(z:Nat)(w1:UInt32)(a:aR)(h1:n%18446744073709551616=(m:Int))(h2:n<0)(h3:(0-(m:Int))%18446744073709551616=(m1:Int))(h4:m1%4294967296=w.toNat)(h5:m1/2^(min 32 64)=z)(h6:z%4294967296=w1.toNat)(h7:Cp 98 [(vB (decide (n<0))),(af [w,w1])] a.pv):Cp 101 [vI n] a.pv :=
 eD func101 [1,1,1,1,1,1,3] [.q,.h 1 (iU m),.q,.t,.h 1 (iU m1),.bx [.o,.o,.o,iW w,.o,iU z,iW w1,(.fM 0 0 (([w,w1]:Ws).map aE)),(.pv a.pv)]] (y8 (DP h1) (br h2) (AM h3) (dz h4) (dO (k := .u64) h5) (dz h6) (gA bJ ([w,w1]:Ws)) h7)
theorem e1(n:Int)(m:Nat)(w:UInt32)(z:Nat)(w1:UInt32)(a:aR)(h1:n%18446744073709551616=(m:Int))(h2:0≤n)(h3:m%4294967296=w.toNat)(h4:m/2^(min 32 64)=z)(h5:z%4294967296=w1.toNat)(h6:Cp 98 [(vB (decide (n<0))),(af [w,w1])] a.pv):Cp 101 [vI n] a.pv :=
 eD func101 [1,1,1,1,1,3] [.q,.h 1 (iU m),.q,.f,.bx [.o,.o,.o,iW w,.o,iU z,iW w1,(.fM 0 0 (([w,w1]:Ws).map aE)),(.pv a.pv)]] (y7 (DP h1) (ah h2) (dz h3) (dO (k := .u64) h4) (dz h5) (gA bJ ([w,w1]:Ws)) h6)
end mR
namespace gC
theorem e0(a:aR)(b:Bool)(h1:Cp 144 [a.pv] (vB b))(h2:b=true):Cp 102 [a.pv] (vB a.neg) :=
 eD func102 [] [.q,.bx [.o,(.pv (vB b)),.o,.o,.o,(.dec true)]] (y4 h1 h2 h2 h2)
theorem e1(a:aR)(b:Bool)(h1:Cp 144 [a.pv] (vB b))(h2:b=false):Cp 102 [a.pv] (vB false) :=
 eD func102 [] [.q,.bx [.o,(.pv (vB b)),.o,.skip,.skip,(.dec false)]] (y4 h1 h2 h2 h2)
end gC
namespace eQ
theorem e0(a b:aR)(c d:Ws)(g i j:Bool)(k:Ws)(l:aR)(h1:Cp 100 [a.pv] (af c))(h2:Cp 100 [b.pv] (af d))(h3:Cp 102 [a.pv] (vB g))(h4:Cp 102 [b.pv] (vB i))(h5:g=i)(h6:Cp 102 [a.pv] (vB j))(h7:Cp 143 [af c,af d] (af k))(h8:Cp 98 [vB j,af k] l.pv):Cp 136 [a.pv,b.pv] l.pv :=
 eD func136 [] [.q,dr 4 2 [.none,(.pv (af c)),.none,(.pv (af d))],dr 5 0 [.none,(.pv (vB g)),.none,(.pv (vB i))],.t,.bx [.o,(.pv (vB j)),.o,.o,(.pv (af k)),(.pv l.pv)]] (y8 h1 h2 h3 h4 (OC h5) h6 h7 h8)
theorem e1(a b:aR)(c d:Ws)(g i:Bool)(j:Int)(k:Bool)(l:Ws)(m:aR)(h1:Cp 100 [a.pv] (af c))(h2:Cp 100 [b.pv] (af d))(h3:Cp 102 [a.pv] (vB g))(h4:Cp 102 [b.pv] (vB i))(h5:g≠i)(h6:Cp 140 [af c,af d] (vI j))(h7:0≤j)(h8:Cp 102 [a.pv] (vB k))(h9:Cp 195 [af c,af d] (af l))(cE:Cp 98 [vB k,af l] m.pv):Cp 136 [a.pv,b.pv] m.pv :=
 eD func136 [] [.q,dr 4 2 [.none,(.pv (af c)),.none,(.pv (af d))],dr 5 0 [.none,(.pv (vB g)),.none,(.pv (vB i))],.f,.h 2 (.pv (vI j)),.t,.bx [.o,(.pv (vB k)),.o,.o,(.pv (af l)),(.pv m.pv)]] (F4 h1 h2 h3 h4 (Fe h5) h6 (dV h7) h8 h9 cE)
theorem e2(a b:aR)(c d:Ws)(g i:Bool)(j:Int)(k:Bool)(l:Ws)(m:aR)(h1:Cp 100 [a.pv] (af c))(h2:Cp 100 [b.pv] (af d))(h3:Cp 102 [a.pv] (vB g))(h4:Cp 102 [b.pv] (vB i))(h5:g≠i)(h6:Cp 140 [af c,af d] (vI j))(h7:j<0)(h8:Cp 102 [b.pv] (vB k))(h9:Cp 195 [af d,af c] (af l))(cE:Cp 98 [vB k,af l] m.pv):Cp 136 [a.pv,b.pv] m.pv :=
 eD func136 [] [.q,dr 4 2 [.none,(.pv (af c)),.none,(.pv (af d))],dr 5 0 [.none,(.pv (vB g)),.none,(.pv (vB i))],.f,.h 2 (.pv (vI j)),.f,.bx [.o,(.pv (vB k)),.o,.o,(.pv (af l)),(.pv m.pv)]] (F4 h1 h2 h3 h4 (Fe h5) h6 (aX h7) h8 h9 cE)
end eQ
namespace lY
theorem e0(a:aR)(b:Bool)(c:Ws)(d:aR)(h1:Cp 102 [a.pv] (vB b))(h2:Cp 100 [a.pv] (af c))(h3:Cp 98 [(vB (!b)),af c] d.pv):Cp 137 [a.pv] d.pv :=
 eD func137 [] [.q,dr 6 1 [.none,(.pv (vB b)),.none,.none,(.pv (af c)),(.pv d.pv)]] (y3 h1 h2 h3)
end lY
namespace fv
@[reducible] def fn:Func:=Tryz.f138
def bM:List eh:=focus [0,2,0,2,0,0,0] [.code (aS fn)]
def inv1(rK:List UInt32):St:=⟨[(3,(.row 6 0 rK.length 1))],[(6,(.pure ((rK:List UInt32).map aE).flatten))]⟩
@[reducible] def ay(rK:List UInt32)(r:PV):Prop:=L aV fn bM (inv1 rK) r
theorem e0(a:Ws){r:PV}(h1:(([]:Ws)++a:Ws).length*4≤140737488355328)(hL:ay a r):Cp 138 [af a] r :=
 eG func138 [6] [.q,.h 2 (.app (a:Ws).length ((a:Ws).map aE).flatten),.aW [3]] (y1 (tp bJ ([]:Ws) (a:Ws) 4 (Eq.refl ([]:Ws).length) h1 rfl)) hL
theorem eu(b:Ws)(k:Nat)(v:UInt32)(u:Nat){r:PV}(h1:0<b.length)(h2:bf ((b.length:Int)-1))(h3:((b.length:Int)-1)=(k:Int))(h4:k<b.length)(h5:b[k]? = some v)(h6:v.toNat=0)(h7:((b.length:Int)-1)=(u:Int))(h8:u≤(b:Ws).length)(hL:ay (b.take u) r):ay b r :=
 lG [1,1,1,1,1,1,2,1,1,1,1,1,1,5] [.a,.bx [.o,.o,.o,.o,.o,.o,.o,(iI ((b.length:Int)-1)),(.nat k),(.ev (.pv (vW v))),.o,(.dec true)],.t,.bx [.o,.o,.o,(iI ((b.length:Int)-1)),(.fM 0 ((b.take u).length) [])],.cut 6 (u*1) (((b.take u):Ws).map aE).flatten,.aW [3]] (Rw (aG h1) (aG h1) (aG h1) (aG h1) (b9 h2) (aG h1) (cj h3 h4) (aG h1) (et (enc:=aE) (f:=fun a=>(vW a)) (fun _=>rfl) h5) (aG h1) (aG h1) (bL h6) (b9 h2) (OI (b:Ws) h7 h8) (AQ bJ (b:Ws) u)) hL
theorem dp(b:Ws)(k:Nat)(v:UInt32)(h1:0<b.length)(h2:bf ((b.length:Int)-1))(h3:((b.length:Int)-1)=(k:Int))(h4:k<b.length)(h5:b[k]? = some v)(h6:v.toNat≠0):ay b (af b) :=
 lD [1,1,1,1,1,1,2,1,1,1,1,1,3] [.a,.bx [.o,.o,.o,.o,.o,.o,.o,(iI ((b.length:Int)-1)),(.nat k),(.ev (.pv (vW v))),.o,(.dec true)],.f,.q,.jz 2 ((b:Ws).map aE)] (F5 (aG h1) (aG h1) (aG h1) (aG h1) (b9 h2) (aG h1) (cj h3 h4) (aG h1) (et (enc:=aE) (f:=fun a=>(vW a)) (fun _=>rfl) h5) (aG h1) (aG h1) (aZ h6) (dJ bJ (b:Ws) (Eq.refl (b:Ws).length)))
theorem im(b:Ws)(h1:b.length≤0):ay b (af b) :=
 lD [1,1,1,1,1,1,1,1,3] [.a,.bx [.o,.o,.o,.o,.skip,.skip,.skip,.skip,.skip,.skip,.skip,(.dec false)],.a,.q,.jz 2 ((b:Ws).map aE)] (y9 (aL h1) (aL h1) (aL h1) (aL h1) (aL h1) (aL h1) (aL h1) (aL h1) (dJ bJ (b:Ws) (Eq.refl (b:Ws).length)))
end fv
namespace eX
@[reducible] def fn:Func:=Tryz.f138
def bM:List eh:=focus [0,2,0,2,0,0,0] [.code (aS fn)]
def inv1(rK:List UInt32):St:=⟨[(3,(.row 6 0 rK.length 1))],[(6,(.pure ((rK:List UInt32).map aE).flatten))]⟩
@[reducible] def ay(rK:List UInt32)(sin:aY)(r:EV)(sout:aY):Prop:=LX aV fn bM (inv1 rK) sin r sout
theorem e0(a:Ws){r:EV}{sout:aY}(h1:(([]:Ws)++a:Ws).length*4≤140737488355328)(hL:ay a [] r sout):ag aV 138 [(.pv (af a))] [] r sout :=
 AT func138 [6] [.q,.h 2 (.app (a:Ws).length ((a:Ws).map aE).flatten),.aW [3]] (y1 (tp bJ ([]:Ws) (a:Ws) 4 (Eq.refl ([]:Ws).length) h1 rfl)) hL
theorem eu(b:Ws)(k:Nat)(v:UInt32)(u:Nat){r:EV}{sout:aY}{sin:aY}(hs:dX fn sin)(h1:0<b.length)(h2:bf ((b.length:Int)-1))(h3:((b.length:Int)-1)=(k:Int))(h4:k<b.length)(h5:b[k]? = some v)(h6:v.toNat=0)(h7:((b.length:Int)-1)=(u:Int))(h8:u≤(b:Ws).length)(hL:ay (b.take u) sin r sout):ay b sin r sout :=
 sI [1,1,1,1,1,1,2,1,1,1,1,1,1,5] [.a,.bx [.o,.o,.o,.o,.o,.o,.o,(iI ((b.length:Int)-1)),(.nat k),(.ev (.pv (vW v))),.o,(.dec true)],.t,.bx [.o,.o,.o,(iI ((b.length:Int)-1)),(.fM 0 ((b.take u).length) [])],.cut 6 (u*1) (((b.take u):Ws).map aE).flatten,.aW [3]] hs (Rw (aG h1) (aG h1) (aG h1) (aG h1) (b9 h2) (aG h1) (cj h3 h4) (aG h1) (et (enc:=aE) (f:=fun a=>(vW a)) (fun _=>rfl) h5) (aG h1) (aG h1) (bL h6) (b9 h2) (OI (b:Ws) h7 h8) (AQ bJ (b:Ws) u)) hL
theorem dp(b:Ws)(k:Nat)(v:UInt32){sin:aY}(hs:dX fn sin)(hi:sin.all (fun p=>nP p.1||(aY.get [(0,(pW b))] p.1).isSome)=true)(h1:0<b.length)(h2:bf ((b.length:Int)-1))(h3:((b.length:Int)-1)=(k:Int))(h4:k<b.length)(h5:b[k]? = some v)(h6:v.toNat≠0):ay b sin (.row 0 0 b.length 1) [(0,(pW b))] :=
 vP [1,1,1,1,1,1,2] [.a,.bx [.o,.o,.o,.o,.o,.o,.o,(iI ((b.length:Int)-1)),(.nat k),(.ev (.pv (vW v))),.o,(.dec true)],.f,.q,.pH 6 0,.ord [0]] hs hi (H8 (aG h1) (aG h1) (aG h1) (aG h1) (b9 h2) (aG h1) (cj h3 h4) (aG h1) (et (enc:=aE) (f:=fun a=>(vW a)) (fun _=>rfl) h5) (aG h1) (aG h1) (aZ h6))
theorem im(b:Ws){sin:aY}(hs:dX fn sin)(hi:sin.all (fun p=>nP p.1||(aY.get [(0,(pW b))] p.1).isSome)=true)(h1:b.length≤0):ay b sin (.row 0 0 b.length 1) [(0,(pW b))] :=
 vP [] [.a,.bx [.o,.o,.o,.o,.skip,.skip,.skip,.skip,.skip,.skip,.skip,(.dec false)],.a,.q,.pH 6 0,.ord [0]] hs hi (y8 (aL h1) (aL h1) (aL h1) (aL h1) (aL h1) (aL h1) (aL h1) (aL h1))
end eX
namespace cW
@[reducible] def fn:Func:=Tryz.f139
def bM:List eh:=focus [0,2,0,0,2,0,0] [.code (aS fn)]
def inv1(len Wl:Nat)(bV:List UInt32):St:=⟨[(0,(.row 100000 0 len 1)),(5,(eI (len:Int))),(6,(eI (Wl:Int)))],[(100000,(.pure ((bV:List UInt32).map aE).flatten))]⟩
@[reducible] def ay(len Wl:Nat)(bV:List UInt32)(sin:aY)(r:EV)(sout:aY):Prop:=LX aV fn bM (inv1 len Wl bV) sin r sout
theorem e0 (a : Ws) (b : Nat) {r : EV} {sout : aY}  (hL : ay b 0 a [(100000, (pW a))] r sout) : ag aV 139 [(.row 100000 0 b 1)] [(100000, (pW a))] r sout :=
 AT func139 [] [.q,.q,.aW [0,5,6]] True.intro hL
theorem eu(b c:Nat)(d z:Ws)(g z1:Nat)(z2:Ws)(i z3 z4:Nat)(w:UInt32){r:EV}{sout:aY}{sin:aY}(hs:dX fn sin)(h1:c<b)(h2:ag aV 196 [.row 100000 0 b 1,.pv (vI (c:Int))] [(100000,(pW d))] (.pv (vU g)) [(100000,(pW z))])(h3:g/2^(min 1 64)=z1)(h4:(c+1)<9223372036854775808)(h5:ag aV 196 [.row 100000 0 b 1,.pv (vI (((c+1):Nat):Int))] [(100000,(pW z))] (.pv (vU i)) [(100000,(pW z2))])(h6:(i*2^(min 31 64))%18446744073709551616=z3)(h7:(z1%18446744073709551616) ||| (z3%18446744073709551616)=z4)(h8:z4%4294967296=w.toNat)(h9:c<z2.length)(hL:ay b (c+1) (z2.set c w) sin r sout):ay b c d sin r sout :=
 sI [1,1,1,1,1,1,1,1,2,2] [.a,.q,.t,.q,.bx [.o,.o,.o,.o,(.bm [(100000,100000)] none (.pv (vU g)) [(100000,(pW z))]),iU z1,.o,.o,(iI (((c+1):Nat):Int)),(.bm [(100000,100000)] none (.pv (vU i)) [(100000,(pW z2))]),iU z3,iU z4,iW w,(.nat c),(.cells (.pure (((z2.set c w):Ws).map aE).flatten))],.h 0 (iI (((c+1):Nat):Int)),.aW [0,5,6]] hs (H7 (aG h1) h2 (dO (k := .u64) h3) (bj h4) h5 (iw (k := .u64) h6) (mK h7) (dz h8) (cj (rN c) h1) (jw bJ (z2:Ws) w h9) (bj h4)) hL
theorem dp(b c:Nat)(d z:Ws)(n:Nat){sin:aY}(hs:dX fn sin)(hi:sin.all (fun p=>nP p.1||(aY.get [(100000,(.pure (((z.take n):Ws).map aE).flatten))] p.1).isSome)=true)(h1:b≤c)(h2:ag aV 142 [.row 100000 0 b 1] [(100000,(pW d))] (.row 100000 0 n 1) [(100000,(pW z))]):ay b c d sin (.row 100000 0 n 1) [(100000,(.pure (((z.take n):Ws).map aE).flatten))] :=
 vP [] [.a,.q,.f,.h 1 (.bm [(100000,100000)] none (.row 100000 0 n 1) [(100000,(pW z))]),.cut 100000 (n*1) (((z.take n):Ws).map aE).flatten,.ord [100000]] hs hi (y3 (aL h1) h2 (AQ bJ (z:Ws) n))
end cW
namespace dD
@[reducible] def fn:Func:=Tryz.f140
def bM:List eh:=focus [0,2,0,0,2,0,0] [.code (aS fn)]
def inv1(a b:List UInt32)(KV:Int):St:=⟨[(0,(.pv (af a))),(1,(.pv (af b))),(5,(eI KV))],[]⟩
@[reducible] def ay(a b:List UInt32)(KV:Int)(r:PV):Prop:=L aV fn bM (inv1 a b KV) r
theorem e0(a b:Ws){r:PV}(h1:bf ((((max a.length b.length):Nat):Int)-1))(hL:ay a b ((((max a.length b.length):Nat):Int)-1) r):Cp 140 [af a,af b] r :=
 eG func140 [] [.q,.bx [.o,(iL a),.o,(iL b),(iI (((max a.length b.length):Nat):Int)),(iI ((((max a.length b.length):Nat):Int)-1))],.aW [0,1,5]] (y4 (aH aE a) (aH aE b) (AR a.length b.length) (b9 h1)) hL
theorem eu(a b:Ws)(c:Int)(d g i j:Nat)(h1:0≤c)(h2:Cp 196 [af a,vI c] (vU d))(h3:Cp 196 [af b,vI c] (vU g))(h4:d≠g)(h5:Cp 196 [af a,vI c] (vU i))(h6:Cp 196 [af b,vI c] (vU j))(h7:i<j):ay a b c (vI (-1)) :=
 lD [] [.a,.q,.t,.bx [.o,.o,(.pv (vU d)),.o,.o,(.pv (vU g))],.t,.bx [.o,.o,(.pv (vU i)),.o,.o,(.pv (vU j))],.t,.q] (y7 (dV h1) h2 h3 (mL h4) h5 h6 (aG h7))
theorem dp(a b:Ws)(c:Int)(d g i j:Nat)(h1:0≤c)(h2:Cp 196 [af a,vI c] (vU d))(h3:Cp 196 [af b,vI c] (vU g))(h4:d≠g)(h5:Cp 196 [af a,vI c] (vU i))(h6:Cp 196 [af b,vI c] (vU j))(h7:j≤i):ay a b c (vI 1) :=
 lD [] [.a,.q,.t,.bx [.o,.o,(.pv (vU d)),.o,.o,(.pv (vU g))],.t,.bx [.o,.o,(.pv (vU i)),.o,.o,(.pv (vU j))],.f,.q] (y7 (dV h1) h2 h3 (mL h4) h5 h6 (aL h7))
theorem im(a b:Ws)(c:Int)(d g:Nat){r:PV}(h1:0≤c)(h2:Cp 196 [af a,vI c] (vU d))(h3:Cp 196 [af b,vI c] (vU g))(h4:d=g)(h5:bf (c-1))(hL:ay a b (c-1) r):ay a b c r :=
 lG [] [.a,.q,.t,.bx [.o,.o,(.pv (vU d)),.o,.o,(.pv (vU g))],.f,.h 1 (iI (c-1)),.aW [0,1,5]] (y5 (dV h1) h2 h3 (bH h4) (b9 h5)) hL
theorem ym(a b:Ws)(c:Int)(h1:c<0):ay a b c (vI 0) :=
 lD [] [.a,.q,.f,.q] (y1 (aX h1))
end dD
namespace da
@[reducible] def fn:Func:=Tryz.f140
def bM:List eh:=focus [0,2,0,0,2,0,0] [.code (aS fn)]
def inv1(len lZ:Nat)(KV:Int)(bV jL:List UInt32):St:=⟨[(0,(.row 100000 0 len 1)),(1,(.row 100001 0 lZ 1)),(5,(eI KV))],[(100000,(.pure ((bV:List UInt32).map aE).flatten)),(100001,(.pure ((jL:List UInt32).map aE).flatten))]⟩
@[reducible] def ay(len lZ:Nat)(KV:Int)(bV jL:List UInt32)(sin:aY)(r:EV)(sout:aY):Prop:=LX aV fn bM (inv1 len lZ KV bV jL) sin r sout
theorem e0(a:Ws)(c:Nat)(b:Ws)(d:Nat){r:EV}{sout:aY}(h1:bf ((((max c d):Nat):Int)-1))(hL:ay c d ((((max c d):Nat):Int)-1) a b [(100000,(pW a)),(100001,(pW b))] r sout):ag aV 140 [(.row 100000 0 c 1),(.row 100001 0 d 1)] [(100000,(pW a)),(100001,(pW b))] r sout :=
 AT func140 [] [.q,.bx [.o,.o,.o,.o,(iI (((max c d):Nat):Int)),(iI ((((max c d):Nat):Int)-1))],.aW [0,1,5]] (y2 (AR c d) (b9 h1)) hL
theorem eu(b c:Nat)(d:Int)(g i z:Ws)(j:Nat)(z1:Ws)(k:Nat)(z2:Ws)(l:Nat)(z3:Ws)(m:Nat){sin:aY}(hs:dX fn sin)(hi:sin.all (fun p=>nP p.1||(aY.get [(100000,(pW z2)),(100001,(pW z3))] p.1).isSome)=true)(h1:0≤d)(h2:ag aV 196 [.row 100000 0 b 1,.pv (vI d)] [(100000,(pW g))] (.pv (vU j)) [(100000,(pW z))])(h3:ag aV 196 [.row 100000 0 c 1,.pv (vI d)] [(100000,(pW i))] (.pv (vU k)) [(100000,(pW z1))])(h4:j≠k)(h5:ag aV 196 [.row 100000 0 b 1,.pv (vI d)] [(100000,(pW z))] (.pv (vU l)) [(100000,(pW z2))])(h6:ag aV 196 [.row 100000 0 c 1,.pv (vI d)] [(100000,(pW z1))] (.pv (vU m)) [(100000,(pW z3))])(h7:l<m):ay b c d g i sin (.pv (vI (-1))) [(100000,(pW z2)),(100001,(pW z3))] :=
 vP [] [.a,.q,.t,.bx [.o,.o,(.bm [(100000,100000)] none (.pv (vU j)) [(100000,(pW z))]),.o,.o,(.bm [(100001,100000)] none (.pv (vU k)) [(100000,(pW z1))])],.t,.bx [.o,.o,(.bm [(100000,100000)] none (.pv (vU l)) [(100000,(pW z2))]),.o,.o,(.bm [(100001,100000)] none (.pv (vU m)) [(100000,(pW z3))])],.t,.q,.ord [100000,100001]] hs hi (y7 (dV h1) h2 h3 (mL h4) h5 h6 (aG h7))
theorem dp(b c:Nat)(d:Int)(g i z:Ws)(j:Nat)(z1:Ws)(k:Nat)(z2:Ws)(l:Nat)(z3:Ws)(m:Nat){sin:aY}(hs:dX fn sin)(hi:sin.all (fun p=>nP p.1||(aY.get [(100000,(pW z2)),(100001,(pW z3))] p.1).isSome)=true)(h1:0≤d)(h2:ag aV 196 [.row 100000 0 b 1,.pv (vI d)] [(100000,(pW g))] (.pv (vU j)) [(100000,(pW z))])(h3:ag aV 196 [.row 100000 0 c 1,.pv (vI d)] [(100000,(pW i))] (.pv (vU k)) [(100000,(pW z1))])(h4:j≠k)(h5:ag aV 196 [.row 100000 0 b 1,.pv (vI d)] [(100000,(pW z))] (.pv (vU l)) [(100000,(pW z2))])(h6:ag aV 196 [.row 100000 0 c 1,.pv (vI d)] [(100000,(pW z1))] (.pv (vU m)) [(100000,(pW z3))])(h7:m≤l):ay b c d g i sin (.pv (vI 1)) [(100000,(pW z2)),(100001,(pW z3))] :=
 vP [] [.a,.q,.t,.bx [.o,.o,(.bm [(100000,100000)] none (.pv (vU j)) [(100000,(pW z))]),.o,.o,(.bm [(100001,100000)] none (.pv (vU k)) [(100000,(pW z1))])],.t,.bx [.o,.o,(.bm [(100000,100000)] none (.pv (vU l)) [(100000,(pW z2))]),.o,.o,(.bm [(100001,100000)] none (.pv (vU m)) [(100000,(pW z3))])],.f,.q,.ord [100000,100001]] hs hi (y7 (dV h1) h2 h3 (mL h4) h5 h6 (aL h7))
theorem im(b c:Nat)(d:Int)(g i z:Ws)(j:Nat)(z1:Ws)(k:Nat){r:EV}{sout:aY}{sin:aY}(hs:dX fn sin)(h1:0≤d)(h2:ag aV 196 [.row 100000 0 b 1,.pv (vI d)] [(100000,(pW g))] (.pv (vU j)) [(100000,(pW z))])(h3:ag aV 196 [.row 100000 0 c 1,.pv (vI d)] [(100000,(pW i))] (.pv (vU k)) [(100000,(pW z1))])(h4:j=k)(h5:bf (d-1))(hL:ay b c (d-1) z z1 sin r sout):ay b c d g i sin r sout :=
 sI [] [.a,.q,.t,.bx [.o,.o,(.bm [(100000,100000)] none (.pv (vU j)) [(100000,(pW z))]),.o,.o,(.bm [(100001,100000)] none (.pv (vU k)) [(100000,(pW z1))])],.f,.h 1 (iI (d-1)),.aW [0,1,5]] hs (y5 (dV h1) h2 h3 (bH h4) (b9 h5)) hL
theorem ym(b c:Nat)(d:Int)(g i:Ws){sin:aY}(hs:dX fn sin)(hi:sin.all (fun p=>nP p.1||(aY.get [(100000,(pW g)),(100001,(pW i))] p.1).isSome)=true)(h1:d<0):ay b c d g i sin (.pv (vI 0)) [(100000,(pW g)),(100001,(pW i))] :=
 vP [] [.a,.q,.f,.q,.ord [100000,100001]] hs hi (y1 (aX h1))
end da
namespace cX
@[reducible] def fn:Func:=Tryz.f141
def bM:List eh:=focus [0,2,0,2,0,0] [.code (aS fn)]
def inv1(len lZ A4 G1:Nat)(bV jL:List UInt32):St:=⟨[(0,(.row 100000 0 len 1)),(1,(.row 100001 0 lZ 1)),(4,(eU A4)),(8,(eI (len:Int))),(9,(eI (G1:Int)))],[(100000,(.pure ((bV:List UInt32).map aE).flatten)),(100001,(.pure ((jL:List UInt32).map aE).flatten))]⟩
@[reducible] def ay(len lZ A4 G1:Nat)(bV jL:List UInt32)(sin:aY)(r:EV)(sout:aY):Prop:=LX aV fn bM (inv1 len lZ A4 G1 bV jL) sin r sout
theorem e0 (a : Ws) (c : Nat) (b : Ws) (d : Nat) {r : EV} {sout : aY}  (hL : ay c d 0 0 a b [(100000, (pW a)), (100001, (pW b))] r sout) : ag aV 141 [(.row 100000 0 c 1), (.row 100001 0 d 1)] [(100000, (pW a)), (100001, (pW b))] r sout :=
 AT func141 [] [.q,.q,.aW [0,1,4,8,9]] True.intro hL
theorem eu(b c g i:Nat)(j l z:Ws)(m s:Nat)(z1:Ws)(n d d1:Nat)(w:UInt32)(z2 d2:Nat){r:EV}{sout:aY}{sin:aY}(hs:dX fn sin)(h1:i<b)(h2:ag aV 196 [.row 100000 0 b 1,.pv (vI (i:Int))] [(100000,(pW j))] (.pv (vU m)) [(100000,(pW z))])(h3:(4294967296+m)%18446744073709551616=s)(h4:ag aV 196 [.row 100000 0 c 1,.pv (vI (i:Int))] [(100000,(pW l))] (.pv (vU n)) [(100000,(pW z1))])(h5:((s:Nat)-(n:Nat):Int)%18446744073709551616=(d:Int))(h6:((d:Nat)-(g:Nat):Int)%18446744073709551616=(d1:Int))(h7:d1%4294967296=w.toNat)(h8:d1/2^(min 32 64)=z2)(h9:((1:Nat)-(z2:Nat):Int)%18446744073709551616=(d2:Int))(cE:i<z.length)(dC:(i+1)<9223372036854775808)(hL:ay b c d2 (i+1) (z.set i w) z1 sin r sout):ay b c g i j l sin r sout :=
 sI [1,1,1,1,1,1,1,1,1,2,2] [.a,.q,.t,.q,.bx [.o,.o,(.bm [(100000,100000)] none (.pv (vU m)) [(100000,(pW z))]),iU s,.o,.o,(.bm [(100001,100000)] none (.pv (vU n)) [(100000,(pW z1))]),iU d,.o,iU d1],.bx [.o,.o,.o,iW w,.o,iU z2,iU d2,(.nat i),(.cells (.pure (((z.set i w):Ws).map aE).flatten))],.h 0 (iI (((i+1):Nat):Int)),.aW [0,1,4,8,9]] hs (H8 (aG h1) h2 (fk h3) h4 (eP h5) (eP h6) (dz h7) (dO (k := .u64) h8) (eP h9) (cj (rN i) h1) (jw bJ (z:Ws) w cE) (bj dC)) hL
theorem dp(b c d g:Nat)(i j:Ws){sin:aY}(hs:dX fn sin)(hi:sin.all (fun p=>nP p.1||(aY.get [(100000,(pW i)),(100001,(pW j))] p.1).isSome)=true)(h1:b≤g):ay b c d g i j sin (.pv (.bg [])) [(100000,(pW i)),(100001,(pW j))] :=
 vP [] [.a,.q,.f,.ord [100000,100001]] hs hi (y1 (aL h1))
end cX
namespace fJ
@[reducible] def fn:Func:=Tryz.f142
def bM:List eh:=focus [0,2,0,0,0] [.code (aS fn)]
def inv1(vA:Nat)(a:List UInt32):St:=⟨[(0,(.row 100000 0 vA 1))],[(100000,(.pure ((a:List UInt32).map aE).flatten))]⟩
@[reducible] def ay(vA:Nat)(a:List UInt32)(sin:aY)(r:EV)(sout:aY):Prop:=LX aV fn bM (inv1 vA a) sin r sout
theorem e0 (a : Ws) (b : Nat) {r : EV} {sout : aY}  (hL : ay b a [(100000, (pW a))] r sout) : ag aV 142 [(.row 100000 0 b 1)] [(100000, (pW a))] r sout :=
 AT func142 [] [.q,.aW [0]] True.intro hL
theorem eu(b:Nat)(a:Ws)(k:Nat)(v:UInt32)(u:Nat){r:EV}{sout:aY}{sin:aY}(hs:dX fn sin)(h1:0<b)(h2:bf ((b:Int)-1))(h3:((b:Int)-1)=(k:Int))(h4:k<b)(h5:a[k]? = some v)(h6:v.toNat=0)(h7:((b:Int)-1)=(u:Int))(h8:u≤b)(hL:ay u a sin r sout):ay b a sin r sout :=
 sI [1,1,1,1,1,1,2,1,1,1,1,1,1,5] [.a,.bx [.o,.o,.o,.o,.o,.o,.o,(iI ((b:Int)-1)),(.nat k),(.ev (.pv (vW v))),.o,(.dec true)],.t,.bx [.o,.o,.o,(iI ((b:Int)-1)),(.fM 0 u [])],.aW [0]] hs (PW (aG h1) (aG h1) (aG h1) (aG h1) (b9 h2) (aG h1) (cj h3 h4) (aG h1) (et (enc:=aE) (f:=fun a=>(vW a)) (fun _=>rfl) h5) (aG h1) (aG h1) (bL h6) (b9 h2) (SG (Eq.refl (0:Int)) h7 (Or.inl (Eq.refl 0)) (adz u) h8)) hL
theorem dp(b:Nat)(a:Ws)(k:Nat)(v:UInt32){sin:aY}(hs:dX fn sin)(hi:sin.all (fun p=>nP p.1||(aY.get [(100000,(.pure (((a.take b):Ws).map aE).flatten))] p.1).isSome)=true)(h1:0<b)(h2:bf ((b:Int)-1))(h3:((b:Int)-1)=(k:Int))(h4:k<b)(h5:a[k]? = some v)(h6:v.toNat≠0):ay b a sin (.row 100000 0 b 1) [(100000,(.pure (((a.take b):Ws).map aE).flatten))] :=
 vP [1,1,1,1,1,1,2] [.a,.bx [.o,.o,.o,.o,.o,.o,.o,(iI ((b:Int)-1)),(.nat k),(.ev (.pv (vW v))),.o,(.dec true)],.f,.q,.cut 100000 (b*1) (((a.take b):Ws).map aE).flatten,.ord [100000]] hs hi (F5 (aG h1) (aG h1) (aG h1) (aG h1) (b9 h2) (aG h1) (cj h3 h4) (aG h1) (et (enc:=aE) (f:=fun a=>(vW a)) (fun _=>rfl) h5) (aG h1) (aG h1) (aZ h6) (AQ bJ (a:Ws) b))
theorem im(b:Nat)(a:Ws){sin:aY}(hs:dX fn sin)(hi:sin.all (fun p=>nP p.1||(aY.get [(100000,(.pure (((a.take b):Ws).map aE).flatten))] p.1).isSome)=true)(h1:b≤0):ay b a sin (.row 100000 0 b 1) [(100000,(.pure (((a.take b):Ws).map aE).flatten))] :=
 vP [] [.a,.bx [.o,.o,.o,.o,.skip,.skip,.skip,.skip,.skip,.skip,.skip,(.dec false)],.a,.q,.cut 100000 (b*1) (((a.take b):Ws).map aE).flatten,.ord [100000]] hs hi (y9 (aL h1) (aL h1) (aL h1) (aL h1) (aL h1) (aL h1) (aL h1) (aL h1) (AQ bJ (a:Ws) b))
end fJ
namespace di
@[reducible] def fn:Func:=Tryz.f143
def bM:List eh:=focus [0,2,0,2,0,2,0,0,2,0,0] [.code (aS fn)]
def inv1(a b gT:List UInt32)(rG kM:Nat):St:=⟨[(0,(.pv (af a))),(1,(.pv (af b))),(5,(.row 31 0 gT.length 1)),(6,(eU rG)),(14,(eI ((((max a.length b.length)+1):Nat):Int))),(15,(eI (kM:Int)))],[(31,(.pure ((gT:List UInt32).map aE).flatten))]⟩
@[reducible] def ay(a b gT:List UInt32)(rG kM:Nat)(r:PV):Prop:=L aV fn bM (inv1 a b gT rG kM) r
theorem e0(a b:Ws){r:PV}(h1:((max a.length b.length)+1)<9223372036854775808)(hL:ay a b [] 0 0 r):Cp 143 [af a,af b] r :=
 eG func143 [] [.q,.h 0 .nil,.r9 5 31 1,.q,.bx [.o,(iL a),.o,(iL b),(iI (((max a.length b.length):Nat):Int)),(iI ((((max a.length b.length)+1):Nat):Int))],.aW [0,1,5,6,14,15]] (y4 (aH aE a) (aH aE b) (AR a.length b.length) (bj h1)) hL
theorem eu(a b c:Ws)(d g i j s s1:Nat)(w:UInt32)(z:Nat){r:PV}(h1:g<((max a.length b.length)+1))(h2:Cp 196 [af a,(vI (g:Int))] (vU i))(h3:Cp 196 [af b,(vI (g:Int))] (vU j))(h4:(i+j)%18446744073709551616=s)(h5:(s+d)%18446744073709551616=s1)(h6:s1%4294967296=w.toNat)(h7:((c++[w]):Ws).length*4≤140737488355328)(h8:s1/2^(min 32 64)=z)(h9:(g+1)<9223372036854775808)(hL:ay a b (c++[w]) z (g+1) r):ay a b c d g r :=
 lG [1,1,1,1,1,1,6] [.a,.q,.t,.q,.bx [.o,.o,(.pv (vU i)),.o,.o,(.pv (vU j)),iU s,.o,iU s1],.bx [.o,.o,iW w,.o,(.app ((c++[w]):Ws).length (((c++[w]):Ws).map aE).flatten),.o,iU z],.h 0 (iI (((g+1):Nat):Int)),.aW [0,1,5,6,14,15],.drop [30]] (y9 (aG h1) h2 h3 (fk h4) (fk h5) (dz h6) (ix bJ (c:Ws) ([w]:Ws) 4 (Eq.refl (c:Ws).length) (Eq.refl ([w]:Ws).length) h7 rfl) (dO (k := .u64) h8) (bj h9)) hL
theorem dp(a b c:Ws)(d g:Nat)(i:Ws)(h1:((max a.length b.length)+1)≤g)(h2:Cp 138 [af c] (af i)):ay a b c d g (af i) :=
 lD [1,3] [.a,.q,.f,.jz 5 ((c:Ws).map aE),.h 1 (.pv (af i))] (y3 (aL h1) (dJ bJ (c:Ws) (Eq.refl (c:Ws).length)) h2)
end di
namespace fP
theorem e0(a:aR)(h1:a.db.length=0):Cp 144 [a.pv] (vB (!a.neg)) :=
 eD func144 [] [.q,.h 2 (iL a.db),.t,.q] (y2 (aH aE a.db) (bL h1))
theorem e1(a:aR)(k:Nat)(v:UInt32)(h1:a.db.length≠0)(h2:bf ((a.db.length:Int)-1))(h3:((a.db.length:Int)-1)=(k:Int))(h4:a.db[k]? = some v):Cp 144 [a.pv] (vB ((v.toNat:Int) != 0)) :=
 eD func144 [1,1,1,1,3] [.q,.h 2 (iL a.db),.f,.bx [.o,.o,.o,.o,(iL a.db),(iI ((a.db.length:Int)-1)),(.row k (aE v))]] (y5 (aH aE a.db) (aZ h1) (aH aE a.db) (b9 h2) (bG aE h3 h4))
end fP
namespace cY
@[reducible] def fn:Func:=Tryz.f195
def bM:List eh:=focus [0,2,0,2,0,2,0,0,2,0,0] [.code (aS fn)]
def inv1(a b zw:List UInt32)(oT G2:Nat):St:=⟨[(0,(.pv (af a))),(1,(.pv (af b))),(5,(.row 28 0 zw.length 1)),(6,(eU oT)),(10,(eI (a.length:Int))),(11,(eI (G2:Int)))],[(28,(.pure ((zw:List UInt32).map aE).flatten))]⟩
@[reducible] def ay(a b zw:List UInt32)(oT G2:Nat)(r:PV):Prop:=L aV fn bM (inv1 a b zw oT G2) r
theorem e0 (a b : Ws) {r : PV}  (hL : ay a b [] 0 0 r) : Cp 195 [af a, af b] r :=
 eG func195 [] [.q,.h 0 .nil,.r9 5 28 1,.q,.h 1 (iL a),.aW [0,1,5,6,10,11]] (y1 (aH aE a)) hL
theorem eu(a b c:Ws)(g i j s l d d1:Nat)(w:UInt32)(z d2:Nat){r:PV}(h1:i<a.length)(h2:Cp 196 [af a,(vI (i:Int))] (vU j))(h3:(4294967296+j)%18446744073709551616=s)(h4:Cp 196 [af b,(vI (i:Int))] (vU l))(h5:((s:Nat)-(l:Nat):Int)%18446744073709551616=(d:Int))(h6:((d:Nat)-(g:Nat):Int)%18446744073709551616=(d1:Int))(h7:d1%4294967296=w.toNat)(h8:((c++[w]):Ws).length*4≤140737488355328)(h9:d1/2^(min 32 64)=z)(cE:((1:Nat)-(z:Nat):Int)%18446744073709551616=(d2:Int))(dC:(i+1)<9223372036854775808)(hL:ay a b (c++[w]) d2 (i+1) r):ay a b c g i r :=
 lG [1,1,1,1,1,1,1,6] [.a,.q,.t,.q,.bx [.o,.o,(.pv (vU j)),iU s,.o,.o,(.pv (vU l)),iU d,.o,iU d1],.bx [.o,.o,iW w,.o,(.app ((c++[w]):Ws).length (((c++[w]):Ws).map aE).flatten),.o,iU z,iU d2],.h 0 (iI (((i+1):Nat):Int)),.aW [0,1,5,6,10,11],.drop [27]] (H7 (aG h1) h2 (fk h3) h4 (eP h5) (eP h6) (dz h7) (ix bJ (c:Ws) ([w]:Ws) 4 (Eq.refl (c:Ws).length) (Eq.refl ([w]:Ws).length) h8 rfl) (dO (k := .u64) h9) (eP cE) (bj dC)) hL
theorem dp(a b c:Ws)(d g:Nat)(i:Ws)(h1:a.length≤g)(h2:Cp 138 [af c] (af i)):ay a b c d g (af i) :=
 lD [1,3] [.a,.q,.f,.jz 5 ((c:Ws).map aE),.h 1 (.pv (af i))] (y3 (aL h1) (dJ bJ (c:Ws) (Eq.refl (c:Ws).length)) h2)
end cY
namespace mS
theorem e0(a:Ws)(i:Int)(k:Nat)(v:UInt32)(h1:i<(a.length:Int))(h2:i=(k:Int))(h3:a[k]? = some v):Cp 196 [af a,vI i] (vU v.toNat) :=
 eD func196 [1,1,3] [.q,.h 2 (iL a),.t,.bx [.o,.o,(.row k (aE v)),.o,iU v.toNat]] (y4 (aH aE a) (br h1) (bG aE h2 h3) (oM v))
theorem e1(a:Ws)(i:Int)(h1:(a.length:Int)≤i):Cp 196 [af a,vI i] (vU 0) :=
 eD func196 [] [.q,.h 2 (iL a),.f,.q] (y2 (aH aE a) (ah h1))
end mS
namespace l4
theorem e0(a:Ws)(b:Nat)(i:Int)(k:Nat)(v:UInt32)(h1:i<(b:Int))(h2:i=(k:Int))(h3:k<b)(h4:a[k]? = some v):ag aV 196 [(.row 100000 0 b 1),eI i] [(100000,(pW a))] (.pv (vU v.toNat)) [(100000,(pW a))] :=
 lu func196 [1,2] [.q,.q,.t,.bx [.o,.o,(.nat k),(.ev (.pv (vW v))),iU v.toNat],.ord [100000]] (y4 (br h1) (cj h2 h3) (et (enc:=aE) (f:=fun a=>(vW a)) (fun _=>rfl) h4) (oM v))
theorem e1(a:Ws)(b:Nat)(i:Int)(h1:(b:Int)≤i):ag aV 196 [(.row 100000 0 b 1),eI i] [(100000,(pW a))] (.pv (vU 0)) [(100000,(pW a))] :=
 lu func196 [] [.q,.q,.f,.q,.ord [100000]] (y1 (ah h1))
end l4
end Go.Proofs.YtneklnlpgfeplaaGreat.Sym.Path
end
