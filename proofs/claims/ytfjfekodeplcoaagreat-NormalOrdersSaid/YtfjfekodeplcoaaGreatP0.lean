/- Lemmas for the statements of this seat. -/
import Derived.Test.YtfjfekodeplcoaaGreatT0
noncomputable section
namespace Go.Proofs.YtfjfekodeplcoaaGreat.Sym.Path
open Go Tryz
set_option maxRecDepth 20000
set_option linter.unusedVariables false
namespace wj
theorem e0(a b:aB)(c d:Bool)(g i j:Ws)(k:aB)(h1:Cp 102 [a.pv] (vB c))(h2:Cp 102 [b.pv] (vB d))(h3:Cp 104 [a.pv] (ae g))(h4:Cp 104 [b.pv] (ae i))(h5:Cp 103 [ae g,ae i] (ae j))(h6:Cp 101 [(vB (!(c==d))),ae j] k.pv):Cp 59 [a.pv,b.pv] k.pv :=
 eD func59 72 [1,1,1,1,1,1] [.q,dr 11 1 [.none,(.pv (vB c)),.none,(.pv (vB d)),.none,.none,(.pv (ae g)),.none,(.pv (ae i)),(.pv (ae j)),(.pv k.pv)]] (y6 h1 h2 h3 h4 h5 h6)
end wj
namespace pq
theorem e0(a:aB)(h1:a.cM.length=0):Cp 75 [a.pv] (vB (!a.neg)) :=
 eD func75 84 [1,1] [.q,.h 2 (iI (a.cM.length:Int)),.t,.q] (y2 (av ai a.cM) (bd h1))
theorem e1(a:aB)(k:Nat)(v:UInt32)(h1:a.cM.length≠0)(h2:aK ((a.cM.length:Int)-1))(h3:((a.cM.length:Int)-1)=(k:Int))(h4:a.cM[k]? = some v):Cp 75 [a.pv] (vB ((v.toNat:Int) != 0)) :=
 eD func75 87 [1,1,1,1,3] [.q,.h 2 (iI (a.cM.length:Int)),.f,.aQ [.o,.o,.o,.o,(iI (a.cM.length:Int)),(iI ((a.cM.length:Int)-1)),(.row k (ai v))]] (y5 (av ai a.cM) (aR h1) (av ai a.cM) (bu h2) (aL ai h3 h4))
end pq
namespace mC
theorem e0(a b:aB)(c d:Int)(h1:Cp 79 [a.pv] (vI c))(h2:Cp 79 [b.pv] (vI d))(h3:c≠d)(h4:c<d):Cp 76 [a.pv,b.pv] (vI (-1)) :=
 eD func76 102 [1,1,1,1] [.q,dr 4 2 [.none,(.pv (vI c)),.none,(.pv (vI d))],.q,.t,.q,.t,.q] (y4 h1 h2 (ba h3) (bf h4))
theorem e1(a b:aB)(c d:Int)(h1:Cp 79 [a.pv] (vI c))(h2:Cp 79 [b.pv] (vI d))(h3:c≠d)(h4:d≤c):Cp 76 [a.pv,b.pv] (vI 1) :=
 eD func76 105 [1,1,1,1] [.q,dr 4 2 [.none,(.pv (vI c)),.none,(.pv (vI d))],.q,.t,.q,.f,.q] (y4 h1 h2 (ba h3) (bp h4))
theorem e2(a b:aB)(c d:Int)(g i:Ws)(j:Int)(k:Bool)(h1:Cp 79 [a.pv] (vI c))(h2:Cp 79 [b.pv] (vI d))(h3:c=d)(h4:Cp 104 [a.pv] (ae g))(h5:Cp 104 [b.pv] (ae i))(h6:Cp 117 [ae g,ae i] (vI j))(h7:Cp 102 [a.pv] (vB k))(h8:k=true)(h9:aK (-j)):Cp 76 [a.pv,b.pv] (vI (-j)) :=
 eD func76 111 [1,1,1,1,1,1,1,1,1] [.q,dr 4 2 [.none,(.pv (vI c)),.none,(.pv (vI d))],.q,.f,dr 5 1 [.none,(.pv (ae g)),.none,(.pv (ae i)),(.pv (vI j))],.h 1 (.pv (vB k)),.t,.h 1 (iI (-j))] (y9 h1 h2 (aS h3) h4 h5 h6 h7 h8 (Mb h9))
theorem e3(a b:aB)(c d:Int)(g i:Ws)(j:Int)(k:Bool)(h1:Cp 79 [a.pv] (vI c))(h2:Cp 79 [b.pv] (vI d))(h3:c=d)(h4:Cp 104 [a.pv] (ae g))(h5:Cp 104 [b.pv] (ae i))(h6:Cp 117 [ae g,ae i] (vI j))(h7:Cp 102 [a.pv] (vB k))(h8:k=false):Cp 76 [a.pv,b.pv] (vI j) :=
 eD func76 114 [1,1,1,1,1,1,1,1] [.q,dr 4 2 [.none,(.pv (vI c)),.none,(.pv (vI d))],.q,.f,dr 5 1 [.none,(.pv (ae g)),.none,(.pv (ae i)),(.pv (vI j))],.h 1 (.pv (vB k)),.f,.q] (y8 h1 h2 (aS h3) h4 h5 h6 h7 h8)
end mC
namespace kr
@[reducible] def fn:Func:=Tryz.f77
def br:List dI:=focus [0,2,0,2,0,0,0] [.code (aA fn)]
def inv1(QW QX:List UInt32):St:=⟨[(4,(.ptr 4 0)),(5,(.pv (ae QW))),(6,(.pv (ae QX)))],[(4,(.lit [(eB false),(.pv (.list []))]))]⟩
@[reducible] def ar(QW QX:List UInt32)(r:PV):Prop:=L a7 fn br (inv1 QW QX) r
theorem e0(a b:aB)(c d:Ws){r:PV}(h1:Cp 104 [a.pv] (ae c))(h2:Cp 104 [b.pv] (ae d))(hL:ar c d r):Cp 77 [a.pv,b.pv] r :=
 eG func77 81 [1,1] [.q,dr 4 2 [.none,(.pv (ae c)),.none,(.pv (ae d))],.aH [4,5,6],.drop [3,2]] (y2 h1 h2) hL
theorem dC(b c d g:Ws){r:PV}(h1:0<c.length)(h2:Cp 118 [ae b,ae c] (.bh [ae d,ae g]))(hL:ar c g r):ar b c r :=
 lG 114 [1,1,1] [.a,.h 1 (iI (c.length:Int)),.t,.h 2 (.pv (.bh [ae d,ae g])),.q,.aH [4,5,6]] (y3 (av ai c) (ay h1) h2) hL
theorem dD(b c:Ws)(d:aB)(h1:c.length≤0)(h2:Cp 101 [vB false,ae b] d.pv):ar b c d.pv :=
 lD 114 [1,1,1] [.a,.h 1 (iI (c.length:Int)),.f,.h 1 (.pv d.pv)] (y3 (av ai c) (az h1) h2)
end kr
namespace nt
theorem e0(a:aB)(b:Ws)(h1:Cp 104 [a.pv] (ae b))(h2:b.length=0):Cp 79 [a.pv] (vI 0) :=
 eD func79 87 [1,1,1] [.q,.aQ [.o,(.pv (ae b)),(iI (b.length:Int))],.t,.q] (y3 h1 (av ai b) (bd h2))
theorem e1(a:aB)(b:Ws)(h1:Cp 104 [a.pv] (ae b))(h2:b.length≠0)(h3:a.neg=true):Cp 79 [a.pv] (vI (-1)) :=
 eD func79 96 [1,1,1,1] [.q,.aQ [.o,(.pv (ae b)),(iI (b.length:Int))],.f,.q,.t,.q] (y4 h1 (av ai b) (aR h2) h3)
theorem e2(a:aB)(b:Ws)(h1:Cp 104 [a.pv] (ae b))(h2:b.length≠0)(h3:a.neg=false):Cp 79 [a.pv] (vI 1) :=
 eD func79 102 [1,1,1,1] [.q,.aQ [.o,(.pv (ae b)),(iI (b.length:Int))],.f,.q,.f,.q] (y4 h1 (av ai b) (aR h2) h3)
end nt
namespace oO
theorem e0(a b:aB)(c d:Ws)(g i j:Bool)(k:Ws)(l:aB)(h1:Cp 104 [a.pv] (ae c))(h2:Cp 104 [b.pv] (ae d))(h3:Cp 102 [a.pv] (vB g))(h4:Cp 102 [b.pv] (vB i))(h5:g=i)(h6:Cp 102 [a.pv] (vB j))(h7:Cp 120 [ae c,ae d] (ae k))(h8:Cp 101 [vB j,ae k] l.pv):Cp 83 [a.pv,b.pv] l.pv :=
 eD func83 93 [1,1,1,1,1,1,1,1] [.q,dr 4 2 [.none,(.pv (ae c)),.none,(.pv (ae d))],dr 5 1 [.none,(.pv (vB g)),.none,(.pv (vB i))],.t,.aQ [.o,(.pv (vB j)),.o,.o,(.pv (ae k)),(.pv l.pv)]] (y8 h1 h2 h3 h4 (oL h5) h6 h7 h8)
theorem e1(a b:aB)(c d:Ws)(g i:Bool)(j:Int)(k:Bool)(l:Ws)(m:aB)(h1:Cp 104 [a.pv] (ae c))(h2:Cp 104 [b.pv] (ae d))(h3:Cp 102 [a.pv] (vB g))(h4:Cp 102 [b.pv] (vB i))(h5:g≠i)(h6:Cp 117 [ae c,ae d] (vI j))(h7:0≤j)(h8:Cp 102 [a.pv] (vB k))(h9:Cp 121 [ae c,ae d] (ae l))(bQ:Cp 101 [vB k,ae l] m.pv):Cp 83 [a.pv,b.pv] m.pv :=
 eD func83 102 [1,1,1,1,1,1,1,1,1,1] [.q,dr 4 2 [.none,(.pv (ae c)),.none,(.pv (ae d))],dr 5 1 [.none,(.pv (vB g)),.none,(.pv (vB i))],.f,.h 2 (.pv (vI j)),.t,.aQ [.o,(.pv (vB k)),.o,.o,(.pv (ae l)),(.pv m.pv)]] (wh h1 h2 h3 h4 (sV h5) h6 (eM h7) h8 h9 bQ)
theorem e2(a b:aB)(c d:Ws)(g i:Bool)(j:Int)(k:Bool)(l:Ws)(m:aB)(h1:Cp 104 [a.pv] (ae c))(h2:Cp 104 [b.pv] (ae d))(h3:Cp 102 [a.pv] (vB g))(h4:Cp 102 [b.pv] (vB i))(h5:g≠i)(h6:Cp 117 [ae c,ae d] (vI j))(h7:j<0)(h8:Cp 102 [b.pv] (vB k))(h9:Cp 121 [ae d,ae c] (ae l))(bQ:Cp 101 [vB k,ae l] m.pv):Cp 83 [a.pv,b.pv] m.pv :=
 eD func83 108 [1,1,1,1,1,1,1,1,1,1] [.q,dr 4 2 [.none,(.pv (ae c)),.none,(.pv (ae d))],dr 5 1 [.none,(.pv (vB g)),.none,(.pv (vB i))],.f,.h 2 (.pv (vI j)),.f,.aQ [.o,(.pv (vB k)),.o,.o,(.pv (ae l)),(.pv m.pv)]] (wh h1 h2 h3 h4 (sV h5) h6 (jI h7) h8 h9 bQ)
end oO
namespace wk
theorem e0(a:aB)(b:Bool)(c:Ws)(d:aB)(h1:Cp 102 [a.pv] (vB b))(h2:Cp 104 [a.pv] (ae c))(h3:Cp 101 [(vB (!b)),ae c] d.pv):Cp 99 [a.pv] d.pv :=
 eD func99 72 [1,1,1] [.q,dr 6 1 [.none,(.pv (vB b)),.none,.none,(.pv (ae c)),(.pv d.pv)]] (y3 h1 h2 h3)
end wk
namespace oP
theorem e1(a b:aB)(c d g i:Ws)(j:Bool)(k l:Ws)(m n:Bool)(p s:aB)(h1:Cp 104 [b.pv] (ae c))(h2:c.length≠0)(h3:Cp 104 [a.pv] (ae d))(h4:Cp 118 [ae d,ae c] (.bh [ae g,ae i]))(h5:Cp 102 [a.pv] (vB j))(h6:j=true)(h7:0<i.length)(h8:Cp 120 [ae g,(ae [(1:UInt32)])] (ae k))(h9:Cp 121 [ae c,ae i] (ae l))(bQ:Cp 102 [a.pv] (vB m))(cW:Cp 102 [b.pv] (vB n))(cP:Cp 101 [(vB (!(m==n))),ae k] p.pv)(cD:Cp 101 [vB false,ae l] s.pv):Cp 100 [a.pv,b.pv] (.bh [p.pv,s.pv,.bK]) :=
 eD func100 114 [1,1,1,1,1,1,1,1,1,1,1,1,3,1,1,1,1,1,1] [.q,.h 1 (.pv (ae c)),.h 1 (iI (c.length:Int)),.f,.aQ [.o,(.pv (ae d)),.o,(.pv (.bh [ae g,ae i]))],.aQ [.o,(.pv (vB j)),.o,.o,(iI (i.length:Int)),.o,(.dec true)],.t,.aQ [.o,(.q8 0 0 (([(1:UInt32)]:Ws).map ai)),(.pv (ae k)),.o,.o,(.pv (ae l))],dr 9 3 [.none,(.pv (vB m)),.none,(.pv (vB n)),.none,.none,(.pv p.pv),.none,(.pv s.pv)]] (Ot h1 (av ai c) (aR h2) h3 h4 h5 h6 h6 (av ai i) h6 h6 (ay h7) (zJ bc ([(1:UInt32)]:Ws)) h8 h9 bQ cW cP cD)
theorem e2(a b:aB)(c d g i:Ws)(j k l:Bool)(m n:aB)(h1:Cp 104 [b.pv] (ae c))(h2:c.length≠0)(h3:Cp 104 [a.pv] (ae d))(h4:Cp 118 [ae d,ae c] (.bh [ae g,ae i]))(h5:Cp 102 [a.pv] (vB j))(h6:j=true)(h7:i.length≤0)(h8:Cp 102 [a.pv] (vB k))(h9:Cp 102 [b.pv] (vB l))(bQ:Cp 101 [(vB (!(k==l))),ae g] m.pv)(cW:Cp 101 [vB false,ae i] n.pv):Cp 100 [a.pv,b.pv] (.bh [m.pv,n.pv,.bK]) :=
 eD func100 114 [1,1,1,1,1,1,1,1,1,1,1,1,1,1,1,1] [.q,.h 1 (.pv (ae c)),.h 1 (iI (c.length:Int)),.f,.aQ [.o,(.pv (ae d)),.o,(.pv (.bh [ae g,ae i]))],.aQ [.o,(.pv (vB j)),.o,.o,(iI (i.length:Int)),.o,(.dec true)],.f,dr 9 3 [.none,(.pv (vB k)),.none,(.pv (vB l)),.none,.none,(.pv m.pv),.none,(.pv n.pv)]] (Ka h1 (av ai c) (aR h2) h3 h4 h5 h6 h6 (av ai i) h6 h6 (az h7) h8 h9 bQ cW)
theorem e3(a b:aB)(c d g i:Ws)(j k l:Bool)(m n:aB)(h1:Cp 104 [b.pv] (ae c))(h2:c.length≠0)(h3:Cp 104 [a.pv] (ae d))(h4:Cp 118 [ae d,ae c] (.bh [ae g,ae i]))(h5:Cp 102 [a.pv] (vB j))(h6:j=false)(h7:Cp 102 [a.pv] (vB k))(h8:Cp 102 [b.pv] (vB l))(h9:Cp 101 [(vB (!(k==l))),ae g] m.pv)(bQ:Cp 101 [vB false,ae i] n.pv):Cp 100 [a.pv,b.pv] (.bh [m.pv,n.pv,.bK]) :=
 eD func100 114 [1,1,1,1,1,1,1,1,1,1,1,1,1,1] [.q,.h 1 (.pv (ae c)),.h 1 (iI (c.length:Int)),.f,.aQ [.o,(.pv (ae d)),.o,(.pv (.bh [ae g,ae i]))],.aQ [.o,(.pv (vB j)),.o,.skip,.skip,.skip,(.dec false)],.a,dr 9 3 [.none,(.pv (vB k)),.none,(.pv (vB l)),.none,.none,(.pv m.pv),.none,(.pv n.pv)]] (Ga h1 (av ai c) (aR h2) h3 h4 h5 h6 h6 h6 h6 h7 h8 h9 bQ)
end oP
namespace pr
theorem e0(a:Bool)(m b:Ws)(h1:Cp 138 [ae m] (ae b))(h2:a=true):Cp 101 [vB a,ae m] ((⟨(decide ((b.length:Int)>0)),b⟩:aB).pv) :=
 eD func101 78 [1,1,1,1,1,1] [.q,.h 1 (.pv (ae b)),.aQ [.o,.o,.o,(iI (b.length:Int)),.o,(.dec true)]] (y6 h1 h2 h2 (av ai b) h2 h2)
theorem e1(a:Bool)(m b:Ws)(h1:Cp 138 [ae m] (ae b))(h2:a=false):Cp 101 [vB a,ae m] ((⟨false,b⟩:aB).pv) :=
 eD func101 78 [1,1,1,1,1] [.q,.h 1 (.pv (ae b)),.aQ [.o,.o,.skip,.skip,.skip,(.dec false)]] (y5 h1 h2 h2 h2 h2)
end pr
namespace rI
theorem e0(a:aB)(b:Bool)(h1:Cp 75 [a.pv] (vB b))(h2:b=true):Cp 102 [a.pv] (vB a.neg) :=
 eD func102 72 [1,1,1,1] [.q,.aQ [.o,(.pv (vB b)),.o,.o,.o,(.dec true)]] (y4 h1 h2 h2 h2)
theorem e1(a:aB)(b:Bool)(h1:Cp 75 [a.pv] (vB b))(h2:b=false):Cp 102 [a.pv] (vB false) :=
 eD func102 72 [1,1,1,1] [.q,.aQ [.o,(.pv (vB b)),.o,.skip,.skip,(.dec false)]] (y4 h1 h2 h2 h2)
end rI
namespace eL
@[reducible] def fn:Func:=Tryz.f103
def br:List dI:=focus [0,2,0,2,0,0,2,0,0] [.code (aA fn)]
def inv1(b a:List UInt32)(Ei:Nat)(qy:List UInt32):St:=⟨[(1,(.pv (ae b))),(5,(.row 16 0 (a.length+b.length) 1)),(17,(.pv (ae a))),(18,(eI (a.length:Int))),(19,(eI (Ei:Int)))],[(16,(.pure ((qy:List UInt32).map ai).flatten))]⟩
@[reducible] def ar(b a:List UInt32)(Ei:Nat)(qy:List UInt32)(r:PV):Prop:=L a7 fn br (inv1 b a Ei qy) r
def fP:List dI:=focus [0,2,0,2,0,0,2,0,0,0,0,2,0,0,2,0,0,0,2,0,2,0,0,2,0,0] [.code (aA fn)]
def inv2(b a:List UInt32)(Ba:Nat)(v:UInt32)(Bb Ei Ej:Nat)(qy:List UInt32):St:=⟨[(1,(.pv (ae b))),(5,(.row 16 0 (a.length+b.length) 1)),(6,(eI (Ba:Int))),(7,(eW v)),(8,(eU Bb)),(17,(.pv (ae a))),(18,(eI (a.length:Int))),(19,(eI (Ei:Int))),(24,(.pv (ae b))),(25,(eI (b.length:Int))),(26,(eI (Ej:Int)))],[(16,(.pure ((qy:List UInt32).map ai).flatten))]⟩
@[reducible] def aJ(b a:List UInt32)(Ba:Nat)(v:UInt32)(Bb Ei Ej:Nat)(qy:List UInt32)(r:PV):Prop:=L a7 fn fP (inv2 b a Ba v Bb Ei Ej qy) r
theorem e0(a b:Ws){r:PV}(h1:(a.length+b.length)<9223372036854775808)(h2:4*(a.length+b.length)≤140737488355328)(hL:ar b a 0 (List.replicate (a.length+b.length) (0:UInt32)) r):Cp 103 [ae a,ae b] r :=
 eG func103 87 [1,1,1,5,1] [.q,.aQ [.o,(iI (a.length:Int)),.o,(iI (b.length:Int)),(iI (((a.length+b.length):Nat):Int)),(.app (a.length+b.length) ((List.replicate (a.length+b.length) (0:UInt32):Ws).map ai).flatten)],.h 1 (iI (a.length:Int)),.aH [1,5,17,18,19]] (y5 (av ai a) (av ai b) (aI h1) (pn ai 0 4 (a.length+b.length) (Eq.refl ((((a.length+b.length):Nat):Int):Int)) h2 rfl) (av ai a)) hL
theorem dC(b a:Ws)(c:Nat)(d:Ws)(v:UInt32){r:PV}(h1:c<a.length)(h2:a[c]? = some v)(hL:aJ b a c v 0 c 0 d r):ar b a c d r :=
 lG 138 [1,3,1] [.a,.q,.t,.h 1 (.row c (ai v)),.q,.h 1 (iI (b.length:Int)),.aH [1,5,6,7,8,17,18,19,24,25,26]] (y3 (ay h1) (aL ai (Eq.refl (((c:Nat):Int):Int)) h2) (av ai b)) hL
theorem dD(b a:Ws)(c:Nat)(d g:Ws)(h1:a.length≤c)(h2:(a.length+b.length)=d.length)(h3:Cp 138 [ae d] (ae g)):ar b a c d (ae g) :=
 lD 120 [1,3,1] [.a,.q,.f,.jM 5 ((d:Ws).map ai),.h 1 (.pv (ae g))] (y3 (az h1) (cq bc (d:Ws) h2) h3)
theorem nK(b a:Ws)(c:Nat)(v:UInt32)(d g i:Nat)(j:Ws)(v1:UInt32)(p:Nat)(v2:UInt32)(s s1:Nat)(w:UInt32)(z:Nat){r:PV}(h1:i<b.length)(h2:b[i]? = some v1)(h3:(v.toNat*v1.toNat)%18446744073709551616=p)(h4:(c+i)<9223372036854775808)(h5:(c+i)<(a.length+b.length))(h6:j[(c+i)]? = some v2)(h7:(p+v2.toNat)%18446744073709551616=s)(h8:(d+s)%18446744073709551616=s1)(h9:s1%4294967296=w.toNat)(bQ:(c+i)<j.length)(cW:s1/2^(min 32 64)=z)(cP:(i+1)<9223372036854775808)(hL:aJ b a c v z g (i+1) (j.set (c+i) w) r):aJ b a c v d g i j r :=
 lG 189 [1,3,1,1,1,1,2,1,1,1,1,1,1,2,2,1,1] [.a,.q,.t,.h 1 (.row i (ai v1)),.aQ [.o,.o,iU v.toNat,.o,iU v1.toNat,iU p,.o,.o,.o,(iI (((c+i):Nat):Int)),(.nat (c+i)),(.ev (.pv (vW v2))),iU v2.toNat,iU s,iU s1],.aQ [.o,.o,.o,(iI (((c+i):Nat):Int)),.o,iW w,(.nat (c+i)),(.cells (.pure (((j.set (c+i) w):Ws).map ai).flatten))],.h 1 (iU z),.h 0 (iI (((i+1):Nat):Int)),.aH [1,5,6,7,8,17,18,19,24,25,26]] (NA (ay h1) (aL ai (Eq.refl (((i:Nat):Int):Int)) h2) (my v) (my v1) (l5 h3) (aI h4) (cj (Eq.refl ((((c+i):Nat):Int):Int)) h5) (dz (enc:=ai) (f:=fun a=>(vW a)) (fun _=>rfl) h6) (my v2) (dm h7) (dm h8) (aI h4) (cu h9) (cj (Eq.refl ((((c+i):Nat):Int):Int)) h5) (eN bc (j:Ws) w bQ) (cG (k := .u64) cW) (aI cP)) hL
theorem nL(b a:Ws)(c:Nat)(v:UInt32)(d g i:Nat)(j:Ws)(w:UInt32){r:PV}(h1:b.length≤i)(h2:(c+b.length)<9223372036854775808)(h3:d%4294967296=w.toNat)(h4:(c+b.length)<(a.length+b.length))(h5:(c+b.length)<j.length)(h6:(g+1)<9223372036854775808)(hL:ar b a (g+1) (j.set (c+b.length) w) r):aJ b a c v d g i j r :=
 lG 174 [1,1,1,1,2,2,1] [.a,.q,.f,.aQ [.o,.o,.o,(iI (b.length:Int)),(iI (((c+b.length):Nat):Int)),.o,iW w,(.nat (c+b.length)),(.cells (.pure (((j.set (c+b.length) w):Ws).map ai).flatten))],.h 0 (iI (((g+1):Nat):Int)),.aH [1,5,17,18,19]] (y7 (az h1) (av ai b) (aI h2) (cu h3) (cj (Eq.refl ((((c+b.length):Nat):Int):Int)) h4) (eN bc (j:Ws) w h5) (aI h6)) hL
end eL
namespace rJ
theorem e0(a:aB)(b:Bool)(h1:Cp 75 [a.pv] (vB b))(h2:b=false):Cp 104 [a.pv] (ae []) :=
 eD func104 84 [1,1] [.q,.h 1 (.pv (vB b)),.t,.q] (y2 h1 (aD h2))
theorem e1(a:aB)(b:Bool)(h1:Cp 75 [a.pv] (vB b))(h2:b=true):Cp 104 [a.pv] (ae a.cM) :=
 eD func104 87 [1,1] [.q,.h 1 (.pv (vB b)),.f,.q] (y2 h1 (ah h2))
end rJ
namespace dJ
@[reducible] def fn:Func:=Tryz.f117
def br:List dI:=focus [0,2,0,0,2,1,2,0,0,2,0,0] [.code (aA fn)]
def inv1(a b:List UInt32)(rK:Int):St:=⟨[(0,(.pv (ae a))),(1,(.pv (ae b))),(5,(eI rK))],[]⟩
@[reducible] def ar(a b:List UInt32)(rK:Int)(r:PV):Prop:=L a7 fn br (inv1 a b rK) r
theorem e0(a b:Ws)(h1:a.length≠b.length)(h2:a.length<b.length):Cp 117 [ae a,ae b] (vI (-1)) :=
 eD func117 96 [1,1,1,1,1,1] [.q,.aQ [.o,(iI (a.length:Int)),.o,(iI (b.length:Int))],.t,.aQ [.o,(iI (a.length:Int)),.o,(iI (b.length:Int))],.t,.q] (y6 (av ai a) (av ai b) (dc h1) (av ai a) (av ai b) (ay h2))
theorem e1(a b:Ws)(h1:a.length≠b.length)(h2:b.length≤a.length):Cp 117 [ae a,ae b] (vI 1) :=
 eD func117 99 [1,1,1,1,1,1] [.q,.aQ [.o,(iI (a.length:Int)),.o,(iI (b.length:Int))],.t,.aQ [.o,(iI (a.length:Int)),.o,(iI (b.length:Int))],.f,.q] (y6 (av ai a) (av ai b) (dc h1) (av ai a) (av ai b) (az h2))
theorem e2(a b:Ws){r:PV}(h1:a.length=b.length)(h2:aK ((a.length:Int)-1))(hL:ar a b ((a.length:Int)-1) r):Cp 117 [ae a,ae b] r :=
 eG func117 96 [1,1,1,1,1] [.q,.aQ [.o,(iI (a.length:Int)),.o,(iI (b.length:Int))],.f,.aQ [.o,(iI (a.length:Int)),(iI ((a.length:Int)-1))],.aH [0,1,5]] (y5 (av ai a) (av ai b) (bM h1) (av ai a) (bu h2)) hL
theorem dC(a b:Ws)(c:Int)(k:Nat)(v:UInt32)(k1:Nat)(v1:UInt32)(k2:Nat)(v2:UInt32)(k3:Nat)(v3:UInt32)(h1:0≤c)(h2:c=(k:Int))(h3:a[k]? = some v)(h4:c=(k1:Int))(h5:b[k1]? = some v1)(h6:v.toNat≠v1.toNat)(h7:c=(k2:Int))(h8:a[k2]? = some v2)(h9:c=(k3:Int))(bQ:b[k3]? = some v3)(cW:v2.toNat<v3.toNat):ar a b c (vI (-1)) :=
 lD 147 [1,3,3,1,3,3,1] [.a,.q,.t,dr 9 0 [.none,.none,(.row k (ai v)),.none,.none,.none,(.row k1 (ai v1))],.t,dr 9 0 [.none,.none,(.row k2 (ai v2)),.none,.none,.none,(.row k3 (ai v3))],.t,.q] (y7 (eM h1) (aL ai h2 h3) (aL ai h4 h5) (dc h6) (aL ai h7 h8) (aL ai h9 bQ) (ay cW))
theorem dD(a b:Ws)(c:Int)(k:Nat)(v:UInt32)(k1:Nat)(v1:UInt32)(k2:Nat)(v2:UInt32)(k3:Nat)(v3:UInt32)(h1:0≤c)(h2:c=(k:Int))(h3:a[k]? = some v)(h4:c=(k1:Int))(h5:b[k1]? = some v1)(h6:v.toNat≠v1.toNat)(h7:c=(k2:Int))(h8:a[k2]? = some v2)(h9:c=(k3:Int))(bQ:b[k3]? = some v3)(cW:v3.toNat≤v2.toNat):ar a b c (vI 1) :=
 lD 150 [1,3,3,1,3,3,1] [.a,.q,.t,dr 9 0 [.none,.none,(.row k (ai v)),.none,.none,.none,(.row k1 (ai v1))],.t,dr 9 0 [.none,.none,(.row k2 (ai v2)),.none,.none,.none,(.row k3 (ai v3))],.f,.q] (y7 (eM h1) (aL ai h2 h3) (aL ai h4 h5) (dc h6) (aL ai h7 h8) (aL ai h9 bQ) (az cW))
theorem kM(a b:Ws)(c:Int)(k:Nat)(v:UInt32)(k1:Nat)(v1:UInt32){r:PV}(h1:0≤c)(h2:c=(k:Int))(h3:a[k]? = some v)(h4:c=(k1:Int))(h5:b[k1]? = some v1)(h6:v.toNat=v1.toNat)(h7:aK (c-1))(hL:ar a b (c-1) r):ar a b c r :=
 lG 138 [1,3,3,1,1] [.a,.q,.t,dr 9 0 [.none,.none,(.row k (ai v)),.none,.none,.none,(.row k1 (ai v1))],.f,.h 1 (iI (c-1)),.aH [0,1,5]] (y5 (eM h1) (aL ai h2 h3) (aL ai h4 h5) (bM h6) (bu h7)) hL
theorem An(a b:Ws)(c:Int)(h1:c<0):ar a b c (vI 0) :=
 lD 129 [1] [.a,.q,.f,.q] (y1 (jI h1))
end dJ
namespace bx
@[reducible] def fn:Func:=Tryz.f118
def br:List dI:=focus [0,2,0,0,2,1,2,0,0,2,1,2,0,2,0,2,0,2,0,2,0,0,2,0,0] [.code (aA fn)]
def inv1(Mj:Int)(up b:List UInt32)(n m:Nat)(v1 v2:UInt32)(Ek:Int)(qz qA:List UInt32):St:=⟨[(8,(eI Mj)),(9,(.pv (ae (up.take b.length)))),(10,(.row 55 0 n 1)),(11,(.row 61 0 m 1)),(12,(eU v1.toNat)),(13,(eU v2.toNat)),(14,(eI Ek))],[(55,(.pure ((qz:List UInt32).map ai).flatten)),(61,(.pure ((qA:List UInt32).map ai).flatten))]⟩
@[reducible] def ar(Mj:Int)(up b:List UInt32)(n m:Nat)(v1 v2:UInt32)(Ek:Int)(qz qA:List UInt32)(r:PV):Prop:=L a7 fn br (inv1 Mj up b n m v1 v2 Ek qz qA) r
def fP:List dI:=focus [0,2,0,0,2,1,2,0,0,2,1,2,0,2,0,2,0,2,0,2,0,0,2,0,0,0,0,0,2,0,2,0,0,0,2,0,2,0,2,0,0,0] [.code (aA fn)]
def inv2(Mj:Int)(up b:List UInt32)(n m:Nat)(v1 v2:UInt32)(Ek:Int)(l u yv Bc:Nat)(qz qA:List UInt32):St:=⟨[(8,(eI Mj)),(9,(.pv (ae (up.take b.length)))),(10,(.row 55 0 n 1)),(11,(.row 61 0 m 1)),(12,(eU v1.toNat)),(13,(eU v2.toNat)),(14,(eI Ek)),(15,(.row 55 (0+l*1) (u-l) 1)),(17,(eU yv)),(18,(eU Bc))],[(55,(.pure ((qz:List UInt32).map ai).flatten)),(61,(.pure ((qA:List UInt32).map ai).flatten))]⟩
@[reducible] def aJ(Mj:Int)(up b:List UInt32)(n m:Nat)(v1 v2:UInt32)(Ek:Int)(l u yv Bc:Nat)(qz qA:List UInt32)(r:PV):Prop:=L a7 fn fP (inv2 Mj up b n m v1 v2 Ek l u yv Bc qz qA) r
theorem e0(a b:Ws)(c:Int)(d:Ws)(h1:Cp 117 [ae a,ae b] (vI c))(h2:c<0)(h3:Cp 138 [ae a] (ae d)):Cp 118 [ae a,ae b] (.bh [(ae []),ae d]) :=
 eD func118 84 [1,1,1] [.q,.h 2 (.pv (vI c)),.t,.h 1 (.pv (ae d))] (y3 h1 (bf h2) h3)
theorem e1(a b:Ws)(c:Int)(v:UInt32)(d:Ws)(g:UInt32)(i:Ws)(h1:Cp 117 [ae a,ae b] (vI c))(h2:0≤c)(h3:b.length=1)(h4:b[0]? = some v)(h5:Cp 147 [ae a,vW v] (.bh [ae d,vW g]))(h6:Cp 138 [(ae [g])] (ae i)):Cp 118 [ae a,ae b] (.bh [ae d,ae i]) :=
 eD func118 105 [1,1,1,1,3,1,3,1] [.q,.h 2 (.pv (vI c)),.f,.h 1 (iI (b.length:Int)),.t,.aQ [.o,.o,(.row 0 (ai v)),.o,(.pv (.bh [ae d,vW g]))],.aQ [.o,.o,(.q8 0 0 (([g]:Ws).map ai)),(.pv (ae i))]] (y8 h1 (bp h2) (av ai b) (bd h3) (aL ai (Eq.refl (0:Int)) h4) h5 (zJ bc ([g]:Ws)) h6)
theorem e2(a b:Ws)(c:Int)(k:Nat)(v:UInt32)(d:Int)(up z:Ws)(n m k1:Nat)(v1:UInt32)(k2:Nat)(v2:UInt32){r:PV}(h1:Cp 117 [ae a,ae b] (vI c))(h2:0≤c)(h3:b.length≠1)(h4:aK ((b.length:Int)-1))(h5:((b.length:Int)-1)=(k:Int))(h6:b[k]? = some v)(h7:Cp 148 [vW v] (vI d))(h8:Cp 149 [ae b,vI d] (ae up))(h9:b.length≤up.length)(bQ:aw a7 149 [.pv (ae a),.pv (vI d)] [] (.row 0 0 n 1) [(0,(.pure ((z:Ws).map ai).flatten))])(cW:aK ((n:Int)-(((up.take b.length).length:Nat):Int)))(cP:((n:Int)-(((up.take b.length).length:Nat):Int))=(m:Int))(cD:4*m≤140737488355328)(en:aK ((((up.take b.length).length:Nat):Int)-1))(jw:((((up.take b.length).length:Nat):Int)-1)=(k1:Int))(gu:(up.take b.length)[k1]? = some v1)(pC:aK ((((up.take b.length).length:Nat):Int)-2))(rL:((((up.take b.length).length:Nat):Int)-2)=(k2:Int))(pw:(up.take b.length)[k2]? = some v2)(sX:aK ((m:Int)-1))(hL:ar d up b n m v1 v2 ((m:Int)-1) z (List.replicate m (0:UInt32)) r):Cp 118 [ae a,ae b] r :=
 eG func118 135 [1,1,1,1,1,1,3,1,1,1,6,1,1,1,5,1,1,3,1,1,1,3,1,1] [.q,.h 2 (.pv (vI c)),.f,.h 1 (iI (b.length:Int)),.f,.aQ [.o,.o,(iI (b.length:Int)),(iI ((b.length:Int)-1)),(.row k (ai v)),.o,(.pv (vI d))],dr 9 2 [.none,.none,(.pv (ae up)),.none,(iI (b.length:Int)),(.q8 0 b.length (((up.take b.length):Ws).map ai)),.none,.none,(.bz [] (some (0,55)) (.row 0 0 n 1) [(0,(.pure ((z:Ws).map ai).flatten))])],.aQ [.o,.o,.o,(iI (((up.take b.length).length:Nat):Int)),(iI ((n:Int)-(((up.take b.length).length:Nat):Int))),(.app m ((List.replicate m (0:UInt32):Ws).map ai).flatten)],dr 15 1 [.none,.none,(iI (((up.take b.length).length:Nat):Int)),(iI ((((up.take b.length).length:Nat):Int)-1)),(.row k1 (ai v1)),.none,iU v1.toNat,.none,.none,(iI (((up.take b.length).length:Nat):Int)),(iI ((((up.take b.length).length:Nat):Int)-2)),(.row k2 (ai v2)),.none,iU v2.toNat],.h 2 (iI ((m:Int)-1)),.aH [8,9,10,11,12,13,14],.ord [55,61]] (Sx h1 (bp h2) (av ai b) (aR h3) (av ai b) (bu h4) (aL ai h5 h6) h7 h8 (av ai b) (we bc (up:Ws) (Eq.refl (((b.length:Nat):Int):Int)) h9) bQ (av ai (up.take b.length)) (bu cW) (pn ai 0 4 m cP cD rfl) (av ai (up.take b.length)) (bu en) (aL ai jw gu) (my v1) (av ai (up.take b.length)) (bu pC) (aL ai rL pw) (my v2) (bu sX)) hL
theorem dC(c:Int)(up b:Ws)(n m:Nat)(v1 v2:UInt32)(d:Int)(g i:Ws)(l u:Nat)(v:UInt32)(z k:Nat)(v3:UInt32)(z1 q m1:Nat){r:PV}(h1:0≤d)(h2:aK (d+(((up.take b.length).length:Nat):Int)))(h3:aK ((d+(((up.take b.length).length:Nat):Int))+1))(h4:d=(l:Int))(h5:((d+(((up.take b.length).length:Nat):Int))+1)=(u:Int))(h6:l=0∨l<u)(h7:l≤u)(h8:u≤n)(h9:(up.take b.length).length<(u-l))(bQ:g[(0+l*1)+((up.take b.length).length)]? = some v)(cW:(v.toNat*2^(min 32 64))%18446744073709551616=z)(cP:aK ((((up.take b.length).length:Nat):Int)-1))(cD:((((up.take b.length).length:Nat):Int)-1)=(k:Int))(en:k<(u-l))(jw:g[(0+l*1)+k]? = some v3)(gu:(z%18446744073709551616) ||| (v3.toNat%18446744073709551616)=z1)(pC:v1.toNat≠0)(rL:(z1/v1.toNat)%18446744073709551616=q)(pw:z1%v1.toNat=m1)(hL:aJ c up b n m v1 v2 d l u q m1 g i r):ar c up b n m v1 v2 d g i r :=
 lG 186 [1,1,1,1,5,1,2,1,1,1,1,1,2,1,1,1,1,1] [.a,.q,.t,.aQ [.o,.o,.o,.o,(iI (((up.take b.length).length:Nat):Int)),(iI (d+(((up.take b.length).length:Nat):Int))),(iI ((d+(((up.take b.length).length:Nat):Int))+1)),(.q8 l u [])],dr 15 1 [.none,.none,(iI (((up.take b.length).length:Nat):Int)),(.nat ((up.take b.length).length)),(.ev (.pv (vW v))),iU v.toNat,iU z,.none,.none,(iI (((up.take b.length).length:Nat):Int)),(iI ((((up.take b.length).length:Nat):Int)-1)),(.nat k),(.ev (.pv (vW v3))),iU v3.toNat,iU z1],dr 7 1 [.none,.none,iU q,.none,.none,iU m1],.aH [8,9,10,11,12,13,14,15,17,18]] (Jm (eM h1) (av ai (up.take b.length)) (jP h2) (jP h3) (Mh h4 h5 h6 h7 h8) (av ai (up.take b.length)) (cj (Eq.refl ((((up.take b.length).length:Nat):Int):Int)) h9) (l7 (enc:=ai) (f:=fun a=>(vW a)) (fun _=>rfl) bQ) (my v) (gW (k := .u64) cW) (av ai (up.take b.length)) (bu cP) (cj cD en) (l7 (enc:=ai) (f:=fun a=>(vW a)) (fun _=>rfl) jw) (my v3) (l6 gu) (yh pC rL) (yi pC pw)) hL
theorem dD(c:Int)(up b:Ws)(n m:Nat)(v1 v2:UInt32)(d:Int)(g i j k:Ws)(h1:d<0)(h2:m=i.length)(h3:n=g.length)(h4:Cp 138 [ae i] (ae j))(h5:Cp 152 [ae g,vI c] (ae k)):ar c up b n m v1 v2 d g i (.bh [ae j,ae k]) :=
 lD 168 [1,3,3,1,1] [.a,.q,.f,.jM 11 ((i:Ws).map ai),.jM 10 ((g:Ws).map ai),.aQ [.o,(.pv (ae j)),.o,.o,(.pv (ae k))]] (y5 (jI h1) (cq bc (i:Ws) h2) (cq bc (g:Ws) h3) h4 h5)
theorem nK(c:Int)(up b:Ws)(n m:Nat)(v1 v2:UInt32)(g:Int)(l u i j:Nat)(k p:Ws)(d s:Nat){r:PV}(h1:j<4294967296)(h2:4294967296≤i)(h3:((i:Nat)-(1:Nat):Int)%18446744073709551616=(d:Int))(h4:(j+v1.toNat)%18446744073709551616=s)(hL:aJ c up b n m v1 v2 g l u d s k p r):aJ c up b n m v1 v2 g l u i j k p r :=
 lG 219 [1,1,1,1,1,1,1,1,1,1,1,1,1,1,1,1,1,1,1,1,1,1] [.a,.aQ [.o,.o,.o,.o,.o,.o,.skip,.skip,.skip,.skip,.skip,.skip,.skip,.skip,.skip,.skip,.skip,.skip,.skip,.skip,(.dec true),(.dec true)],.a,.h 1 (iU d),.h 2 (iU s),.aH [8,9,10,11,12,13,14,15,17,18]] (Kb (ay h1) (ay h1) (ay h1) (bw h2) (bw h2) (bw h2) (bw h2) (bw h2) (bw h2) (bw h2) (bw h2) (bw h2) (bw h2) (bw h2) (bw h2) (bw h2) (bw h2) (ay h1) (bw h2) (ay h1) (da h3) (dm h4)) hL
theorem nL(c:Int)(up b:Ws)(n m:Nat)(v1 v2:UInt32)(g:Int)(l u i j:Nat)(q w:Ws)(p z k:Nat)(v:UInt32)(z1 d s:Nat){r:PV}(h1:j<4294967296)(h2:i<4294967296)(h3:(i*v2.toNat)%18446744073709551616=p)(h4:(j*2^(min 32 64))%18446744073709551616=z)(h5:aK ((((up.take b.length).length:Nat):Int)-2))(h6:((((up.take b.length).length:Nat):Int)-2)=(k:Int))(h7:k<(u-l))(h8:q[(0+l*1)+k]? = some v)(h9:(z%18446744073709551616) ||| (v.toNat%18446744073709551616)=z1)(bQ:z1<p)(cW:((i:Nat)-(1:Nat):Int)%18446744073709551616=(d:Int))(cP:(j+v1.toNat)%18446744073709551616=s)(hL:aJ c up b n m v1 v2 g l u d s q w r):aJ c up b n m v1 v2 g l u i j q w r :=
 lG 219 [1,1,1,1,1,1,1,1,1,1,1,1,1,1,1,1,1,2,1,1,1,1,1,1,1,1,1,1,1,1,1] [.a,.aQ [.o,.o,.o,.o,.o,.o,.o,.o,iU p,.o,iU z,.o,.o,(iI (((up.take b.length).length:Nat):Int)),(iI ((((up.take b.length).length:Nat):Int)-2)),(.nat k),(.ev (.pv (vW v))),iU v.toNat,iU z1,.o,(.dec false),(.dec true)],.t,.h 1 (iU d),.h 2 (iU s),.aH [8,9,10,11,12,13,14,15,17,18]] (Pz (ay h1) (ay h1) (ay h1) (aX h2) (aX h2) (aX h2) (l5 h3) (aX h2) (aX h2) (gW (k := .u64) h4) (aX h2) (aX h2) (aX h2) (av ai (up.take b.length)) (aX h2) (bu h5) (aX h2) (cj h6 h7) (aX h2) (l7 (enc:=ai) (f:=fun a=>(vW a)) (fun _=>rfl) h8) (aX h2) (my v) (aX h2) (l6 h9) (aX h2) (ay h1) (aX h2) (ay h1) (ay bQ) (da cW) (dm cP)) hL
theorem vv(c:Int)(up b:Ws)(n m:Nat)(v1 v2:UInt32)(g:Int)(l u i j:Nat)(q s:Ws)(p z k:Nat)(v:UInt32)(z1:Nat)(z2:Ws)(x:Bool)(d:Nat)(z3:Ws)(w:UInt32)(k1:Nat){r:PV}(h1:j<4294967296)(h2:i<4294967296)(h3:(i*v2.toNat)%18446744073709551616=p)(h4:(j*2^(min 32 64))%18446744073709551616=z)(h5:aK ((((up.take b.length).length:Nat):Int)-2))(h6:((((up.take b.length).length:Nat):Int)-2)=(k:Int))(h7:k<(u-l))(h8:q[(0+l*1)+k]? = some v)(h9:(z%18446744073709551616) ||| (v.toNat%18446744073709551616)=z1)(bQ:p≤z1)(cW:aw a7 150 [.row 100000 (0+l*1) (u-l) 1,.pv (ae (up.take b.length)),.pv (vU i)] [(100000,(.pure ((q:Ws).map ai).flatten))] (.pv (vB x)) [(100000,(.pure ((z2:Ws).map ai).flatten))])(cP:x=true)(cD:((i:Nat)-(1:Nat):Int)%18446744073709551616=(d:Int))(en:aw a7 151 [.row 100000 (0+l*1) (u-l) 1,.pv (ae (up.take b.length))] [(100000,(.pure ((z2:Ws).map ai).flatten))] (.pv (.bh [])) [(100000,(.pure ((z3:Ws).map ai).flatten))])(jw:d%4294967296=w.toNat)(gu:g=(k1:Int))(pC:k1<m)(rL:k1<s.length)(pw:aK (g-1))(hL:ar c up b n m v1 v2 (g-1) z3 (s.set k1 w) r):aJ c up b n m v1 v2 g l u i j q s r :=
 lG 243 [1,1,1,1,1,1,1,1,1,1,1,1,1,1,1,1,1,2,1,1,1,1,1,1,1,1,1,1,1,1,1,1,1,1,2,2,1] [.a,.aQ [.o,.o,.o,.o,.o,.o,.o,.o,iU p,.o,iU z,.o,.o,(iI (((up.take b.length).length:Nat):Int)),(iI ((((up.take b.length).length:Nat):Int)-2)),(.nat k),(.ev (.pv (vW v))),iU v.toNat,iU z1,.o,(.dec false),(.dec true)],.f,.h 3 (.bz [(55,100000)] none (.pv (vB x)) [(100000,(.pure ((z2:Ws).map ai).flatten))]),.t,.h 1 (iU d),.h 2 (.bz [(55,100000)] none (.pv (.bh [])) [(100000,(.pure ((z3:Ws).map ai).flatten))]),.aQ [.o,.o,.o,iW w,(.nat k1),(.cells (.pure (((s.set k1 w):Ws).map ai).flatten))],.h 1 (iI (g-1)),.aH [8,9,10,11,12,13,14]] (SD (ay h1) (ay h1) (ay h1) (aX h2) (aX h2) (aX h2) (l5 h3) (aX h2) (aX h2) (gW (k := .u64) h4) (aX h2) (aX h2) (aX h2) (av ai (up.take b.length)) (aX h2) (bu h5) (aX h2) (cj h6 h7) (aX h2) (l7 (enc:=ai) (f:=fun a=>(vW a)) (fun _=>rfl) h8) (aX h2) (my v) (aX h2) (l6 h9) (aX h2) (ay h1) (aX h2) (ay h1) (az bQ) cW cP (da cD) en (cu jw) (cj gu pC) (eN bc (s:Ws) w rL) (bu pw)) hL
theorem HY(c:Int)(up b:Ws)(n m:Nat)(v1 v2:UInt32)(d:Int)(l u g i:Nat)(j q:Ws)(p z k:Nat)(v:UInt32)(z1:Nat)(z2:Ws)(s:Bool)(w:UInt32)(k1:Nat){r:PV}(h1:i<4294967296)(h2:g<4294967296)(h3:(g*v2.toNat)%18446744073709551616=p)(h4:(i*2^(min 32 64))%18446744073709551616=z)(h5:aK ((((up.take b.length).length:Nat):Int)-2))(h6:((((up.take b.length).length:Nat):Int)-2)=(k:Int))(h7:k<(u-l))(h8:j[(0+l*1)+k]? = some v)(h9:(z%18446744073709551616) ||| (v.toNat%18446744073709551616)=z1)(bQ:p≤z1)(cW:aw a7 150 [.row 100000 (0+l*1) (u-l) 1,.pv (ae (up.take b.length)),.pv (vU g)] [(100000,(.pure ((j:Ws).map ai).flatten))] (.pv (vB s)) [(100000,(.pure ((z2:Ws).map ai).flatten))])(cP:s=false)(cD:g%4294967296=w.toNat)(en:d=(k1:Int))(jw:k1<m)(gu:k1<q.length)(pC:aK (d-1))(hL:ar c up b n m v1 v2 (d-1) z2 (q.set k1 w) r):aJ c up b n m v1 v2 d l u g i j q r :=
 lG 237 [1,1,1,1,1,1,1,1,1,1,1,1,1,1,1,1,1,2,1,1,1,1,1,1,1,1,1,1,1,1,1,1,2,2,1] [.a,.aQ [.o,.o,.o,.o,.o,.o,.o,.o,iU p,.o,iU z,.o,.o,(iI (((up.take b.length).length:Nat):Int)),(iI ((((up.take b.length).length:Nat):Int)-2)),(.nat k),(.ev (.pv (vW v))),iU v.toNat,iU z1,.o,(.dec false),(.dec true)],.f,.h 3 (.bz [(55,100000)] none (.pv (vB s)) [(100000,(.pure ((z2:Ws).map ai).flatten))]),.f,.aQ [.o,.o,.o,iW w,(.nat k1),(.cells (.pure (((q.set k1 w):Ws).map ai).flatten))],.h 1 (iI (d-1)),.aH [8,9,10,11,12,13,14]] (QT (ay h1) (ay h1) (ay h1) (aX h2) (aX h2) (aX h2) (l5 h3) (aX h2) (aX h2) (gW (k := .u64) h4) (aX h2) (aX h2) (aX h2) (av ai (up.take b.length)) (aX h2) (bu h5) (aX h2) (cj h6 h7) (aX h2) (l7 (enc:=ai) (f:=fun a=>(vW a)) (fun _=>rfl) h8) (aX h2) (my v) (aX h2) (l6 h9) (aX h2) (ay h1) (aX h2) (ay h1) (az bQ) cW cP (cu cD) (cj en jw) (eN bc (q:Ws) w gu) (bu pC)) hL
theorem NB(c:Int)(up b:Ws)(n m:Nat)(v1 v2:UInt32)(g:Int)(l u i j:Nat)(p q z:Ws)(s:Bool)(d:Nat)(z1:Ws)(w:UInt32)(k:Nat){r:PV}(h1:4294967296≤j)(h2:aw a7 150 [.row 100000 (0+l*1) (u-l) 1,.pv (ae (up.take b.length)),.pv (vU i)] [(100000,(.pure ((p:Ws).map ai).flatten))] (.pv (vB s)) [(100000,(.pure ((z:Ws).map ai).flatten))])(h3:s=true)(h4:((i:Nat)-(1:Nat):Int)%18446744073709551616=(d:Int))(h5:aw a7 151 [.row 100000 (0+l*1) (u-l) 1,.pv (ae (up.take b.length))] [(100000,(.pure ((z:Ws).map ai).flatten))] (.pv (.bh [])) [(100000,(.pure ((z1:Ws).map ai).flatten))])(h6:d%4294967296=w.toNat)(h7:g=(k:Int))(h8:k<m)(h9:k<q.length)(bQ:aK (g-1))(hL:ar c up b n m v1 v2 (g-1) z1 (q.set k w) r):aJ c up b n m v1 v2 g l u i j p q r :=
 lG 243 [1,1,1,1,1,1,1,1,1,1,2,2,1] [.a,.aQ [.o,.o,.o,.skip,.skip,.skip,.skip,.skip,.skip,.skip,.skip,.skip,.skip,.skip,.skip,.skip,.skip,.skip,.skip,.skip,.skip,(.dec false)],.a,.h 3 (.bz [(55,100000)] none (.pv (vB s)) [(100000,(.pure ((z:Ws).map ai).flatten))]),.t,.h 1 (iU d),.h 2 (.bz [(55,100000)] none (.pv (.bh [])) [(100000,(.pure ((z1:Ws).map ai).flatten))]),.aQ [.o,.o,.o,iW w,(.nat k),(.cells (.pure (((q.set k w):Ws).map ai).flatten))],.h 1 (iI (g-1)),.aH [8,9,10,11,12,13,14]] (HU (az h1) (az h1) (az h1) (az h1) (az h1) h2 h3 (da h4) h5 (cu h6) (cj h7 h8) (eN bc (q:Ws) w h9) (bu bQ)) hL
theorem SG(c:Int)(up b:Ws)(n m:Nat)(v1 v2:UInt32)(d:Int)(l u g i:Nat)(j p z:Ws)(q:Bool)(w:UInt32)(k:Nat){r:PV}(h1:4294967296≤i)(h2:aw a7 150 [.row 100000 (0+l*1) (u-l) 1,.pv (ae (up.take b.length)),.pv (vU g)] [(100000,(.pure ((j:Ws).map ai).flatten))] (.pv (vB q)) [(100000,(.pure ((z:Ws).map ai).flatten))])(h3:q=false)(h4:g%4294967296=w.toNat)(h5:d=(k:Int))(h6:k<m)(h7:k<p.length)(h8:aK (d-1))(hL:ar c up b n m v1 v2 (d-1) z (p.set k w) r):aJ c up b n m v1 v2 d l u g i j p r :=
 lG 237 [1,1,1,1,1,1,1,1,2,2,1] [.a,.aQ [.o,.o,.o,.skip,.skip,.skip,.skip,.skip,.skip,.skip,.skip,.skip,.skip,.skip,.skip,.skip,.skip,.skip,.skip,.skip,.skip,(.dec false)],.a,.h 3 (.bz [(55,100000)] none (.pv (vB q)) [(100000,(.pure ((z:Ws).map ai).flatten))]),.f,.aQ [.o,.o,.o,iW w,(.nat k),(.cells (.pure (((p.set k w):Ws).map ai).flatten))],.h 1 (iI (d-1)),.aH [8,9,10,11,12,13,14]] (A8 (az h1) (az h1) (az h1) (az h1) (az h1) h2 h3 (cu h4) (cj h5 h6) (eN bc (p:Ws) w h7) (bu h8)) hL
end bx
namespace tD
theorem e0(n:Int)(m m1:Nat)(w:UInt32)(z:Nat)(w1:UInt32)(a:aB)(h1:n%18446744073709551616=(m:Int))(h2:n<0)(h3:(0-(m:Int))%18446744073709551616=(m1:Int))(h4:m1%4294967296=w.toNat)(h5:m1/2^(min 32 64)=z)(h6:z%4294967296=w1.toNat)(h7:Cp 101 [(vB (decide (n<0))),(ae [w,w1])] a.pv):Cp 119 [vI n] a.pv :=
 eD func119 93 [1,1,1,1,1,1,3,1] [.q,.h 1 (iU m),.q,.t,.h 1 (iU m1),.aQ [.o,.o,.o,iW w,.o,iU z,iW w1,(.q8 0 0 (([w,w1]:Ws).map ai)),(.pv a.pv)]] (y8 (A5 h1) (bf h2) (yk h3) (cu h4) (cG (k := .u64) h5) (cu h6) (zJ bc ([w,w1]:Ws)) h7)
theorem e1(n:Int)(m:Nat)(w:UInt32)(z:Nat)(w1:UInt32)(a:aB)(h1:n%18446744073709551616=(m:Int))(h2:0≤n)(h3:m%4294967296=w.toNat)(h4:m/2^(min 32 64)=z)(h5:z%4294967296=w1.toNat)(h6:Cp 101 [(vB (decide (n<0))),(ae [w,w1])] a.pv):Cp 119 [vI n] a.pv :=
 eD func119 93 [1,1,1,1,1,3,1] [.q,.h 1 (iU m),.q,.f,.aQ [.o,.o,.o,iW w,.o,iU z,iW w1,(.q8 0 0 (([w,w1]:Ws).map ai)),(.pv a.pv)]] (y7 (A5 h1) (bp h2) (cu h3) (cG (k := .u64) h4) (cu h5) (zJ bc ([w,w1]:Ws)) h6)
end tD
namespace lj
@[reducible] def fn:Func:=Tryz.f120
def br:List dI:=focus [0,2,0,2,0,2,0,0,2,0,0] [.code (aA fn)]
def inv1(a b:List UInt32)(qB nZ:Nat)(Bd:List UInt32):St:=⟨[(0,(.pv (ae a))),(1,(.pv (ae b))),(5,(.row 14 0 ((max a.length b.length)+1) 1)),(6,(eU qB)),(16,(eI ((((max a.length b.length)+1):Nat):Int))),(17,(eI (nZ:Int)))],[(14,(.pure ((Bd:List UInt32).map ai).flatten))]⟩
@[reducible] def ar(a b:List UInt32)(qB nZ:Nat)(Bd:List UInt32)(r:PV):Prop:=L a7 fn br (inv1 a b qB nZ Bd) r
theorem e0(a b:Ws){r:PV}(h1:((max a.length b.length)+1)<9223372036854775808)(h2:4*((max a.length b.length)+1)≤140737488355328)(hL:ar a b 0 0 (List.replicate ((max a.length b.length)+1) (0:UInt32)) r):Cp 120 [ae a,ae b] r :=
 eG func120 93 [1,1,1,1,5] [.q,.aQ [.o,(iI (a.length:Int)),.o,(iI (b.length:Int)),(iI (((max a.length b.length):Nat):Int)),(iI ((((max a.length b.length)+1):Nat):Int)),(.app ((max a.length b.length)+1) ((List.replicate ((max a.length b.length)+1) (0:UInt32):Ws).map ai).flatten)],.q,.q,.aH [0,1,5,6,16,17]] (y5 (av ai a) (av ai b) (yp a.length b.length) (aI h1) (pn ai 0 4 ((max a.length b.length)+1) (Eq.refl (((((max a.length b.length)+1):Nat):Int):Int)) h2 rfl)) hL
theorem dC(a b:Ws)(c d:Nat)(g:Ws)(i j s s1:Nat)(w:UInt32)(z:Nat){r:PV}(h1:d<((max a.length b.length)+1))(h2:Cp 153 [ae a,(vI (d:Int))] (vU i))(h3:Cp 153 [ae b,(vI (d:Int))] (vU j))(h4:(i+j)%18446744073709551616=s)(h5:(c+s)%18446744073709551616=s1)(h6:s1%4294967296=w.toNat)(h7:d<g.length)(h8:s1/2^(min 32 64)=z)(h9:(d+1)<9223372036854775808)(hL:ar a b z (d+1) (g.set d w) r):ar a b c d g r :=
 lG 144 [1,1,1,1,1,1,2,2,1,1] [.a,.q,.t,.q,.aQ [.o,.o,.o,(.pv (vU i)),.o,.o,(.pv (vU j)),iU s,iU s1],.aQ [.o,.o,.o,iW w,(.nat d),(.cells (.pure (((g.set d w):Ws).map ai).flatten))],.h 1 (iU z),.h 0 (iI (((d+1):Nat):Int)),.aH [0,1,5,6,16,17]] (wh (ay h1) h2 h3 (dm h4) (dm h5) (cu h6) (cj (Eq.refl (((d:Nat):Int):Int)) h1) (eN bc (g:Ws) w h7) (cG (k := .u64) h8) (aI h9)) hL
theorem dD(a b:Ws)(c d:Nat)(g i:Ws)(h1:((max a.length b.length)+1)≤d)(h2:((max a.length b.length)+1)=g.length)(h3:Cp 138 [ae g] (ae i)):ar a b c d g (ae i) :=
 lD 126 [1,3,1] [.a,.q,.f,.jM 5 ((g:Ws).map ai),.h 1 (.pv (ae i))] (y3 (az h1) (cq bc (g:Ws) h2) h3)
end lj
namespace lk
@[reducible] def fn:Func:=Tryz.f121
def br:List dI:=focus [0,2,0,2,0,2,0,0,2,0,0] [.code (aA fn)]
def inv1(a b:List UInt32)(n5 Mk:Nat)(ll:List UInt32):St:=⟨[(0,(.pv (ae a))),(1,(.pv (ae b))),(5,(.row 11 0 a.length 1)),(6,(eU n5)),(13,(eI (a.length:Int))),(14,(eI (Mk:Int)))],[(11,(.pure ((ll:List UInt32).map ai).flatten))]⟩
@[reducible] def ar(a b:List UInt32)(n5 Mk:Nat)(ll:List UInt32)(r:PV):Prop:=L a7 fn br (inv1 a b n5 Mk ll) r
theorem e0(a b:Ws){r:PV}(h1:4*a.length≤140737488355328)(hL:ar a b 0 0 (List.replicate a.length (0:UInt32)) r):Cp 121 [ae a,ae b] r :=
 eG func121 93 [1,5] [.q,.aQ [.o,(iI (a.length:Int)),(.app a.length ((List.replicate a.length (0:UInt32):Ws).map ai).flatten)],.q,.q,.aH [0,1,5,6,13,14]] (y2 (av ai a) (pn ai 0 4 a.length (Eq.refl (((a.length:Nat):Int):Int)) h1 rfl)) hL
theorem dC(a b:Ws)(c g:Nat)(i:Ws)(v:UInt32)(j d d1:Nat)(w:UInt32)(z:Nat){r:PV}(h1:g<a.length)(h2:a[g]? = some v)(h3:Cp 153 [ae b,(vI (g:Int))] (vU j))(h4:((v.toNat:Nat)-(j:Nat):Int)%18446744073709551616=(d:Int))(h5:((d:Nat)-(c:Nat):Int)%18446744073709551616=(d1:Int))(h6:d1%4294967296=w.toNat)(h7:g<i.length)(h8:d1/2^(min 63 64)=z)(h9:(g+1)<9223372036854775808)(hL:ar a b z (g+1) (i.set g w) r):ar a b c g i r :=
 lG 144 [1,3,1,1,1,1,1,2,2,1,1] [.a,.q,.t,.q,dr 11 1 [.none,.none,(.row g (ai v)),.none,iU v.toNat,.none,.none,(.pv (vU j)),iU d,.none,iU d1],.aQ [.o,.o,.o,iW w,(.nat g),(.cells (.pure (((i.set g w):Ws).map ai).flatten))],.h 1 (iU z),.h 0 (iI (((g+1):Nat):Int)),.aH [0,1,5,6,13,14]] (A8 (ay h1) (aL ai (Eq.refl (((g:Nat):Int):Int)) h2) (my v) h3 (da h4) (da h5) (cu h6) (cj (Eq.refl (((g:Nat):Int):Int)) h1) (eN bc (i:Ws) w h7) (cG (k := .u64) h8) (aI h9)) hL
theorem dD(a b:Ws)(c d:Nat)(g i:Ws)(h1:a.length≤d)(h2:a.length=g.length)(h3:Cp 138 [ae g] (ae i)):ar a b c d g (ae i) :=
 lD 126 [1,3,1] [.a,.q,.f,.jM 5 ((g:Ws).map ai),.h 1 (.pv (ae i))] (y3 (az h1) (cq bc (g:Ws) h2) h3)
end lk
namespace jx
@[reducible] def fn:Func:=Tryz.f138
def br:List dI:=focus [0,2,0,2,0,0,0] [.code (aA fn)]
def inv1(m:List UInt32)(HZ:Int):St:=⟨[(0,(.pv (ae m))),(3,(eI HZ))],[]⟩
@[reducible] def ar(m:List UInt32)(HZ:Int)(r:PV):Prop:=L a7 fn br (inv1 m HZ) r
theorem e0 (m : Ws) {r : PV}  (hL : ar m (m.length : Int) r) : Cp 138 [ae m] r :=
 eG func138 81 [1] [.q,.h 1 (iI (m.length:Int)),.aH [0,3]] (y1 (av ai m)) hL
theorem dC(m:Ws)(b:Int)(k:Nat)(v:UInt32){r:PV}(h1:0<b)(h2:aK (b-1))(h3:(b-1)=(k:Int))(h4:m[k]? = some v)(h5:v.toNat=0)(hL:ar m (b-1) r):ar m b r :=
 lG 108 [1,1,1,1,1,3,1,1,1,1,1] [.a,.aQ [.o,.o,.o,.o,.o,(iI (b-1)),(.row k (ai v)),.o,.o,(.dec true)],.t,.h 1 (iI (b-1)),.aH [0,3]] (A8 (bf h1) (bf h1) (bf h1) (bu h2) (bf h1) (aL ai h3 h4) (bf h1) (bf h1) (bf h1) (bd h5) (bu h2)) hL
theorem kM(m:Ws)(b:Int)(k:Nat)(v:UInt32)(u:Nat)(h1:0<b)(h2:aK (b-1))(h3:(b-1)=(k:Int))(h4:m[k]? = some v)(h5:v.toNat≠0)(h6:b≠0)(h7:b=(u:Int))(h8:u≤m.length)(h9:(([]:Ws)++(m.take u):Ws).length*4≤140737488355328):ar m b (ae (m.take u)) :=
 lD 129 [1,1,1,1,1,3,1,1,1,1,1,6,6,3] [.a,.aQ [.o,.o,.o,.o,.o,(iI (b-1)),(.row k (ai v)),.o,.o,(.dec true)],.f,.q,.f,.aQ [.o,.o,.o,(.q8 0 u (((m.take u):Ws).map ai)),(.app ((m.take u):Ws).length (((m.take u):Ws).map ai).flatten)],.jM 2 (((m.take u):Ws).map ai)] (Ga (bf h1) (bf h1) (bf h1) (bu h2) (bf h1) (aL ai h3 h4) (bf h1) (bf h1) (bf h1) (aR h5) (bm h6) (we bc (m:Ws) h7 h8) (rF bc ([]:Ws) ((m.take u):Ws) 4 (Eq.refl ([]:Ws).length) h9 rfl) (cq bc ((m.take u):Ws) (Eq.refl ((m.take u):Ws).length)))
theorem An(m:Ws)(b:Int)(h1:b≤0)(h2:b=0):ar m b (ae []) :=
 lD 126 [1,1,1,1,1,1,1,1] [.a,.aQ [.o,.o,.o,.skip,.skip,.skip,.skip,.skip,.skip,(.dec false)],.a,.q,.t,.q] (y8 (bp h1) (bp h1) (bp h1) (bp h1) (bp h1) (bp h1) (bp h1) (bA h2))
end jx
namespace sY
theorem e0(x:Nat)(b:Int)(h1:Cp 166 [vU x] (vI b)):Cp 142 [vU x] (vI b) :=
 eD func142 81 [1] [.q,.a,.h 1 (.pv (vI b))] (y1 h1)
end sY
namespace j6
@[reducible] def fn:Func:=Tryz.f147
def br:List dI:=focus [0,2,0,2,0,2,0,0,2,0,0] [.code (aA fn)]
def inv1(a:List UInt32)(b:UInt32)(El:Nat)(kN:Int)(ll:List UInt32):St:=⟨[(0,(.pv (ae a))),(1,(eW b)),(6,(.row 11 0 a.length 1)),(7,(eU El)),(8,(eI kN))],[(11,(.pure ((ll:List UInt32).map ai).flatten))]⟩
@[reducible] def ar(a:List UInt32)(b:UInt32)(El:Nat)(kN:Int)(ll:List UInt32)(r:PV):Prop:=L a7 fn br (inv1 a b El kN ll) r
theorem e0(a:Ws)(b:UInt32){r:PV}(h1:4*a.length≤140737488355328)(h2:aK ((a.length:Int)-1))(hL:ar a b 0 ((a.length:Int)-1) (List.replicate a.length (0:UInt32)) r):Cp 147 [ae a,vW b] r :=
 eG func147 93 [1,5,1,1] [.q,.aQ [.o,(iI (a.length:Int)),(.app a.length ((List.replicate a.length (0:UInt32):Ws).map ai).flatten)],.q,.aQ [.o,(iI (a.length:Int)),(iI ((a.length:Int)-1))],.aH [0,1,6,7,8]] (y4 (av ai a) (pn ai 0 4 a.length (Eq.refl (((a.length:Nat):Int):Int)) h1 rfl) (av ai a) (bu h2)) hL
theorem dC(a:Ws)(b:UInt32)(c:Nat)(d:Int)(g:Ws)(z k:Nat)(v:UInt32)(z1 q:Nat)(w:UInt32)(k1 m:Nat){r:PV}(h1:0≤d)(h2:(c*2^(min 32 64))%18446744073709551616=z)(h3:d=(k:Int))(h4:a[k]? = some v)(h5:(z%18446744073709551616) ||| (v.toNat%18446744073709551616)=z1)(h6:b.toNat≠0)(h7:(z1/b.toNat)%18446744073709551616=q)(h8:q%4294967296=w.toNat)(h9:d=(k1:Int))(bQ:k1<a.length)(cW:k1<g.length)(cP:z1%b.toNat=m)(cD:aK (d-1))(hL:ar a b m (d-1) (g.set k1 w) r):ar a b c d g r :=
 lG 138 [1,1,3,1,1,1,1,1,2,2,1,1,1] [.a,.q,.t,.aQ [.o,iU z,.o,.o,(.row k (ai v)),.o,iU v.toNat,iU z1],.aQ [.o,.o,.o,.o,iU b.toNat,iU q,iW w,(.nat k1),(.cells (.pure (((g.set k1 w):Ws).map ai).flatten))],.aQ [.o,.o,iU b.toNat,iU m],.h 1 (iI (d-1)),.aH [0,1,6,7,8]] (HU (eM h1) (gW (k := .u64) h2) (aL ai h3 h4) (my v) (l6 h5) (my b) (yh h6 h7) (cu h8) (cj h9 bQ) (eN bc (g:Ws) w cW) (my b) (yi h6 cP) (bu cD)) hL
theorem dD(a:Ws)(b:UInt32)(c:Nat)(d:Int)(g i:Ws)(w:UInt32)(h1:d<0)(h2:a.length=g.length)(h3:Cp 138 [ae g] (ae i))(h4:c%4294967296=w.toNat):ar a b c d g (.bh [ae i,vW w]) :=
 lD 126 [1,3,1,1] [.a,.q,.f,.jM 6 ((g:Ws).map ai),.aQ [.o,(.pv (ae i)),.o,iW w]] (y4 (jI h1) (cq bc (g:Ws) h2) h3 (cu h4))
end j6
namespace j7
theorem e0(x:UInt32)(a:Int)(h1:Cp 165 [vW x] (vI a))(h2:aK (32-a)):Cp 148 [vW x] (vI (32-a)) :=
 eD func148 72 [1,1] [.q,.aQ [.o,(.pv (vI a)),(iI (32-a))]] (y2 h1 (bu h2))
end j7
namespace n9
@[reducible] def fn:Func:=Tryz.f149
def br:List dI:=focus [0,2,0,2,0,0,2,0,0] [.code (aA fn)]
def inv1(n:Int)(a:List UInt32)(tE:Nat)(gY:List UInt32):St:=⟨[(1,(eI n)),(5,(.row 12 0 (a.length+1) 1)),(13,(.pv (ae a))),(14,(eI (a.length:Int))),(15,(eI (tE:Int)))],[(12,(.pure ((gY:List UInt32).map ai).flatten))]⟩
@[reducible] def ar(n:Int)(a:List UInt32)(tE:Nat)(gY:List UInt32)(r:PV):Prop:=L a7 fn br (inv1 n a tE gY) r
theorem e0(a:Ws)(n:Int){r:PV}(h1:(a.length+1)<9223372036854775808)(h2:4*(a.length+1)≤140737488355328)(hL:ar n a 0 (List.replicate (a.length+1) (0:UInt32)) r):Cp 149 [ae a,vI n] r :=
 eG func149 87 [1,1,5,1] [.q,.aQ [.o,(iI (a.length:Int)),(iI (((a.length+1):Nat):Int)),(.app (a.length+1) ((List.replicate (a.length+1) (0:UInt32):Ws).map ai).flatten)],.h 1 (iI (a.length:Int)),.aH [1,5,13,14,15]] (y4 (av ai a) (aI h1) (pn ai 0 4 (a.length+1) (Eq.refl ((((a.length+1):Nat):Int):Int)) h2 rfl) (av ai a)) hL
theorem dC(n:Int)(a:Ws)(b:Nat)(c:Ws)(v:UInt32)(k z:Nat)(v1 w z1:UInt32)(z2:Nat)(w1:UInt32){r:PV}(h1:b<a.length)(h2:a[b]? = some v)(h3:n=(k:Int))(h4:(v.toNat*2^(min k 64))%18446744073709551616=z)(h5:b<(a.length+1))(h6:c[b]? = some v1)(h7:z%4294967296=w.toNat)(h8:(v1.toNat%4294967296) ||| (w.toNat%4294967296)=z1.toNat)(h9:b<c.length)(bQ:(b+1)<9223372036854775808)(cW:z/2^(min 32 64)=z2)(cP:z2%4294967296=w1.toNat)(cD:(b+1)<(a.length+1))(en:(b+1)<(c.set b z1).length)(hL:ar n a (b+1) ((c.set b z1).set (b+1) w1) r):ar n a b c r :=
 lG 138 [1,3,1,1,2,1,1,1,2,2,1,1,1,2,2,1] [.a,.q,.t,.h 1 (.row b (ai v)),.aQ [.o,iU v.toNat,.o,iU z],.aQ [.o,.o,(.nat b),(.ev (.pv (vW v1))),.o,iW w,iW z1,(.nat b),(.cells (.pure (((c.set b z1):Ws).map ai).flatten))],.aQ [.o,.o,(iI (((b+1):Nat):Int)),.o,iU z2,iW w1,(.nat (b+1)),(.cells (.pure ((((c.set b z1).set (b+1) w1):Ws).map ai).flatten))],.h 0 (iI (((b+1):Nat):Int)),.aH [1,5,13,14,15]] (Ka (ay h1) (aL ai (Eq.refl (((b:Nat):Int):Int)) h2) (my v) (J8 h3 (gW (k := .i64) h4)) (cj (Eq.refl (((b:Nat):Int):Int)) h5) (dz (enc:=ai) (f:=fun a=>(vW a)) (fun _=>rfl) h6) (cu h7) (se h8) (cj (Eq.refl (((b:Nat):Int):Int)) h5) (eN bc (c:Ws) z1 h9) (aI bQ) (cG (k := .u64) cW) (cu cP) (cj (Eq.refl ((((b+1):Nat):Int):Int)) cD) (eN bc ((c.set b z1):Ws) w1 en) (aI bQ)) hL
theorem dD(n:Int)(a:Ws)(b:Nat)(c:Ws)(h1:a.length≤b)(h2:(a.length+1)=c.length):ar n a b c (ae c) :=
 lD 120 [1,3] [.a,.q,.f,.q,.jM 4 ((c:Ws).map ai)] (y2 (az h1) (cq bc (c:Ws) h2))
end n9
namespace mD
@[reducible] def fn:Func:=Tryz.f149
def br:List dI:=focus [0,2,0,2,0,0,2,0,0] [.code (aA fn)]
def inv1(n:Int)(a:List UInt32)(tE:Nat)(gY:List UInt32):St:=⟨[(1,(eI n)),(5,(.row 12 0 (a.length+1) 1)),(13,(.pv (ae a))),(14,(eI (a.length:Int))),(15,(eI (tE:Int)))],[(12,(.pure ((gY:List UInt32).map ai).flatten))]⟩
@[reducible] def ar(n:Int)(a:List UInt32)(tE:Nat)(gY:List UInt32)(sin:aN)(r:EV)(sout:aN):Prop:=LX a7 fn br (inv1 n a tE gY) sin r sout
theorem e0(a:Ws)(n:Int){r:EV}{sout:aN}(h1:(a.length+1)<9223372036854775808)(h2:4*(a.length+1)≤140737488355328)(hL:ar n a 0 (List.replicate (a.length+1) (0:UInt32)) [] r sout):aw a7 149 [(.pv (ae a)),eI n] [] r sout :=
 zK func149 87 [1,1,5,1] [.q,.aQ [.o,(iI (a.length:Int)),(iI (((a.length+1):Nat):Int)),(.app (a.length+1) ((List.replicate (a.length+1) (0:UInt32):Ws).map ai).flatten)],.h 1 (iI (a.length:Int)),.aH [1,5,13,14,15]] (y4 (av ai a) (aI h1) (pn ai 0 4 (a.length+1) (Eq.refl ((((a.length+1):Nat):Int):Int)) h2 rfl) (av ai a)) hL
theorem dC(n:Int)(a:Ws)(b:Nat)(c:Ws)(v:UInt32)(k z:Nat)(v1 w z1:UInt32)(z2:Nat)(w1:UInt32){r:EV}{sout:aN}{sin:aN}(hs:sin.all (fun p=>Nat.ble fn.ntmps p.1)=true)(h1:b<a.length)(h2:a[b]? = some v)(h3:n=(k:Int))(h4:(v.toNat*2^(min k 64))%18446744073709551616=z)(h5:b<(a.length+1))(h6:c[b]? = some v1)(h7:z%4294967296=w.toNat)(h8:(v1.toNat%4294967296) ||| (w.toNat%4294967296)=z1.toNat)(h9:b<c.length)(bQ:(b+1)<9223372036854775808)(cW:z/2^(min 32 64)=z2)(cP:z2%4294967296=w1.toNat)(cD:(b+1)<(a.length+1))(en:(b+1)<(c.set b z1).length)(hL:ar n a (b+1) ((c.set b z1).set (b+1) w1) sin r sout):ar n a b c sin r sout :=
 yq 138 [1,3,1,1,2,1,1,1,2,2,1,1,1,2,2,1] [.a,.q,.t,.h 1 (.row b (ai v)),.aQ [.o,iU v.toNat,.o,iU z],.aQ [.o,.o,(.nat b),(.ev (.pv (vW v1))),.o,iW w,iW z1,(.nat b),(.cells (.pure (((c.set b z1):Ws).map ai).flatten))],.aQ [.o,.o,(iI (((b+1):Nat):Int)),.o,iU z2,iW w1,(.nat (b+1)),(.cells (.pure ((((c.set b z1).set (b+1) w1):Ws).map ai).flatten))],.h 0 (iI (((b+1):Nat):Int)),.aH [1,5,13,14,15]] hs (Ka (ay h1) (aL ai (Eq.refl (((b:Nat):Int):Int)) h2) (my v) (J8 h3 (gW (k := .i64) h4)) (cj (Eq.refl (((b:Nat):Int):Int)) h5) (dz (enc:=ai) (f:=fun a=>(vW a)) (fun _=>rfl) h6) (cu h7) (se h8) (cj (Eq.refl (((b:Nat):Int):Int)) h5) (eN bc (c:Ws) z1 h9) (aI bQ) (cG (k := .u64) cW) (cu cP) (cj (Eq.refl ((((b+1):Nat):Int):Int)) cD) (eN bc ((c.set b z1):Ws) w1 en) (aI bQ)) hL
theorem dD(n:Int)(a:Ws)(b:Nat)(c:Ws){sin:aN}(hs:sin.all (fun p=>Nat.ble fn.ntmps p.1)=true)(hi:sin.all (fun p=>pB p.1||(aN.get [(0,(.pure (((c.take (a.length+1)):Ws).map ai).flatten))] p.1).isSome)=true)(h1:a.length≤b):ar n a b c sin (.row 0 0 (a.length+1) 1) [(0,(.pure (((c.take (a.length+1)):Ws).map ai).flatten))] :=
 uV 120 [1,1] [.a,.q,.f,.q,.Cw 12 0,.cut 0 ((a.length+1)*1) (((c.take (a.length+1)):Ws).map ai).flatten,.ord [0]] hs hi (y2 (az h1) (Al bc (c:Ws) (a.length+1)))
end mD
namespace iZ
@[reducible] def fn:Func:=Tryz.f150
def br:List dI:=focus [0,2,0,2,0,0,2,0,0] [.code (aA fn)]
def inv1(off len:Nat)(v:List UInt32)(n qC yw l9:Nat)(aG:List UInt32):St:=⟨[(0,(.row 100000 off len 1)),(1,(.pv (ae v))),(2,(eU n)),(7,(eU qC)),(8,(eU yw)),(12,(eI (len:Int))),(13,(eI (l9:Int)))],[(100000,(.pure ((aG:List UInt32).map ai).flatten))]⟩
@[reducible] def ar(off len:Nat)(v:List UInt32)(n qC yw l9:Nat)(aG:List UInt32)(sin:aN)(r:EV)(sout:aN):Prop:=LX a7 fn br (inv1 off len v n qC yw l9 aG) sin r sout
theorem e0 (u : Ws) (a b : Nat) (v : Ws) (n : Nat) {r : EV} {sout : aN}  (hL : ar a b v n 0 0 0 u [(100000, (.pure ((u : Ws).map ai).flatten))] r sout) : aw a7 150 [(.row 100000 a b 1), (.pv (ae v)), eU n] [(100000, (.pure ((u : Ws).map ai).flatten))] r sout :=
 zK func150 87 [] [.q,.q,.q,.aH [0,1,2,7,8,12,13]] True.intro hL
theorem dC(b c:Nat)(v:Ws)(n g i j:Nat)(l:Ws)(m p s:Nat)(v1 w:UInt32)(d d1:Nat)(w1:UInt32)(z z1:Nat){r:EV}{sout:aN}{sin:aN}(hs:sin.all (fun p=>Nat.ble fn.ntmps p.1)=true)(h1:j<c)(h2:Cp 153 [ae v,(vI (j:Int))] (vU m))(h3:(n*m)%18446744073709551616=p)(h4:(g+p)%18446744073709551616=s)(h5:l[b+j]? = some v1)(h6:s%4294967296=w.toNat)(h7:((v1.toNat:Nat)-(w.toNat:Nat):Int)%18446744073709551616=(d:Int))(h8:((d:Nat)-(i:Nat):Int)%18446744073709551616=(d1:Int))(h9:d1%4294967296=w1.toNat)(bQ:(b+j)<l.length)(cW:d1/2^(min 63 64)=z)(cP:s/2^(min 32 64)=z1)(cD:(j+1)<9223372036854775808)(hL:ar b c v n z1 z (j+1) (l.set (b+j) w1) sin r sout):ar b c v n g i j l sin r sout :=
 yq 150 [1,1,1,1,2,1,1,1,1,1,1,1,2,2,1,1,1] [.a,.q,.t,.q,.aQ [.o,.o,.o,.o,(.pv (vU m)),iU p,iU s],.aQ [.o,.o,(.nat j),(.ev (.pv (vW v1))),iU v1.toNat,.o,iW w,iU w.toNat,iU d,.o,iU d1],.aQ [.o,.o,.o,iW w1,(.nat j),(.cells (.pure (((l.set (b+j) w1):Ws).map ai).flatten))],.h 1 (iU z),.h 1 (iU z1),.h 0 (iI (((j+1):Nat):Int)),.aH [0,1,2,7,8,12,13]] hs (NA (ay h1) h2 (l5 h3) (dm h4) (cj (Eq.refl (((j:Nat):Int):Int)) h1) (l7 (enc:=ai) (f:=fun a=>(vW a)) (fun _=>rfl) h5) (my v1) (cu h6) (my w) (da h7) (da h8) (cu h9) (cj (Eq.refl (((j:Nat):Int):Int)) h1) (A6 bc (l:Ws) w1 b j bQ) (cG (k := .u64) cW) (cG (k := .u64) cP) (aI cD)) hL
theorem dD(b c:Nat)(v:Ws)(n d g i:Nat)(j:Ws){sin:aN}(hs:sin.all (fun p=>Nat.ble fn.ntmps p.1)=true)(hi:sin.all (fun p=>pB p.1||(aN.get [(100000,(.pure ((j:Ws).map ai).flatten))] p.1).isSome)=true)(h1:c≤i):ar b c v n d g i j sin (.pv (vB ((g:Int)==1))) [(100000,(.pure ((j:Ws).map ai).flatten))] :=
 uV 120 [1] [.a,.q,.f,.q,.ord [100000]] hs hi (y1 (az h1))
end iZ
namespace ln
@[reducible] def fn:Func:=Tryz.f151
def br:List dI:=focus [0,2,0,2,0,0] [.code (aA fn)]
def inv1(off len:Nat)(v:List UInt32)(Be Ml:Nat)(aG:List UInt32):St:=⟨[(0,(.row 100000 off len 1)),(1,(.pv (ae v))),(4,(eU Be)),(7,(eI (len:Int))),(8,(eI (Ml:Int)))],[(100000,(.pure ((aG:List UInt32).map ai).flatten))]⟩
@[reducible] def ar(off len:Nat)(v:List UInt32)(Be Ml:Nat)(aG:List UInt32)(sin:aN)(r:EV)(sout:aN):Prop:=LX a7 fn br (inv1 off len v Be Ml aG) sin r sout
theorem e0 (u : Ws) (a b : Nat) (v : Ws) {r : EV} {sout : aN}  (hL : ar a b v 0 0 u [(100000, (.pure ((u : Ws).map ai).flatten))] r sout) : aw a7 151 [(.row 100000 a b 1), (.pv (ae v))] [(100000, (.pure ((u : Ws).map ai).flatten))] r sout :=
 zK func151 78 [] [.q,.q,.aH [0,1,4,7,8]] True.intro hL
theorem dC(b c:Nat)(v:Ws)(d g:Nat)(i:Ws)(v1:UInt32)(j s s1:Nat)(w:UInt32)(z:Nat){r:EV}{sout:aN}{sin:aN}(hs:sin.all (fun p=>Nat.ble fn.ntmps p.1)=true)(h1:g<c)(h2:i[b+g]? = some v1)(h3:Cp 153 [ae v,(vI (g:Int))] (vU j))(h4:(v1.toNat+j)%18446744073709551616=s)(h5:(d+s)%18446744073709551616=s1)(h6:s1%4294967296=w.toNat)(h7:(b+g)<i.length)(h8:s1/2^(min 32 64)=z)(h9:(g+1)<9223372036854775808)(hL:ar b c v z (g+1) (i.set (b+g) w) sin r sout):ar b c v d g i sin r sout :=
 yq 129 [1,2,1,1,1,1,1,1,2,2,1,1] [.a,.q,.t,.q,dr 11 1 [.none,.none,.none,(.nat g),(.ev (.pv (vW v1))),iU v1.toNat,.none,.none,(.pv (vU j)),iU s,iU s1],.aQ [.o,.o,.o,iW w,(.nat g),(.cells (.pure (((i.set (b+g) w):Ws).map ai).flatten))],.h 1 (iU z),.h 0 (iI (((g+1):Nat):Int)),.aH [0,1,4,7,8]] hs (Jl (ay h1) (cj (Eq.refl (((g:Nat):Int):Int)) h1) (l7 (enc:=ai) (f:=fun a=>(vW a)) (fun _=>rfl) h2) (my v1) h3 (dm h4) (dm h5) (cu h6) (cj (Eq.refl (((g:Nat):Int):Int)) h1) (A6 bc (i:Ws) w b g h7) (cG (k := .u64) h8) (aI h9)) hL
theorem dD(b c:Nat)(v:Ws)(d g:Nat)(i:Ws){sin:aN}(hs:sin.all (fun p=>Nat.ble fn.ntmps p.1)=true)(hi:sin.all (fun p=>pB p.1||(aN.get [(100000,(.pure ((i:Ws).map ai).flatten))] p.1).isSome)=true)(h1:c≤g):ar b c v d g i sin (.pv (.bh [])) [(100000,(.pure ((i:Ws).map ai).flatten))] :=
 uV 105 [1] [.a,.q,.f,.ord [100000]] hs hi (y1 (az h1))
end ln
namespace lr
@[reducible] def fn:Func:=Tryz.f152
def br:List dI:=focus [0,2,0,2,0,0,2,0,0] [.code (aA fn)]
def inv1(a:List UInt32)(n:Int)(Mm:Nat)(gZ:List UInt32):St:=⟨[(0,(.pv (ae a))),(1,(eI n)),(5,(.row 9 0 a.length 1)),(11,(eI (a.length:Int))),(12,(eI (Mm:Int)))],[(9,(.pure ((gZ:List UInt32).map ai).flatten))]⟩
@[reducible] def ar(a:List UInt32)(n:Int)(Mm:Nat)(gZ:List UInt32)(r:PV):Prop:=L a7 fn br (inv1 a n Mm gZ) r
theorem e0(a:Ws)(n:Int){r:PV}(h1:4*a.length≤140737488355328)(hL:ar a n 0 (List.replicate a.length (0:UInt32)) r):Cp 152 [ae a,vI n] r :=
 eG func152 87 [1,5,1] [.q,.aQ [.o,(iI (a.length:Int)),(.app a.length ((List.replicate a.length (0:UInt32):Ws).map ai).flatten)],.h 1 (iI (a.length:Int)),.aH [0,1,5,11,12]] (y3 (av ai a) (pn ai 0 4 a.length (Eq.refl (((a.length:Nat):Int):Int)) h1 rfl) (av ai a)) hL
theorem dC(a:Ws)(n:Int)(b:Nat)(c:Ws)(v:UInt32)(d z z1 k z2:Nat)(w:UInt32){r:PV}(h1:b<a.length)(h2:a[b]? = some v)(h3:(b+1)<9223372036854775808)(h4:Cp 153 [ae a,(vI (((b+1):Nat):Int))] (vU d))(h5:(d*2^(min 32 64))%18446744073709551616=z)(h6:(v.toNat%18446744073709551616) ||| (z%18446744073709551616)=z1)(h7:n=(k:Int))(h8:z1/2^(min k 64)=z2)(h9:z2%4294967296=w.toNat)(bQ:b<c.length)(hL:ar a n (b+1) (c.set b w) r):ar a n b c r :=
 lG 126 [1,3,1,1,1,1,1,1,1,2,2,1] [.a,.q,.t,.q,dr 17 1 [.none,.none,.none,.none,(.row b (ai v)),.none,iU v.toNat,.none,.none,(iI (((b+1):Nat):Int)),(.pv (vU d)),iU z,iU z1,.none,iU z2,iW w,(.nat b),(.cells (.pure (((c.set b w):Ws).map ai).flatten))],.h 0 (iI (((b+1):Nat):Int)),.aH [0,1,5,11,12]] (Jl (ay h1) (aL ai (Eq.refl (((b:Nat):Int):Int)) h2) (my v) (aI h3) h4 (gW (k := .u64) h5) (l6 h6) (J8 h7 (cG (k := .i64) h8)) (cu h9) (cj (Eq.refl (((b:Nat):Int):Int)) h1) (eN bc (c:Ws) w bQ) (aI h3)) hL
theorem dD(a:Ws)(n:Int)(b:Nat)(c d:Ws)(h1:a.length≤b)(h2:a.length=c.length)(h3:Cp 138 [ae c] (ae d)):ar a n b c (ae d) :=
 lD 120 [1,3,1] [.a,.q,.f,.jM 5 ((c:Ws).map ai),.h 1 (.pv (ae d))] (y3 (az h1) (cq bc (c:Ws) h2) h3)
end lr
namespace qD
theorem e0(m:Ws)(i:Int)(k:Nat)(v:UInt32)(h1:i<(m.length:Int))(h2:i=(k:Int))(h3:m[k]? = some v):Cp 153 [ae m,vI i] (vU v.toNat) :=
 eD func153 84 [1,1,3,1] [.q,.h 2 (iI (m.length:Int)),.t,.aQ [.o,.o,(.row k (ai v)),.o,iU v.toNat]] (y4 (av ai m) (bf h1) (aL ai h2 h3) (my v))
theorem e1(m:Ws)(i:Int)(h1:(m.length:Int)≤i):Cp 153 [ae m,vI i] (vU 0) :=
 eD func153 87 [1,1] [.q,.h 2 (iI (m.length:Int)),.f,.q] (y2 (av ai m) (bp h1))
end qD
namespace iu
theorem e0(x z z1:UInt32)(m b:Nat)(h1:65536≤x.toNat)(h2:x.toNat/2^(min 16 32)=z.toNat)(h3:256≤z.toNat)(h4:z.toNat/2^(min 8 32)=z1.toNat)(h5:z1.toNat%256=m)(h6:((ByteArray.mk #[0,1,2,2,3,3,3,3,4,4,4,4,4,4,4,4,5,5,5,5,5,5,5,5,5,5,5,5,5,5,5,5,6,6,6,6,6,6,6,6,6,6,6,6,6,6,6,6,6,6,6,6,6,6,6,6,6,6,6,6,6,6,6,6,7,7,7,7,7,7,7,7,7,7,7,7,7,7,7,7,7,7,7,7,7,7,7,7,7,7,7,7,7,7,7,7,7,7,7,7,7,7,7,7,7,7,7,7,7,7,7,7,7,7,7,7,7,7,7,7,7,7,7,7,7,7,7,7,8,8,8,8,8,8,8,8,8,8,8,8,8,8,8,8,8,8,8,8,8,8,8,8,8,8,8,8,8,8,8,8,8,8,8,8,8,8,8,8,8,8,8,8,8,8,8,8,8,8,8,8,8,8,8,8,8,8,8,8,8,8,8,8,8,8,8,8,8,8,8,8,8,8,8,8,8,8,8,8,8,8,8,8,8,8,8,8,8,8,8,8,8,8,8,8,8,8,8,8,8,8,8,8,8,8,8,8,8,8,8,8,8,8,8,8,8,8,8,8,8,8,8,8,8,8,8,8]).data.toList[m]?).map (fun b=>(b.toNat:Int))=some (b:Int))(h7:b<9223372036854775808)(h8:(24+b)<9223372036854775808):Cp 165 [vW x] (vI (((24+b):Nat):Int)) :=
 eD func165 114 [1,1,1,1,1,2,1,1] [.q,.q,.t,.h 1 (iW z),.q,.q,.t,.h 1 (iW z1),.q,.aQ [.o,.o,(.pv (.int .u8 (m:Int))),(.row m [.int .u8 (b:Int)]),(iI (b:Int)),(iI (((24+b):Nat):Int))]] (y8 (bw h1) (kg (k := .u64) h2) (bw h3) (kg (k := .u64) h4) (yl h5) (cj (Eq.refl (((m:Nat):Int):Int)) h6) (oK h7) (aI h8))
theorem e1(x z:UInt32)(m b:Nat)(h1:65536≤x.toNat)(h2:x.toNat/2^(min 16 32)=z.toNat)(h3:z.toNat<256)(h4:z.toNat%256=m)(h5:((ByteArray.mk #[0,1,2,2,3,3,3,3,4,4,4,4,4,4,4,4,5,5,5,5,5,5,5,5,5,5,5,5,5,5,5,5,6,6,6,6,6,6,6,6,6,6,6,6,6,6,6,6,6,6,6,6,6,6,6,6,6,6,6,6,6,6,6,6,7,7,7,7,7,7,7,7,7,7,7,7,7,7,7,7,7,7,7,7,7,7,7,7,7,7,7,7,7,7,7,7,7,7,7,7,7,7,7,7,7,7,7,7,7,7,7,7,7,7,7,7,7,7,7,7,7,7,7,7,7,7,7,7,8,8,8,8,8,8,8,8,8,8,8,8,8,8,8,8,8,8,8,8,8,8,8,8,8,8,8,8,8,8,8,8,8,8,8,8,8,8,8,8,8,8,8,8,8,8,8,8,8,8,8,8,8,8,8,8,8,8,8,8,8,8,8,8,8,8,8,8,8,8,8,8,8,8,8,8,8,8,8,8,8,8,8,8,8,8,8,8,8,8,8,8,8,8,8,8,8,8,8,8,8,8,8,8,8,8,8,8,8,8,8,8,8,8,8,8,8,8,8,8,8,8,8,8,8,8,8,8]).data.toList[m]?).map (fun b=>(b.toNat:Int))=some (b:Int))(h6:b<9223372036854775808)(h7:(16+b)<9223372036854775808):Cp 165 [vW x] (vI (((16+b):Nat):Int)) :=
 eD func165 108 [1,1,1,1,2,1,1] [.q,.q,.t,.h 1 (iW z),.q,.q,.f,.aQ [.o,.o,(.pv (.int .u8 (m:Int))),(.row m [.int .u8 (b:Int)]),(iI (b:Int)),(iI (((16+b):Nat):Int))]] (y7 (bw h1) (kg (k := .u64) h2) (aX h3) (yl h4) (cj (Eq.refl (((m:Nat):Int):Int)) h5) (oK h6) (aI h7))
theorem e2(x z:UInt32)(m b:Nat)(h1:x.toNat<65536)(h2:256≤x.toNat)(h3:x.toNat/2^(min 8 32)=z.toNat)(h4:z.toNat%256=m)(h5:((ByteArray.mk #[0,1,2,2,3,3,3,3,4,4,4,4,4,4,4,4,5,5,5,5,5,5,5,5,5,5,5,5,5,5,5,5,6,6,6,6,6,6,6,6,6,6,6,6,6,6,6,6,6,6,6,6,6,6,6,6,6,6,6,6,6,6,6,6,7,7,7,7,7,7,7,7,7,7,7,7,7,7,7,7,7,7,7,7,7,7,7,7,7,7,7,7,7,7,7,7,7,7,7,7,7,7,7,7,7,7,7,7,7,7,7,7,7,7,7,7,7,7,7,7,7,7,7,7,7,7,7,7,8,8,8,8,8,8,8,8,8,8,8,8,8,8,8,8,8,8,8,8,8,8,8,8,8,8,8,8,8,8,8,8,8,8,8,8,8,8,8,8,8,8,8,8,8,8,8,8,8,8,8,8,8,8,8,8,8,8,8,8,8,8,8,8,8,8,8,8,8,8,8,8,8,8,8,8,8,8,8,8,8,8,8,8,8,8,8,8,8,8,8,8,8,8,8,8,8,8,8,8,8,8,8,8,8,8,8,8,8,8,8,8,8,8,8,8,8,8,8,8,8,8,8,8,8,8,8,8]).data.toList[m]?).map (fun b=>(b.toNat:Int))=some (b:Int))(h6:b<9223372036854775808)(h7:(8+b)<9223372036854775808):Cp 165 [vW x] (vI (((8+b):Nat):Int)) :=
 eD func165 108 [1,1,1,1,2,1,1] [.q,.q,.f,.q,.t,.h 1 (iW z),.q,.aQ [.o,.o,(.pv (.int .u8 (m:Int))),(.row m [.int .u8 (b:Int)]),(iI (b:Int)),(iI (((8+b):Nat):Int))]] (y7 (aX h1) (bw h2) (kg (k := .u64) h3) (yl h4) (cj (Eq.refl (((m:Nat):Int):Int)) h5) (oK h6) (aI h7))
theorem e3(x:UInt32)(m b:Nat)(h1:x.toNat<65536)(h2:x.toNat<256)(h3:x.toNat%256=m)(h4:((ByteArray.mk #[0,1,2,2,3,3,3,3,4,4,4,4,4,4,4,4,5,5,5,5,5,5,5,5,5,5,5,5,5,5,5,5,6,6,6,6,6,6,6,6,6,6,6,6,6,6,6,6,6,6,6,6,6,6,6,6,6,6,6,6,6,6,6,6,7,7,7,7,7,7,7,7,7,7,7,7,7,7,7,7,7,7,7,7,7,7,7,7,7,7,7,7,7,7,7,7,7,7,7,7,7,7,7,7,7,7,7,7,7,7,7,7,7,7,7,7,7,7,7,7,7,7,7,7,7,7,7,7,8,8,8,8,8,8,8,8,8,8,8,8,8,8,8,8,8,8,8,8,8,8,8,8,8,8,8,8,8,8,8,8,8,8,8,8,8,8,8,8,8,8,8,8,8,8,8,8,8,8,8,8,8,8,8,8,8,8,8,8,8,8,8,8,8,8,8,8,8,8,8,8,8,8,8,8,8,8,8,8,8,8,8,8,8,8,8,8,8,8,8,8,8,8,8,8,8,8,8,8,8,8,8,8,8,8,8,8,8,8,8,8,8,8,8,8,8,8,8,8,8,8,8,8,8,8,8,8]).data.toList[m]?).map (fun b=>(b.toNat:Int))=some (b:Int))(h5:b<9223372036854775808)(h6:(0+b)<9223372036854775808):Cp 165 [vW x] (vI (((0+b):Nat):Int)) :=
 eD func165 102 [1,1,1,2,1,1] [.q,.q,.f,.q,.f,.aQ [.o,.o,(.pv (.int .u8 (m:Int))),(.row m [.int .u8 (b:Int)]),(iI (b:Int)),(iI (((0+b):Nat):Int))]] (y6 (aX h1) (aX h2) (yl h3) (cj (Eq.refl (((m:Nat):Int):Int)) h4) (oK h5) (aI h6))
end iu
namespace qX
theorem e7(x m b:Nat)(h1:x<4294967296)(h2:x<65536)(h3:x<256)(h4:x%256=m)(h5:((ByteArray.mk #[0,1,2,2,3,3,3,3,4,4,4,4,4,4,4,4,5,5,5,5,5,5,5,5,5,5,5,5,5,5,5,5,6,6,6,6,6,6,6,6,6,6,6,6,6,6,6,6,6,6,6,6,6,6,6,6,6,6,6,6,6,6,6,6,7,7,7,7,7,7,7,7,7,7,7,7,7,7,7,7,7,7,7,7,7,7,7,7,7,7,7,7,7,7,7,7,7,7,7,7,7,7,7,7,7,7,7,7,7,7,7,7,7,7,7,7,7,7,7,7,7,7,7,7,7,7,7,7,8,8,8,8,8,8,8,8,8,8,8,8,8,8,8,8,8,8,8,8,8,8,8,8,8,8,8,8,8,8,8,8,8,8,8,8,8,8,8,8,8,8,8,8,8,8,8,8,8,8,8,8,8,8,8,8,8,8,8,8,8,8,8,8,8,8,8,8,8,8,8,8,8,8,8,8,8,8,8,8,8,8,8,8,8,8,8,8,8,8,8,8,8,8,8,8,8,8,8,8,8,8,8,8,8,8,8,8,8,8,8,8,8,8,8,8,8,8,8,8,8,8,8,8,8,8,8,8]).data.toList[m]?).map (fun b=>(b.toNat:Int))=some (b:Int))(h6:b<9223372036854775808)(h7:(0+b)<9223372036854775808):Cp 166 [vU x] (vI (((0+b):Nat):Int)) :=
 eD func166 117 [1,1,1,1,2,1,1] [.q,.q,.f,.q,.f,.q,.f,.aQ [.o,.o,(.pv (.int .u8 (m:Int))),(.row m [.int .u8 (b:Int)]),(iI (b:Int)),(iI (((0+b):Nat):Int))]] (y7 (aX h1) (aX h2) (aX h3) (yl h4) (cj (Eq.refl (((m:Nat):Int):Int)) h5) (oK h6) (aI h7))
end qX
end Go.Proofs.YtfjfekodeplcoaaGreat.Sym.Path
end
