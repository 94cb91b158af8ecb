/- Lemmas for the statements of this seat. -/
import Derived.Test.YtfjfekodeplcoaaGreatT0
noncomputable section
namespace Go.Proofs.YtfjfekodeplcoaaGreat.Sym.Path
open Go Tryz
set_option maxRecDepth 20000
set_option linter.unusedVariables false
namespace xb
theorem e0(a b:aC)(c d:Bool)(g i j:Ws)(k:aC)(h1:Cp 102 [a.pv] (vB c))(h2:Cp 102 [b.pv] (vB d))(h3:Cp 104 [a.pv] (aa g))(h4:Cp 104 [b.pv] (aa i))(h5:Cp 103 [aa g,aa i] (aa j))(h6:Cp 101 [(vB (!(c==d))),aa j] k.pv):Cp 59 [a.pv,b.pv] k.pv :=
 eD func59 72 [1,1,1,1,1,1] [.q,dr 11 1 [.none,(.pv (vB c)),.none,(.pv (vB d)),.none,.none,(.pv (aa g)),.none,(.pv (aa i)),(.pv (aa j)),(.pv k.pv)]] (y6 h1 h2 h3 h4 h5 h6)
end xb
namespace px
theorem e0(a:aC)(h1:a.cP.length=0):Cp 75 [a.pv] (vB (!a.neg)) :=
 eD func75 84 [1,1] [.q,.h 2 (iI (a.cP.length:Int)),.t,.q] (y2 (ar af a.cP) (br h1))
theorem e1(a:aC)(k:Nat)(v:UInt32)(h1:a.cP.length≠0)(h2:aO ((a.cP.length:Int)-1))(h3:((a.cP.length:Int)-1)=(k:Int))(h4:a.cP[k]? = some v):Cp 75 [a.pv] (vB ((v.toNat:Int) != 0)) :=
 eD func75 87 [1,1,1,1,3] [.q,.h 2 (iI (a.cP.length:Int)),.f,.aR [.o,.o,.o,.o,(iI (a.cP.length:Int)),(iI ((a.cP.length:Int)-1)),(.row k (af v))]] (y5 (ar af a.cP) (aT h1) (ar af a.cP) (bS h2) (aY af h3 h4))
end px
namespace mv
theorem e0(a b:aC)(c d:Int)(h1:Cp 79 [a.pv] (vI c))(h2:Cp 79 [b.pv] (vI d))(h3:c≠d)(h4:c<d):Cp 76 [a.pv,b.pv] (vI (-1)) :=
 eD func76 102 [1,1,1,1] [.q,dr 4 2 [.none,(.pv (vI c)),.none,(.pv (vI d))],.q,.t,.q,.t,.q] (y4 h1 h2 (bq h3) (bd h4))
theorem e1(a b:aC)(c d:Int)(h1:Cp 79 [a.pv] (vI c))(h2:Cp 79 [b.pv] (vI d))(h3:c≠d)(h4:d≤c):Cp 76 [a.pv,b.pv] (vI 1) :=
 eD func76 105 [1,1,1,1] [.q,dr 4 2 [.none,(.pv (vI c)),.none,(.pv (vI d))],.q,.t,.q,.f,.q] (y4 h1 h2 (bq h3) (ba h4))
theorem e2(a b:aC)(c d:Int)(g i:Ws)(j:Int)(k:Bool)(h1:Cp 79 [a.pv] (vI c))(h2:Cp 79 [b.pv] (vI d))(h3:c=d)(h4:Cp 104 [a.pv] (aa g))(h5:Cp 104 [b.pv] (aa i))(h6:Cp 117 [aa g,aa i] (vI j))(h7:Cp 102 [a.pv] (vB k))(h8:k=true)(h9:aO (-j)):Cp 76 [a.pv,b.pv] (vI (-j)) :=
 eD func76 111 [1,1,1,1,1,1,1,1,1] [.q,dr 4 2 [.none,(.pv (vI c)),.none,(.pv (vI d))],.q,.f,dr 5 1 [.none,(.pv (aa g)),.none,(.pv (aa i)),(.pv (vI j))],.h 1 (.pv (vB k)),.t,.h 1 (iI (-j))] (y9 h1 h2 (aA h3) h4 h5 h6 h7 h8 (Na h9))
theorem e3(a b:aC)(c d:Int)(g i:Ws)(j:Int)(k:Bool)(h1:Cp 79 [a.pv] (vI c))(h2:Cp 79 [b.pv] (vI d))(h3:c=d)(h4:Cp 104 [a.pv] (aa g))(h5:Cp 104 [b.pv] (aa i))(h6:Cp 117 [aa g,aa i] (vI j))(h7:Cp 102 [a.pv] (vB k))(h8:k=false):Cp 76 [a.pv,b.pv] (vI j) :=
 eD func76 114 [1,1,1,1,1,1,1,1] [.q,dr 4 2 [.none,(.pv (vI c)),.none,(.pv (vI d))],.q,.f,dr 5 1 [.none,(.pv (aa g)),.none,(.pv (aa i)),(.pv (vI j))],.h 1 (.pv (vB k)),.f,.q] (y8 h1 h2 (aA h3) h4 h5 h6 h7 h8)
end mv
namespace kE
@[reducible] def fn:Func:=Tryz.f77
def bM:List eh:=focus [0,2,0,2,0,0,0] [.code (az fn)]
def inv1(Sj Sk:List UInt32):St:=⟨[(4,(.ptr 4 0)),(5,(.pv (aa Sj))),(6,(.pv (aa Sk)))],[(4,(.lit [(eB false),(.pv (.list []))]))]⟩
@[reducible] def au(Sj Sk:List UInt32)(r:PV):Prop:=L bp fn bM (inv1 Sj Sk) r
theorem e0(a b:aC)(c d:Ws){r:PV}(h1:Cp 104 [a.pv] (aa c))(h2:Cp 104 [b.pv] (aa d))(hL:au c d r):Cp 77 [a.pv,b.pv] r :=
 eG func77 81 [1,1] [.q,dr 4 2 [.none,(.pv (aa c)),.none,(.pv (aa d))],.aN [4,5,6],.drop [3,2]] (y2 h1 h2) hL
theorem eo(b c d g:Ws){r:PV}(h1:0<c.length)(h2:Cp 118 [aa b,aa c] (.bx [aa d,aa g]))(hL:au c g r):au b c r :=
 lG 114 [1,1,1] [.a,.h 1 (iI (c.length:Int)),.t,.h 2 (.pv (.bx [aa d,aa g])),.q,.aN [4,5,6]] (y3 (ar af c) (ax h1) h2) hL
theorem ew(b c:Ws)(d:aC)(h1:c.length≤0)(h2:Cp 101 [vB false,aa b] d.pv):au b c d.pv :=
 lD 114 [1,1,1] [.a,.h 1 (iI (c.length:Int)),.f,.h 1 (.pv d.pv)] (y3 (ar af c) (ay h1) h2)
end kE
namespace nq
theorem e0(a:aC)(b:Ws)(h1:Cp 104 [a.pv] (aa b))(h2:b.length=0):Cp 79 [a.pv] (vI 0) :=
 eD func79 87 [1,1,1] [.q,.aR [.o,(.pv (aa b)),(iI (b.length:Int))],.t,.q] (y3 h1 (ar af b) (br h2))
theorem e1(a:aC)(b:Ws)(h1:Cp 104 [a.pv] (aa b))(h2:b.length≠0)(h3:a.neg=true):Cp 79 [a.pv] (vI (-1)) :=
 eD func79 96 [1,1,1,1] [.q,.aR [.o,(.pv (aa b)),(iI (b.length:Int))],.f,.q,.t,.q] (y4 h1 (ar af b) (aT h2) h3)
theorem e2(a:aC)(b:Ws)(h1:Cp 104 [a.pv] (aa b))(h2:b.length≠0)(h3:a.neg=false):Cp 79 [a.pv] (vI 1) :=
 eD func79 102 [1,1,1,1] [.q,.aR [.o,(.pv (aa b)),(iI (b.length:Int))],.f,.q,.f,.q] (y4 h1 (ar af b) (aT h2) h3)
end nq
namespace oO
theorem e0(a b:aC)(c d:Ws)(g i j:Bool)(k:Ws)(l:aC)(h1:Cp 104 [a.pv] (aa c))(h2:Cp 104 [b.pv] (aa d))(h3:Cp 102 [a.pv] (vB g))(h4:Cp 102 [b.pv] (vB i))(h5:g=i)(h6:Cp 102 [a.pv] (vB j))(h7:Cp 120 [aa c,aa d] (aa k))(h8:Cp 101 [vB j,aa k] l.pv):Cp 83 [a.pv,b.pv] l.pv :=
 eD func83 93 [1,1,1,1,1,1,1,1] [.q,dr 4 2 [.none,(.pv (aa c)),.none,(.pv (aa d))],dr 5 1 [.none,(.pv (vB g)),.none,(.pv (vB i))],.t,.aR [.o,(.pv (vB j)),.o,.o,(.pv (aa k)),(.pv l.pv)]] (y8 h1 h2 h3 h4 (oL h5) h6 h7 h8)
theorem e1(a b:aC)(c d:Ws)(g i:Bool)(j:Int)(k:Bool)(l:Ws)(m:aC)(h1:Cp 104 [a.pv] (aa c))(h2:Cp 104 [b.pv] (aa d))(h3:Cp 102 [a.pv] (vB g))(h4:Cp 102 [b.pv] (vB i))(h5:g≠i)(h6:Cp 117 [aa c,aa d] (vI j))(h7:0≤j)(h8:Cp 102 [a.pv] (vB k))(h9:Cp 121 [aa c,aa d] (aa l))(bg:Cp 101 [vB k,aa l] m.pv):Cp 83 [a.pv,b.pv] m.pv :=
 eD func83 102 [1,1,1,1,1,1,1,1,1,1] [.q,dr 4 2 [.none,(.pv (aa c)),.none,(.pv (aa d))],dr 5 1 [.none,(.pv (vB g)),.none,(.pv (vB i))],.f,.h 2 (.pv (vI j)),.t,.aR [.o,(.pv (vB k)),.o,.o,(.pv (aa l)),(.pv m.pv)]] (CM h1 h2 h3 h4 (tn h5) h6 (dz h7) h8 h9 bg)
theorem e2(a b:aC)(c d:Ws)(g i:Bool)(j:Int)(k:Bool)(l:Ws)(m:aC)(h1:Cp 104 [a.pv] (aa c))(h2:Cp 104 [b.pv] (aa d))(h3:Cp 102 [a.pv] (vB g))(h4:Cp 102 [b.pv] (vB i))(h5:g≠i)(h6:Cp 117 [aa c,aa d] (vI j))(h7:j<0)(h8:Cp 102 [b.pv] (vB k))(h9:Cp 121 [aa d,aa c] (aa l))(bg:Cp 101 [vB k,aa l] m.pv):Cp 83 [a.pv,b.pv] m.pv :=
 eD func83 108 [1,1,1,1,1,1,1,1,1,1] [.q,dr 4 2 [.none,(.pv (aa c)),.none,(.pv (aa d))],dr 5 1 [.none,(.pv (vB g)),.none,(.pv (vB i))],.f,.h 2 (.pv (vI j)),.f,.aR [.o,(.pv (vB k)),.o,.o,(.pv (aa l)),(.pv m.pv)]] (CM h1 h2 h3 h4 (tn h5) h6 (eL h7) h8 h9 bg)
end oO
namespace xc
theorem e0(a:aC)(b:Bool)(c:Ws)(d:aC)(h1:Cp 102 [a.pv] (vB b))(h2:Cp 104 [a.pv] (aa c))(h3:Cp 101 [(vB (!b)),aa c] d.pv):Cp 99 [a.pv] d.pv :=
 eD func99 72 [1,1,1] [.q,dr 6 1 [.none,(.pv (vB b)),.none,.none,(.pv (aa c)),(.pv d.pv)]] (y3 h1 h2 h3)
end xc
namespace oP
theorem e1(a b:aC)(c d g i:Ws)(j:Bool)(k l:Ws)(m n:Bool)(p s:aC)(h1:Cp 104 [b.pv] (aa c))(h2:c.length≠0)(h3:Cp 104 [a.pv] (aa d))(h4:Cp 118 [aa d,aa c] (.bx [aa g,aa i]))(h5:Cp 102 [a.pv] (vB j))(h6:j=true)(h7:0<i.length)(h8:Cp 120 [aa g,(aa [(1:UInt32)])] (aa k))(h9:Cp 121 [aa c,aa i] (aa l))(bg:Cp 102 [a.pv] (vB m))(cR:Cp 102 [b.pv] (vB n))(cw:Cp 101 [(vB (!(m==n))),aa k] p.pv)(cu:Cp 101 [vB false,aa l] s.pv):Cp 100 [a.pv,b.pv] (.bx [p.pv,s.pv,.cd]) :=
 eD func100 114 [1,1,1,1,1,1,1,1,1,1,1,1,3,1,1,1,1,1,1] [.q,.h 1 (.pv (aa c)),.h 1 (iI (c.length:Int)),.f,.aR [.o,(.pv (aa d)),.o,(.pv (.bx [aa g,aa i]))],.aR [.o,(.pv (vB j)),.o,.o,(iI (i.length:Int)),.o,(.dec true)],.t,.aR [.o,(.rq 0 0 (([(1:UInt32)]:Ws).map af)),(.pv (aa k)),.o,.o,(.pv (aa l))],dr 9 3 [.none,(.pv (vB m)),.none,(.pv (vB n)),.none,.none,(.pv p.pv),.none,(.pv s.pv)]] (OK h1 (ar af c) (aT h2) h3 h4 h5 h6 h6 (ar af i) h6 h6 (ax h7) (AL bm ([(1:UInt32)]:Ws)) h8 h9 bg cR cw cu)
theorem e2(a b:aC)(c d g i:Ws)(j k l:Bool)(m n:aC)(h1:Cp 104 [b.pv] (aa c))(h2:c.length≠0)(h3:Cp 104 [a.pv] (aa d))(h4:Cp 118 [aa d,aa c] (.bx [aa g,aa i]))(h5:Cp 102 [a.pv] (vB j))(h6:j=true)(h7:i.length≤0)(h8:Cp 102 [a.pv] (vB k))(h9:Cp 102 [b.pv] (vB l))(bg:Cp 101 [(vB (!(k==l))),aa g] m.pv)(cR:Cp 101 [vB false,aa i] n.pv):Cp 100 [a.pv,b.pv] (.bx [m.pv,n.pv,.cd]) :=
 eD func100 114 [1,1,1,1,1,1,1,1,1,1,1,1,1,1,1,1] [.q,.h 1 (.pv (aa c)),.h 1 (iI (c.length:Int)),.f,.aR [.o,(.pv (aa d)),.o,(.pv (.bx [aa g,aa i]))],.aR [.o,(.pv (vB j)),.o,.o,(iI (i.length:Int)),.o,(.dec true)],.f,dr 9 3 [.none,(.pv (vB k)),.none,(.pv (vB l)),.none,.none,(.pv m.pv),.none,(.pv n.pv)]] (Nl h1 (ar af c) (aT h2) h3 h4 h5 h6 h6 (ar af i) h6 h6 (ay h7) h8 h9 bg cR)
theorem e3(a b:aC)(c d g i:Ws)(j k l:Bool)(m n:aC)(h1:Cp 104 [b.pv] (aa c))(h2:c.length≠0)(h3:Cp 104 [a.pv] (aa d))(h4:Cp 118 [aa d,aa c] (.bx [aa g,aa i]))(h5:Cp 102 [a.pv] (vB j))(h6:j=false)(h7:Cp 102 [a.pv] (vB k))(h8:Cp 102 [b.pv] (vB l))(h9:Cp 101 [(vB (!(k==l))),aa g] m.pv)(bg:Cp 101 [vB false,aa i] n.pv):Cp 100 [a.pv,b.pv] (.bx [m.pv,n.pv,.cd]) :=
 eD func100 114 [1,1,1,1,1,1,1,1,1,1,1,1,1,1] [.q,.h 1 (.pv (aa c)),.h 1 (iI (c.length:Int)),.f,.aR [.o,(.pv (aa d)),.o,(.pv (.bx [aa g,aa i]))],.aR [.o,(.pv (vB j)),.o,.skip,.skip,.skip,(.dec false)],.a,dr 9 3 [.none,(.pv (vB k)),.none,(.pv (vB l)),.none,.none,(.pv m.pv),.none,(.pv n.pv)]] (G9 h1 (ar af c) (aT h2) h3 h4 h5 h6 h6 h6 h6 h7 h8 h9 bg)
end oP
namespace py
theorem e0(a:Bool)(m b:Ws)(h1:Cp 138 [aa m] (aa b))(h2:a=true):Cp 101 [vB a,aa m] ((⟨(decide ((b.length:Int)>0)),b⟩:aC).pv) :=
 eD func101 78 [1,1,1,1,1,1] [.q,.h 1 (.pv (aa b)),.aR [.o,.o,.o,(iI (b.length:Int)),.o,(.dec true)]] (y6 h1 h2 h2 (ar af b) h2 h2)
theorem e1(a:Bool)(m b:Ws)(h1:Cp 138 [aa m] (aa b))(h2:a=false):Cp 101 [vB a,aa m] ((⟨false,b⟩:aC).pv) :=
 eD func101 78 [1,1,1,1,1] [.q,.h 1 (.pv (aa b)),.aR [.o,.o,.skip,.skip,.skip,(.dec false)]] (y5 h1 h2 h2 h2 h2)
end py
namespace r7
theorem e0(a:aC)(b:Bool)(h1:Cp 75 [a.pv] (vB b))(h2:b=true):Cp 102 [a.pv] (vB a.neg) :=
 eD func102 72 [1,1,1,1] [.q,.aR [.o,(.pv (vB b)),.o,.o,.o,(.dec true)]] (y4 h1 h2 h2 h2)
theorem e1(a:aC)(b:Bool)(h1:Cp 75 [a.pv] (vB b))(h2:b=false):Cp 102 [a.pv] (vB false) :=
 eD func102 72 [1,1,1,1] [.q,.aR [.o,(.pv (vB b)),.o,.skip,.skip,(.dec false)]] (y4 h1 h2 h2 h2)
end r7
namespace eO
@[reducible] def fn:Func:=Tryz.f103
def bM:List eh:=focus [0,2,0,2,0,0,2,0,0] [.code (az fn)]
def inv1(b a:List UInt32)(Ff:Nat)(qz:List UInt32):St:=⟨[(1,(.pv (aa b))),(5,(.row 16 0 (a.length+b.length) 1)),(17,(.pv (aa a))),(18,(eI (a.length:Int))),(19,(eI (Ff:Int)))],[(16,(.pure ((qz:List UInt32).map af).flatten))]⟩
@[reducible] def au(b a:List UInt32)(Ff:Nat)(qz:List UInt32)(r:PV):Prop:=L bp fn bM (inv1 b a Ff qz) r
def fw:List eh:=focus [0,2,0,2,0,0,2,0,0,0,0,2,0,0,2,0,0,0,2,0,2,0,0,2,0,0] [.code (az fn)]
def inv2(b a:List UInt32)(xd:Nat)(v:UInt32)(B5 Ff Fg:Nat)(qz:List UInt32):St:=⟨[(1,(.pv (aa b))),(5,(.row 16 0 (a.length+b.length) 1)),(6,(eI (xd:Int))),(7,(eW v)),(8,(eU B5)),(17,(.pv (aa a))),(18,(eI (a.length:Int))),(19,(eI (Ff:Int))),(24,(.pv (aa b))),(25,(eI (b.length:Int))),(26,(eI (Fg:Int)))],[(16,(.pure ((qz:List UInt32).map af).flatten))]⟩
@[reducible] def aM(b a:List UInt32)(xd:Nat)(v:UInt32)(B5 Ff Fg:Nat)(qz:List UInt32)(r:PV):Prop:=L bp fn fw (inv2 b a xd v B5 Ff Fg qz) r
theorem e0(a b:Ws){r:PV}(h1:(a.length+b.length)<9223372036854775808)(h2:4*(a.length+b.length)≤140737488355328)(hL:au b a 0 (List.replicate (a.length+b.length) (0:UInt32)) r):Cp 103 [aa a,aa b] r :=
 eG func103 87 [1,1,1,5,1] [.q,.aR [.o,(iI (a.length:Int)),.o,(iI (b.length:Int)),(iI (((a.length+b.length):Nat):Int)),(.app (a.length+b.length) ((List.replicate (a.length+b.length) (0:UInt32):Ws).map af).flatten)],.h 1 (iI (a.length:Int)),.aN [1,5,17,18,19]] (y5 (ar af a) (ar af b) (aH h1) (sX af 0 4 (a.length+b.length) (Eq.refl ((((a.length+b.length):Nat):Int):Int)) h2 rfl) (ar af a)) hL
theorem eo(b a:Ws)(c:Nat)(d:Ws)(v:UInt32){r:PV}(h1:c<a.length)(h2:a[c]? = some v)(hL:aM b a c v 0 c 0 d r):au b a c d r :=
 lG 138 [1,3,1] [.a,.q,.t,.h 1 (.row c (af v)),.q,.h 1 (iI (b.length:Int)),.aN [1,5,6,7,8,17,18,19,24,25,26]] (y3 (ax h1) (aY af (Eq.refl (((c:Nat):Int):Int)) h2) (ar af b)) hL
theorem ew(b a:Ws)(c:Nat)(d g:Ws)(h1:a.length≤c)(h2:(a.length+b.length)=d.length)(h3:Cp 138 [aa d] (aa g)):au b a c d (aa g) :=
 lD 120 [1,3,1] [.a,.q,.f,.lK 5 ((d:Ws).map af),.h 1 (.pv (aa g))] (y3 (ay h1) (eM bm (d:Ws) h2) h3)
theorem mX(b a:Ws)(c:Nat)(v:UInt32)(d g i:Nat)(j:Ws)(v1:UInt32)(p:Nat)(v2:UInt32)(s s1:Nat)(w:UInt32)(z:Nat){r:PV}(h1:i<b.length)(h2:b[i]? = some v1)(h3:(v.toNat*v1.toNat)%18446744073709551616=p)(h4:(c+i)<9223372036854775808)(h5:(c+i)<(a.length+b.length))(h6:j[(c+i)]? = some v2)(h7:(p+v2.toNat)%18446744073709551616=s)(h8:(d+s)%18446744073709551616=s1)(h9:s1%4294967296=w.toNat)(bg:(c+i)<j.length)(cR:s1/2^(min 32 64)=z)(cw:(i+1)<9223372036854775808)(hL:aM b a c v z g (i+1) (j.set (c+i) w) r):aM b a c v d g i j r :=
 lG 189 [1,3,1,1,1,1,2,1,1,1,1,1,1,2,2,1,1] [.a,.q,.t,.h 1 (.row i (af v1)),.aR [.o,.o,iU v.toNat,.o,iU v1.toNat,iU p,.o,.o,.o,(iI (((c+i):Nat):Int)),(.nat (c+i)),(.ev (.pv (vW v2))),iU v2.toNat,iU s,iU s1],.aR [.o,.o,.o,(iI (((c+i):Nat):Int)),.o,iW w,(.nat (c+i)),(.cells (.pure (((j.set (c+i) w):Ws).map af).flatten))],.h 1 (iU z),.h 0 (iI (((i+1):Nat):Int)),.aN [1,5,6,7,8,17,18,19,24,25,26]] (PI (ax h1) (aY af (Eq.refl (((i:Nat):Int):Int)) h2) (mq v) (mq v1) (lW h3) (aH h4) (cj (Eq.refl ((((c+i):Nat):Int):Int)) h5) (fk (enc:=af) (f:=fun a=>(vW a)) (fun _=>rfl) h6) (mq v2) (dp h7) (dp h8) (aH h4) (cD h9) (cj (Eq.refl ((((c+i):Nat):Int):Int)) h5) (fO bm (j:Ws) w bg) (cN (k := .u64) cR) (aH cw)) hL
theorem mY(b a:Ws)(c:Nat)(v:UInt32)(d g i:Nat)(j:Ws)(w:UInt32){r:PV}(h1:b.length≤i)(h2:(c+b.length)<9223372036854775808)(h3:d%4294967296=w.toNat)(h4:(c+b.length)<(a.length+b.length))(h5:(c+b.length)<j.length)(h6:(g+1)<9223372036854775808)(hL:au b a (g+1) (j.set (c+b.length) w) r):aM b a c v d g i j r :=
 lG 174 [1,1,1,1,2,2,1] [.a,.q,.f,.aR [.o,.o,.o,(iI (b.length:Int)),(iI (((c+b.length):Nat):Int)),.o,iW w,(.nat (c+b.length)),(.cells (.pure (((j.set (c+b.length) w):Ws).map af).flatten))],.h 0 (iI (((g+1):Nat):Int)),.aN [1,5,17,18,19]] (y7 (ay h1) (ar af b) (aH h2) (cD h3) (cj (Eq.refl ((((c+b.length):Nat):Int):Int)) h4) (fO bm (j:Ws) w h5) (aH h6)) hL
end eO
namespace r8
theorem e0(a:aC)(b:Bool)(h1:Cp 75 [a.pv] (vB b))(h2:b=false):Cp 104 [a.pv] (aa []) :=
 eD func104 84 [1,1] [.q,.h 1 (.pv (vB b)),.t,.q] (y2 h1 (aF h2))
theorem e1(a:aC)(b:Bool)(h1:Cp 75 [a.pv] (vB b))(h2:b=true):Cp 104 [a.pv] (aa a.cP) :=
 eD func104 87 [1,1] [.q,.h 1 (.pv (vB b)),.f,.q] (y2 h1 (ae h2))
end r8
namespace dG
@[reducible] def fn:Func:=Tryz.f117
def bM:List eh:=focus [0,2,0,0,2,1,2,0,0,2,0,0] [.code (az fn)]
def inv1(a b:List UInt32)(tV:Int):St:=⟨[(0,(.pv (aa a))),(1,(.pv (aa b))),(5,(eI tV))],[]⟩
@[reducible] def au(a b:List UInt32)(tV:Int)(r:PV):Prop:=L bp fn bM (inv1 a b tV) r
theorem e0(a b:Ws)(h1:a.length≠b.length)(h2:a.length<b.length):Cp 117 [aa a,aa b] (vI (-1)) :=
 eD func117 96 [1,1,1,1,1,1] [.q,.aR [.o,(iI (a.length:Int)),.o,(iI (b.length:Int))],.t,.aR [.o,(iI (a.length:Int)),.o,(iI (b.length:Int))],.t,.q] (y6 (ar af a) (ar af b) (aI h1) (ar af a) (ar af b) (ax h2))
theorem e1(a b:Ws)(h1:a.length≠b.length)(h2:b.length≤a.length):Cp 117 [aa a,aa b] (vI 1) :=
 eD func117 99 [1,1,1,1,1,1] [.q,.aR [.o,(iI (a.length:Int)),.o,(iI (b.length:Int))],.t,.aR [.o,(iI (a.length:Int)),.o,(iI (b.length:Int))],.f,.q] (y6 (ar af a) (ar af b) (aI h1) (ar af a) (ar af b) (ay h2))
theorem e2(a b:Ws){r:PV}(h1:a.length=b.length)(h2:aO ((a.length:Int)-1))(hL:au a b ((a.length:Int)-1) r):Cp 117 [aa a,aa b] r :=
 eG func117 96 [1,1,1,1,1] [.q,.aR [.o,(iI (a.length:Int)),.o,(iI (b.length:Int))],.f,.aR [.o,(iI (a.length:Int)),(iI ((a.length:Int)-1))],.aN [0,1,5]] (y5 (ar af a) (ar af b) (b8 h1) (ar af a) (bS h2)) hL
theorem eo(a b:Ws)(c:Int)(k:Nat)(v:UInt32)(k1:Nat)(v1:UInt32)(k2:Nat)(v2:UInt32)(k3:Nat)(v3:UInt32)(h1:0≤c)(h2:c=(k:Int))(h3:a[k]? = some v)(h4:c=(k1:Int))(h5:b[k1]? = some v1)(h6:v.toNat≠v1.toNat)(h7:c=(k2:Int))(h8:a[k2]? = some v2)(h9:c=(k3:Int))(bg:b[k3]? = some v3)(cR:v2.toNat<v3.toNat):au a b c (vI (-1)) :=
 lD 147 [1,3,3,1,3,3,1] [.a,.q,.t,dr 9 0 [.none,.none,(.row k (af v)),.none,.none,.none,(.row k1 (af v1))],.t,dr 9 0 [.none,.none,(.row k2 (af v2)),.none,.none,.none,(.row k3 (af v3))],.t,.q] (y7 (dz h1) (aY af h2 h3) (aY af h4 h5) (aI h6) (aY af h7 h8) (aY af h9 bg) (ax cR))
theorem ew(a b:Ws)(c:Int)(k:Nat)(v:UInt32)(k1:Nat)(v1:UInt32)(k2:Nat)(v2:UInt32)(k3:Nat)(v3:UInt32)(h1:0≤c)(h2:c=(k:Int))(h3:a[k]? = some v)(h4:c=(k1:Int))(h5:b[k1]? = some v1)(h6:v.toNat≠v1.toNat)(h7:c=(k2:Int))(h8:a[k2]? = some v2)(h9:c=(k3:Int))(bg:b[k3]? = some v3)(cR:v3.toNat≤v2.toNat):au a b c (vI 1) :=
 lD 150 [1,3,3,1,3,3,1] [.a,.q,.t,dr 9 0 [.none,.none,(.row k (af v)),.none,.none,.none,(.row k1 (af v1))],.t,dr 9 0 [.none,.none,(.row k2 (af v2)),.none,.none,.none,(.row k3 (af v3))],.f,.q] (y7 (dz h1) (aY af h2 h3) (aY af h4 h5) (aI h6) (aY af h7 h8) (aY af h9 bg) (ay cR))
theorem nr(a b:Ws)(c:Int)(k:Nat)(v:UInt32)(k1:Nat)(v1:UInt32){r:PV}(h1:0≤c)(h2:c=(k:Int))(h3:a[k]? = some v)(h4:c=(k1:Int))(h5:b[k1]? = some v1)(h6:v.toNat=v1.toNat)(h7:aO (c-1))(hL:au a b (c-1) r):au a b c r :=
 lG 138 [1,3,3,1,1] [.a,.q,.t,dr 9 0 [.none,.none,(.row k (af v)),.none,.none,.none,(.row k1 (af v1))],.f,.h 1 (iI (c-1)),.aN [0,1,5]] (y5 (dz h1) (aY af h2 h3) (aY af h4 h5) (b8 h6) (bS h7)) hL
theorem Bf(a b:Ws)(c:Int)(h1:c<0):au a b c (vI 0) :=
 lD 129 [1] [.a,.q,.f,.q] (y1 (eL h1))
end dG
namespace bE
@[reducible] def fn:Func:=Tryz.f118
def bM:List eh:=focus [0,2,0,0,2,1,2,0,0,2,1,2,0,2,0,2,0,2,0,2,0,0,2,0,0] [.code (az fn)]
def inv1(No:Int)(up b:List UInt32)(n m:Nat)(v1 v2:UInt32)(Fh:Int)(qA qB:List UInt32):St:=⟨[(8,(eI No)),(9,(.pv (aa (up.take b.length)))),(10,(.row 55 0 n 1)),(11,(.row 61 0 m 1)),(12,(eU v1.toNat)),(13,(eU v2.toNat)),(14,(eI Fh))],[(55,(.pure ((qA:List UInt32).map af).flatten)),(61,(.pure ((qB:List UInt32).map af).flatten))]⟩
@[reducible] def au(No:Int)(up b:List UInt32)(n m:Nat)(v1 v2:UInt32)(Fh:Int)(qA qB:List UInt32)(r:PV):Prop:=L bp fn bM (inv1 No up b n m v1 v2 Fh qA qB) r
def fw:List eh:=focus [0,2,0,0,2,1,2,0,0,2,1,2,0,2,0,2,0,2,0,2,0,0,2,0,0,0,0,0,2,0,2,0,0,0,2,0,2,0,2,0,0,0] [.code (az fn)]
def inv2(No:Int)(up b:List UInt32)(n m:Nat)(v1 v2:UInt32)(Fh:Int)(l u zJ B6:Nat)(qA qB:List UInt32):St:=⟨[(8,(eI No)),(9,(.pv (aa (up.take b.length)))),(10,(.row 55 0 n 1)),(11,(.row 61 0 m 1)),(12,(eU v1.toNat)),(13,(eU v2.toNat)),(14,(eI Fh)),(15,(.row 55 (0+l*1) (u-l) 1)),(17,(eU zJ)),(18,(eU B6))],[(55,(.pure ((qA:List UInt32).map af).flatten)),(61,(.pure ((qB:List UInt32).map af).flatten))]⟩
@[reducible] def aM(No:Int)(up b:List UInt32)(n m:Nat)(v1 v2:UInt32)(Fh:Int)(l u zJ B6:Nat)(qA qB:List UInt32)(r:PV):Prop:=L bp fn fw (inv2 No up b n m v1 v2 Fh l u zJ B6 qA qB) r
theorem e0(a b:Ws)(c:Int)(d:Ws)(h1:Cp 117 [aa a,aa b] (vI c))(h2:c<0)(h3:Cp 138 [aa a] (aa d)):Cp 118 [aa a,aa b] (.bx [(aa []),aa d]) :=
 eD func118 84 [1,1,1] [.q,.h 2 (.pv (vI c)),.t,.h 1 (.pv (aa d))] (y3 h1 (bd h2) h3)
theorem e1(a b:Ws)(c:Int)(v:UInt32)(d:Ws)(g:UInt32)(i:Ws)(h1:Cp 117 [aa a,aa b] (vI c))(h2:0≤c)(h3:b.length=1)(h4:b[0]? = some v)(h5:Cp 147 [aa a,vW v] (.bx [aa d,vW g]))(h6:Cp 138 [(aa [g])] (aa i)):Cp 118 [aa a,aa b] (.bx [aa d,aa i]) :=
 eD func118 105 [1,1,1,1,3,1,3,1] [.q,.h 2 (.pv (vI c)),.f,.h 1 (iI (b.length:Int)),.t,.aR [.o,.o,(.row 0 (af v)),.o,(.pv (.bx [aa d,vW g]))],.aR [.o,.o,(.rq 0 0 (([g]:Ws).map af)),(.pv (aa i))]] (y8 h1 (ba h2) (ar af b) (br h3) (aY af (Eq.refl (0:Int)) h4) h5 (AL bm ([g]:Ws)) h6)
theorem e2(a b:Ws)(c:Int)(k:Nat)(v:UInt32)(d:Int)(up z:Ws)(n m k1:Nat)(v1:UInt32)(k2:Nat)(v2:UInt32){r:PV}(h1:Cp 117 [aa a,aa b] (vI c))(h2:0≤c)(h3:b.length≠1)(h4:aO ((b.length:Int)-1))(h5:((b.length:Int)-1)=(k:Int))(h6:b[k]? = some v)(h7:Cp 148 [vW v] (vI d))(h8:Cp 149 [aa b,vI d] (aa up))(h9:b.length≤up.length)(bg:av bp 149 [.pv (aa a),.pv (vI d)] [] (.row 0 0 n 1) [(0,(.pure ((z:Ws).map af).flatten))])(cR:aO ((n:Int)-(((up.take b.length).length:Nat):Int)))(cw:((n:Int)-(((up.take b.length).length:Nat):Int))=(m:Int))(cu:4*m≤140737488355328)(dZ:aO ((((up.take b.length).length:Nat):Int)-1))(ej:((((up.take b.length).length:Nat):Int)-1)=(k1:Int))(fP:(up.take b.length)[k1]? = some v1)(jB:aO ((((up.take b.length).length:Nat):Int)-2))(gw:((((up.take b.length).length:Nat):Int)-2)=(k2:Int))(gH:(up.take b.length)[k2]? = some v2)(gz:aO ((m:Int)-1))(hL:au d up b n m v1 v2 ((m:Int)-1) z (List.replicate m (0:UInt32)) r):Cp 118 [aa a,aa b] r :=
 eG func118 135 [1,1,1,1,1,1,3,1,1,1,6,1,1,1,5,1,1,3,1,1,1,3,1,1] [.q,.h 2 (.pv (vI c)),.f,.h 1 (iI (b.length:Int)),.f,.aR [.o,.o,(iI (b.length:Int)),(iI ((b.length:Int)-1)),(.row k (af v)),.o,(.pv (vI d))],dr 9 2 [.none,.none,(.pv (aa up)),.none,(iI (b.length:Int)),(.rq 0 b.length (((up.take b.length):Ws).map af)),.none,.none,(.bN [] (some (0,55)) (.row 0 0 n 1) [(0,(.pure ((z:Ws).map af).flatten))])],.aR [.o,.o,.o,(iI (((up.take b.length).length:Nat):Int)),(iI ((n:Int)-(((up.take b.length).length:Nat):Int))),(.app m ((List.replicate m (0:UInt32):Ws).map af).flatten)],dr 15 1 [.none,.none,(iI (((up.take b.length).length:Nat):Int)),(iI ((((up.take b.length).length:Nat):Int)-1)),(.row k1 (af v1)),.none,iU v1.toNat,.none,.none,(iI (((up.take b.length).length:Nat):Int)),(iI ((((up.take b.length).length:Nat):Int)-2)),(.row k2 (af v2)),.none,iU v2.toNat],.h 2 (iI ((m:Int)-1)),.aN [8,9,10,11,12,13,14],.ord [55,61]] (T8 h1 (ba h2) (ar af b) (aT h3) (ar af b) (bS h4) (aY af h5 h6) h7 h8 (ar af b) (w8 bm (up:Ws) (Eq.refl (((b.length:Nat):Int):Int)) h9) bg (ar af (up.take b.length)) (bS cR) (sX af 0 4 m cw cu rfl) (ar af (up.take b.length)) (bS dZ) (aY af ej fP) (mq v1) (ar af (up.take b.length)) (bS jB) (aY af gw gH) (mq v2) (bS gz)) hL
theorem eo(c:Int)(up b:Ws)(n m:Nat)(v1 v2:UInt32)(d:Int)(g i:Ws)(l u:Nat)(v:UInt32)(z k:Nat)(v3:UInt32)(z1 q m1:Nat){r:PV}(h1:0≤d)(h2:aO (d+(((up.take b.length).length:Nat):Int)))(h3:aO ((d+(((up.take b.length).length:Nat):Int))+1))(h4:d=(l:Int))(h5:((d+(((up.take b.length).length:Nat):Int))+1)=(u:Int))(h6:l=0∨l<u)(h7:l≤u)(h8:u≤n)(h9:(up.take b.length).length<(u-l))(bg:g[(0+l*1)+((up.take b.length).length)]? = some v)(cR:(v.toNat*2^(min 32 64))%18446744073709551616=z)(cw:aO ((((up.take b.length).length:Nat):Int)-1))(cu:((((up.take b.length).length:Nat):Int)-1)=(k:Int))(dZ:k<(u-l))(ej:g[(0+l*1)+k]? = some v3)(fP:(z%18446744073709551616) ||| (v3.toNat%18446744073709551616)=z1)(jB:v1.toNat≠0)(gw:(z1/v1.toNat)%18446744073709551616=q)(gH:z1%v1.toNat=m1)(hL:aM c up b n m v1 v2 d l u q m1 g i r):au c up b n m v1 v2 d g i r :=
 lG 186 [1,1,1,1,5,1,2,1,1,1,1,1,2,1,1,1,1,1] [.a,.q,.t,.aR [.o,.o,.o,.o,(iI (((up.take b.length).length:Nat):Int)),(iI (d+(((up.take b.length).length:Nat):Int))),(iI ((d+(((up.take b.length).length:Nat):Int))+1)),(.rq l u [])],dr 15 1 [.none,.none,(iI (((up.take b.length).length:Nat):Int)),(.nat ((up.take b.length).length)),(.ev (.pv (vW v))),iU v.toNat,iU z,.none,.none,(iI (((up.take b.length).length:Nat):Int)),(iI ((((up.take b.length).length:Nat):Int)-1)),(.nat k),(.ev (.pv (vW v3))),iU v3.toNat,iU z1],dr 7 1 [.none,.none,iU q,.none,.none,iU m1],.aN [8,9,10,11,12,13,14,15,17,18]] (PJ (dz h1) (ar af (up.take b.length)) (ki h2) (ki h3) (Nh h4 h5 h6 h7 h8) (ar af (up.take b.length)) (cj (Eq.refl ((((up.take b.length).length:Nat):Int):Int)) h9) (lY (enc:=af) (f:=fun a=>(vW a)) (fun _=>rfl) bg) (mq v) (gZ (k := .u64) cR) (ar af (up.take b.length)) (bS cw) (cj cu dZ) (lY (enc:=af) (f:=fun a=>(vW a)) (fun _=>rfl) ej) (mq v3) (lX fP) (zu jB gw) (zv jB gH)) hL
theorem ew(c:Int)(up b:Ws)(n m:Nat)(v1 v2:UInt32)(d:Int)(g i j k:Ws)(h1:d<0)(h2:m=i.length)(h3:n=g.length)(h4:Cp 138 [aa i] (aa j))(h5:Cp 152 [aa g,vI c] (aa k)):au c up b n m v1 v2 d g i (.bx [aa j,aa k]) :=
 lD 168 [1,3,3,1,1] [.a,.q,.f,.lK 11 ((i:Ws).map af),.lK 10 ((g:Ws).map af),.aR [.o,(.pv (aa j)),.o,.o,(.pv (aa k))]] (y5 (eL h1) (eM bm (i:Ws) h2) (eM bm (g:Ws) h3) h4 h5)
theorem mX(c:Int)(up b:Ws)(n m:Nat)(v1 v2:UInt32)(g:Int)(l u i j:Nat)(k p:Ws)(d s:Nat){r:PV}(h1:j<4294967296)(h2:4294967296≤i)(h3:((i:Nat)-(1:Nat):Int)%18446744073709551616=(d:Int))(h4:(j+v1.toNat)%18446744073709551616=s)(hL:aM c up b n m v1 v2 g l u d s k p r):aM c up b n m v1 v2 g l u i j k p r :=
 lG 219 [1,1,1,1,1,1,1,1,1,1,1,1,1,1,1,1,1,1,1,1,1,1] [.a,.aR [.o,.o,.o,.o,.o,.o,.skip,.skip,.skip,.skip,.skip,.skip,.skip,.skip,.skip,.skip,.skip,.skip,.skip,.skip,(.dec true),(.dec true)],.a,.h 1 (iU d),.h 2 (iU s),.aN [8,9,10,11,12,13,14,15,17,18]] (L0 (ax h1) (ax h1) (ax h1) (bB h2) (bB h2) (bB h2) (bB h2) (bB h2) (bB h2) (bB h2) (bB h2) (bB h2) (bB h2) (bB h2) (bB h2) (bB h2) (bB h2) (ax h1) (bB h2) (ax h1) (da h3) (dp h4)) hL
theorem mY(c:Int)(up b:Ws)(n m:Nat)(v1 v2:UInt32)(g:Int)(l u i j:Nat)(q w:Ws)(p z k:Nat)(v:UInt32)(z1 d s:Nat){r:PV}(h1:j<4294967296)(h2:i<4294967296)(h3:(i*v2.toNat)%18446744073709551616=p)(h4:(j*2^(min 32 64))%18446744073709551616=z)(h5:aO ((((up.take b.length).length:Nat):Int)-2))(h6:((((up.take b.length).length:Nat):Int)-2)=(k:Int))(h7:k<(u-l))(h8:q[(0+l*1)+k]? = some v)(h9:(z%18446744073709551616) ||| (v.toNat%18446744073709551616)=z1)(bg:z1<p)(cR:((i:Nat)-(1:Nat):Int)%18446744073709551616=(d:Int))(cw:(j+v1.toNat)%18446744073709551616=s)(hL:aM c up b n m v1 v2 g l u d s q w r):aM c up b n m v1 v2 g l u i j q w r :=
 lG 219 [1,1,1,1,1,1,1,1,1,1,1,1,1,1,1,1,1,2,1,1,1,1,1,1,1,1,1,1,1,1,1] [.a,.aR [.o,.o,.o,.o,.o,.o,.o,.o,iU p,.o,iU z,.o,.o,(iI (((up.take b.length).length:Nat):Int)),(iI ((((up.take b.length).length:Nat):Int)-2)),(.nat k),(.ev (.pv (vW v))),iU v.toNat,iU z1,.o,(.dec false),(.dec true)],.t,.h 1 (iU d),.h 2 (iU s),.aN [8,9,10,11,12,13,14,15,17,18]] (QP (ax h1) (ax h1) (ax h1) (aZ h2) (aZ h2) (aZ h2) (lW h3) (aZ h2) (aZ h2) (gZ (k := .u64) h4) (aZ h2) (aZ h2) (aZ h2) (ar af (up.take b.length)) (aZ h2) (bS h5) (aZ h2) (cj h6 h7) (aZ h2) (lY (enc:=af) (f:=fun a=>(vW a)) (fun _=>rfl) h8) (aZ h2) (mq v) (aZ h2) (lX h9) (aZ h2) (ax h1) (aZ h2) (ax h1) (ax bg) (da cR) (dp cw)) hL
theorem xR(c:Int)(up b:Ws)(n m:Nat)(v1 v2:UInt32)(g:Int)(l u i j:Nat)(q s:Ws)(p z k:Nat)(v:UInt32)(z1:Nat)(z2:Ws)(x:Bool)(d:Nat)(z3:Ws)(w:UInt32)(k1:Nat){r:PV}(h1:j<4294967296)(h2:i<4294967296)(h3:(i*v2.toNat)%18446744073709551616=p)(h4:(j*2^(min 32 64))%18446744073709551616=z)(h5:aO ((((up.take b.length).length:Nat):Int)-2))(h6:((((up.take b.length).length:Nat):Int)-2)=(k:Int))(h7:k<(u-l))(h8:q[(0+l*1)+k]? = some v)(h9:(z%18446744073709551616) ||| (v.toNat%18446744073709551616)=z1)(bg:p≤z1)(cR:av bp 150 [.row 100000 (0+l*1) (u-l) 1,.pv (aa (up.take b.length)),.pv (vU i)] [(100000,(.pure ((q:Ws).map af).flatten))] (.pv (vB x)) [(100000,(.pure ((z2:Ws).map af).flatten))])(cw:x=true)(cu:((i:Nat)-(1:Nat):Int)%18446744073709551616=(d:Int))(dZ:av bp 151 [.row 100000 (0+l*1) (u-l) 1,.pv (aa (up.take b.length))] [(100000,(.pure ((z2:Ws).map af).flatten))] (.pv (.bx [])) [(100000,(.pure ((z3:Ws).map af).flatten))])(ej:d%4294967296=w.toNat)(fP:g=(k1:Int))(jB:k1<m)(gw:k1<s.length)(gH:aO (g-1))(hL:au c up b n m v1 v2 (g-1) z3 (s.set k1 w) r):aM c up b n m v1 v2 g l u i j q s r :=
 lG 243 [1,1,1,1,1,1,1,1,1,1,1,1,1,1,1,1,1,2,1,1,1,1,1,1,1,1,1,1,1,1,1,1,1,1,2,2,1] [.a,.aR [.o,.o,.o,.o,.o,.o,.o,.o,iU p,.o,iU z,.o,.o,(iI (((up.take b.length).length:Nat):Int)),(iI ((((up.take b.length).length:Nat):Int)-2)),(.nat k),(.ev (.pv (vW v))),iU v.toNat,iU z1,.o,(.dec false),(.dec true)],.f,.h 3 (.bN [(55,100000)] none (.pv (vB x)) [(100000,(.pure ((z2:Ws).map af).flatten))]),.t,.h 1 (iU d),.h 2 (.bN [(55,100000)] none (.pv (.bx [])) [(100000,(.pure ((z3:Ws).map af).flatten))]),.aR [.o,.o,.o,iW w,(.nat k1),(.cells (.pure (((s.set k1 w):Ws).map af).flatten))],.h 1 (iI (g-1)),.aN [8,9,10,11,12,13,14]] (Uc (ax h1) (ax h1) (ax h1) (aZ h2) (aZ h2) (aZ h2) (lW h3) (aZ h2) (aZ h2) (gZ (k := .u64) h4) (aZ h2) (aZ h2) (aZ h2) (ar af (up.take b.length)) (aZ h2) (bS h5) (aZ h2) (cj h6 h7) (aZ h2) (lY (enc:=af) (f:=fun a=>(vW a)) (fun _=>rfl) h8) (aZ h2) (mq v) (aZ h2) (lX h9) (aZ h2) (ax h1) (aZ h2) (ax h1) (ay bg) cR cw (da cu) dZ (cD ej) (cj fP jB) (fO bm (s:Ws) w gw) (bS gH)) hL
theorem IS(c:Int)(up b:Ws)(n m:Nat)(v1 v2:UInt32)(d:Int)(l u g i:Nat)(j q:Ws)(p z k:Nat)(v:UInt32)(z1:Nat)(z2:Ws)(s:Bool)(w:UInt32)(k1:Nat){r:PV}(h1:i<4294967296)(h2:g<4294967296)(h3:(g*v2.toNat)%18446744073709551616=p)(h4:(i*2^(min 32 64))%18446744073709551616=z)(h5:aO ((((up.take b.length).length:Nat):Int)-2))(h6:((((up.take b.length).length:Nat):Int)-2)=(k:Int))(h7:k<(u-l))(h8:j[(0+l*1)+k]? = some v)(h9:(z%18446744073709551616) ||| (v.toNat%18446744073709551616)=z1)(bg:p≤z1)(cR:av bp 150 [.row 100000 (0+l*1) (u-l) 1,.pv (aa (up.take b.length)),.pv (vU g)] [(100000,(.pure ((j:Ws).map af).flatten))] (.pv (vB s)) [(100000,(.pure ((z2:Ws).map af).flatten))])(cw:s=false)(cu:g%4294967296=w.toNat)(dZ:d=(k1:Int))(ej:k1<m)(fP:k1<q.length)(jB:aO (d-1))(hL:au c up b n m v1 v2 (d-1) z2 (q.set k1 w) r):aM c up b n m v1 v2 d l u g i j q r :=
 lG 237 [1,1,1,1,1,1,1,1,1,1,1,1,1,1,1,1,1,2,1,1,1,1,1,1,1,1,1,1,1,1,1,1,2,2,1] [.a,.aR [.o,.o,.o,.o,.o,.o,.o,.o,iU p,.o,iU z,.o,.o,(iI (((up.take b.length).length:Nat):Int)),(iI ((((up.take b.length).length:Nat):Int)-2)),(.nat k),(.ev (.pv (vW v))),iU v.toNat,iU z1,.o,(.dec false),(.dec true)],.f,.h 3 (.bN [(55,100000)] none (.pv (vB s)) [(100000,(.pure ((z2:Ws).map af).flatten))]),.f,.aR [.o,.o,.o,iW w,(.nat k1),(.cells (.pure (((q.set k1 w):Ws).map af).flatten))],.h 1 (iI (d-1)),.aN [8,9,10,11,12,13,14]] (Sh (ax h1) (ax h1) (ax h1) (aZ h2) (aZ h2) (aZ h2) (lW h3) (aZ h2) (aZ h2) (gZ (k := .u64) h4) (aZ h2) (aZ h2) (aZ h2) (ar af (up.take b.length)) (aZ h2) (bS h5) (aZ h2) (cj h6 h7) (aZ h2) (lY (enc:=af) (f:=fun a=>(vW a)) (fun _=>rfl) h8) (aZ h2) (mq v) (aZ h2) (lX h9) (aZ h2) (ax h1) (aZ h2) (ax h1) (ay bg) cR cw (cD cu) (cj dZ ej) (fO bm (q:Ws) w fP) (bS jB)) hL
theorem OL(c:Int)(up b:Ws)(n m:Nat)(v1 v2:UInt32)(g:Int)(l u i j:Nat)(p q z:Ws)(s:Bool)(d:Nat)(z1:Ws)(w:UInt32)(k:Nat){r:PV}(h1:4294967296≤j)(h2:av bp 150 [.row 100000 (0+l*1) (u-l) 1,.pv (aa (up.take b.length)),.pv (vU i)] [(100000,(.pure ((p:Ws).map af).flatten))] (.pv (vB s)) [(100000,(.pure ((z:Ws).map af).flatten))])(h3:s=true)(h4:((i:Nat)-(1:Nat):Int)%18446744073709551616=(d:Int))(h5:av bp 151 [.row 100000 (0+l*1) (u-l) 1,.pv (aa (up.take b.length))] [(100000,(.pure ((z:Ws).map af).flatten))] (.pv (.bx [])) [(100000,(.pure ((z1:Ws).map af).flatten))])(h6:d%4294967296=w.toNat)(h7:g=(k:Int))(h8:k<m)(h9:k<q.length)(bg:aO (g-1))(hL:au c up b n m v1 v2 (g-1) z1 (q.set k w) r):aM c up b n m v1 v2 g l u i j p q r :=
 lG 243 [1,1,1,1,1,1,1,1,1,1,2,2,1] [.a,.aR [.o,.o,.o,.skip,.skip,.skip,.skip,.skip,.skip,.skip,.skip,.skip,.skip,.skip,.skip,.skip,.skip,.skip,.skip,.skip,.skip,(.dec false)],.a,.h 3 (.bN [(55,100000)] none (.pv (vB s)) [(100000,(.pure ((z:Ws).map af).flatten))]),.t,.h 1 (iU d),.h 2 (.bN [(55,100000)] none (.pv (.bx [])) [(100000,(.pure ((z1:Ws).map af).flatten))]),.aR [.o,.o,.o,iW w,(.nat k),(.cells (.pure (((q.set k w):Ws).map af).flatten))],.h 1 (iI (g-1)),.aN [8,9,10,11,12,13,14]] (LY (ay h1) (ay h1) (ay h1) (ay h1) (ay h1) h2 h3 (da h4) h5 (cD h6) (cj h7 h8) (fO bm (q:Ws) w h9) (bS bg)) hL
theorem Uf(c:Int)(up b:Ws)(n m:Nat)(v1 v2:UInt32)(d:Int)(l u g i:Nat)(j p z:Ws)(q:Bool)(w:UInt32)(k:Nat){r:PV}(h1:4294967296≤i)(h2:av bp 150 [.row 100000 (0+l*1) (u-l) 1,.pv (aa (up.take b.length)),.pv (vU g)] [(100000,(.pure ((j:Ws).map af).flatten))] (.pv (vB q)) [(100000,(.pure ((z:Ws).map af).flatten))])(h3:q=false)(h4:g%4294967296=w.toNat)(h5:d=(k:Int))(h6:k<m)(h7:k<p.length)(h8:aO (d-1))(hL:au c up b n m v1 v2 (d-1) z (p.set k w) r):aM c up b n m v1 v2 d l u g i j p r :=
 lG 237 [1,1,1,1,1,1,1,1,2,2,1] [.a,.aR [.o,.o,.o,.skip,.skip,.skip,.skip,.skip,.skip,.skip,.skip,.skip,.skip,.skip,.skip,.skip,.skip,.skip,.skip,.skip,.skip,(.dec false)],.a,.h 3 (.bN [(55,100000)] none (.pv (vB q)) [(100000,(.pure ((z:Ws).map af).flatten))]),.f,.aR [.o,.o,.o,iW w,(.nat k),(.cells (.pure (((p.set k w):Ws).map af).flatten))],.h 1 (iI (d-1)),.aN [8,9,10,11,12,13,14]] (Fb (ay h1) (ay h1) (ay h1) (ay h1) (ay h1) h2 h3 (cD h4) (cj h5 h6) (fO bm (p:Ws) w h7) (bS h8)) hL
end bE
namespace tW
theorem e0(n:Int)(m m1:Nat)(w:UInt32)(z:Nat)(w1:UInt32)(a:aC)(h1:n%18446744073709551616=(m:Int))(h2:n<0)(h3:(0-(m:Int))%18446744073709551616=(m1:Int))(h4:m1%4294967296=w.toNat)(h5:m1/2^(min 32 64)=z)(h6:z%4294967296=w1.toNat)(h7:Cp 101 [(vB (decide (n<0))),(aa [w,w1])] a.pv):Cp 119 [vI n] a.pv :=
 eD func119 93 [1,1,1,1,1,1,3,1] [.q,.h 1 (iU m),.q,.t,.h 1 (iU m1),.aR [.o,.o,.o,iW w,.o,iU z,iW w1,(.rq 0 0 (([w,w1]:Ws).map af)),(.pv a.pv)]] (y8 (B0 h1) (bd h2) (zx h3) (cD h4) (cN (k := .u64) h5) (cD h6) (AL bm ([w,w1]:Ws)) h7)
theorem e1(n:Int)(m:Nat)(w:UInt32)(z:Nat)(w1:UInt32)(a:aC)(h1:n%18446744073709551616=(m:Int))(h2:0≤n)(h3:m%4294967296=w.toNat)(h4:m/2^(min 32 64)=z)(h5:z%4294967296=w1.toNat)(h6:Cp 101 [(vB (decide (n<0))),(aa [w,w1])] a.pv):Cp 119 [vI n] a.pv :=
 eD func119 93 [1,1,1,1,1,3,1] [.q,.h 1 (iU m),.q,.f,.aR [.o,.o,.o,iW w,.o,iU z,iW w1,(.rq 0 0 (([w,w1]:Ws).map af)),(.pv a.pv)]] (y7 (B0 h1) (ba h2) (cD h3) (cN (k := .u64) h4) (cD h5) (AL bm ([w,w1]:Ws)) h6)
end tW
namespace lh
@[reducible] def fn:Func:=Tryz.f120
def bM:List eh:=focus [0,2,0,2,0,2,0,0,2,0,0] [.code (az fn)]
def inv1(a b:List UInt32)(qC tX:Nat)(B7:List UInt32):St:=⟨[(0,(.pv (aa a))),(1,(.pv (aa b))),(5,(.row 14 0 ((max a.length b.length)+1) 1)),(6,(eU qC)),(16,(eI ((((max a.length b.length)+1):Nat):Int))),(17,(eI (tX:Int)))],[(14,(.pure ((B7:List UInt32).map af).flatten))]⟩
@[reducible] def au(a b:List UInt32)(qC tX:Nat)(B7:List UInt32)(r:PV):Prop:=L bp fn bM (inv1 a b qC tX B7) r
theorem e0(a b:Ws){r:PV}(h1:((max a.length b.length)+1)<9223372036854775808)(h2:4*((max a.length b.length)+1)≤140737488355328)(hL:au a b 0 0 (List.replicate ((max a.length b.length)+1) (0:UInt32)) r):Cp 120 [aa a,aa b] r :=
 eG func120 93 [1,1,1,1,5] [.q,.aR [.o,(iI (a.length:Int)),.o,(iI (b.length:Int)),(iI (((max a.length b.length):Nat):Int)),(iI ((((max a.length b.length)+1):Nat):Int)),(.app ((max a.length b.length)+1) ((List.replicate ((max a.length b.length)+1) (0:UInt32):Ws).map af).flatten)],.q,.q,.aN [0,1,5,6,16,17]] (y5 (ar af a) (ar af b) (zD a.length b.length) (aH h1) (sX af 0 4 ((max a.length b.length)+1) (Eq.refl (((((max a.length b.length)+1):Nat):Int):Int)) h2 rfl)) hL
theorem eo(a b:Ws)(c d:Nat)(g:Ws)(i j s s1:Nat)(w:UInt32)(z:Nat){r:PV}(h1:d<((max a.length b.length)+1))(h2:Cp 153 [aa a,(vI (d:Int))] (vU i))(h3:Cp 153 [aa b,(vI (d:Int))] (vU j))(h4:(i+j)%18446744073709551616=s)(h5:(c+s)%18446744073709551616=s1)(h6:s1%4294967296=w.toNat)(h7:d<g.length)(h8:s1/2^(min 32 64)=z)(h9:(d+1)<9223372036854775808)(hL:au a b z (d+1) (g.set d w) r):au a b c d g r :=
 lG 144 [1,1,1,1,1,1,2,2,1,1] [.a,.q,.t,.q,.aR [.o,.o,.o,(.pv (vU i)),.o,.o,(.pv (vU j)),iU s,iU s1],.aR [.o,.o,.o,iW w,(.nat d),(.cells (.pure (((g.set d w):Ws).map af).flatten))],.h 1 (iU z),.h 0 (iI (((d+1):Nat):Int)),.aN [0,1,5,6,16,17]] (CM (ax h1) h2 h3 (dp h4) (dp h5) (cD h6) (cj (Eq.refl (((d:Nat):Int):Int)) h1) (fO bm (g:Ws) w h7) (cN (k := .u64) h8) (aH h9)) hL
theorem ew(a b:Ws)(c d:Nat)(g i:Ws)(h1:((max a.length b.length)+1)≤d)(h2:((max a.length b.length)+1)=g.length)(h3:Cp 138 [aa g] (aa i)):au a b c d g (aa i) :=
 lD 126 [1,3,1] [.a,.q,.f,.lK 5 ((g:Ws).map af),.h 1 (.pv (aa i))] (y3 (ay h1) (eM bm (g:Ws) h2) h3)
end lh
namespace lj
@[reducible] def fn:Func:=Tryz.f121
def bM:List eh:=focus [0,2,0,2,0,2,0,0,2,0,0] [.code (az fn)]
def inv1(a b:List UInt32)(nX Np:Nat)(qD:List UInt32):St:=⟨[(0,(.pv (aa a))),(1,(.pv (aa b))),(5,(.row 11 0 a.length 1)),(6,(eU nX)),(13,(eI (a.length:Int))),(14,(eI (Np:Int)))],[(11,(.pure ((qD:List UInt32).map af).flatten))]⟩
@[reducible] def au(a b:List UInt32)(nX Np:Nat)(qD:List UInt32)(r:PV):Prop:=L bp fn bM (inv1 a b nX Np qD) r
theorem e0(a b:Ws){r:PV}(h1:4*a.length≤140737488355328)(hL:au a b 0 0 (List.replicate a.length (0:UInt32)) r):Cp 121 [aa a,aa b] r :=
 eG func121 93 [1,5] [.q,.aR [.o,(iI (a.length:Int)),(.app a.length ((List.replicate a.length (0:UInt32):Ws).map af).flatten)],.q,.q,.aN [0,1,5,6,13,14]] (y2 (ar af a) (sX af 0 4 a.length (Eq.refl (((a.length:Nat):Int):Int)) h1 rfl)) hL
theorem eo(a b:Ws)(c g:Nat)(i:Ws)(v:UInt32)(j d d1:Nat)(w:UInt32)(z:Nat){r:PV}(h1:g<a.length)(h2:a[g]? = some v)(h3:Cp 153 [aa b,(vI (g:Int))] (vU j))(h4:((v.toNat:Nat)-(j:Nat):Int)%18446744073709551616=(d:Int))(h5:((d:Nat)-(c:Nat):Int)%18446744073709551616=(d1:Int))(h6:d1%4294967296=w.toNat)(h7:g<i.length)(h8:d1/2^(min 63 64)=z)(h9:(g+1)<9223372036854775808)(hL:au a b z (g+1) (i.set g w) r):au a b c g i r :=
 lG 144 [1,3,1,1,1,1,1,2,2,1,1] [.a,.q,.t,.q,dr 11 1 [.none,.none,(.row g (af v)),.none,iU v.toNat,.none,.none,(.pv (vU j)),iU d,.none,iU d1],.aR [.o,.o,.o,iW w,(.nat g),(.cells (.pure (((i.set g w):Ws).map af).flatten))],.h 1 (iU z),.h 0 (iI (((g+1):Nat):Int)),.aN [0,1,5,6,13,14]] (Fb (ax h1) (aY af (Eq.refl (((g:Nat):Int):Int)) h2) (mq v) h3 (da h4) (da h5) (cD h6) (cj (Eq.refl (((g:Nat):Int):Int)) h1) (fO bm (i:Ws) w h7) (cN (k := .u64) h8) (aH h9)) hL
theorem ew(a b:Ws)(c d:Nat)(g i:Ws)(h1:a.length≤d)(h2:a.length=g.length)(h3:Cp 138 [aa g] (aa i)):au a b c d g (aa i) :=
 lD 126 [1,3,1] [.a,.q,.f,.lK 5 ((g:Ws).map af),.h 1 (.pv (aa i))] (y3 (ay h1) (eM bm (g:Ws) h2) h3)
end lj
namespace jK
@[reducible] def fn:Func:=Tryz.f138
def bM:List eh:=focus [0,2,0,2,0,0,0] [.code (az fn)]
def inv1(m:List UInt32)(IT:Int):St:=⟨[(0,(.pv (aa m))),(3,(eI IT))],[]⟩
@[reducible] def au(m:List UInt32)(IT:Int)(r:PV):Prop:=L bp fn bM (inv1 m IT) r
theorem e0 (m : Ws) {r : PV}  (hL : au m (m.length : Int) r) : Cp 138 [aa m] r :=
 eG func138 81 [1] [.q,.h 1 (iI (m.length:Int)),.aN [0,3]] (y1 (ar af m)) hL
theorem eo(m:Ws)(b:Int)(k:Nat)(v:UInt32){r:PV}(h1:0<b)(h2:aO (b-1))(h3:(b-1)=(k:Int))(h4:m[k]? = some v)(h5:v.toNat=0)(hL:au m (b-1) r):au m b r :=
 lG 108 [1,1,1,1,1,3,1,1,1,1,1] [.a,.aR [.o,.o,.o,.o,.o,(iI (b-1)),(.row k (af v)),.o,.o,(.dec true)],.t,.h 1 (iI (b-1)),.aN [0,3]] (Fb (bd h1) (bd h1) (bd h1) (bS h2) (bd h1) (aY af h3 h4) (bd h1) (bd h1) (bd h1) (br h5) (bS h2)) hL
theorem nr(m:Ws)(b:Int)(k:Nat)(v:UInt32)(u:Nat)(h1:0<b)(h2:aO (b-1))(h3:(b-1)=(k:Int))(h4:m[k]? = some v)(h5:v.toNat≠0)(h6:b≠0)(h7:b=(u:Int))(h8:u≤m.length)(h9:(([]:Ws)++(m.take u):Ws).length*4≤140737488355328):au m b (aa (m.take u)) :=
 lD 129 [1,1,1,1,1,3,1,1,1,1,1,6,6,3] [.a,.aR [.o,.o,.o,.o,.o,(iI (b-1)),(.row k (af v)),.o,.o,(.dec true)],.f,.q,.f,.aR [.o,.o,.o,(.rq 0 u (((m.take u):Ws).map af)),(.app ((m.take u):Ws).length (((m.take u):Ws).map af).flatten)],.lK 2 (((m.take u):Ws).map af)] (G9 (bd h1) (bd h1) (bd h1) (bS h2) (bd h1) (aY af h3 h4) (bd h1) (bd h1) (bd h1) (aT h5) (bP h6) (w8 bm (m:Ws) h7 h8) (rX bm ([]:Ws) ((m.take u):Ws) 4 (Eq.refl ([]:Ws).length) h9 rfl) (eM bm ((m.take u):Ws) (Eq.refl ((m.take u):Ws).length)))
theorem Bf(m:Ws)(b:Int)(h1:b≤0)(h2:b=0):au m b (aa []) :=
 lD 126 [1,1,1,1,1,1,1,1] [.a,.aR [.o,.o,.o,.skip,.skip,.skip,.skip,.skip,.skip,(.dec false)],.a,.q,.t,.q] (y8 (ba h1) (ba h1) (ba h1) (ba h1) (ba h1) (ba h1) (ba h1) (aP h2))
end jK
namespace tt
theorem e0(x:Nat)(b:Int)(h1:Cp 166 [vU x] (vI b)):Cp 142 [vU x] (vI b) :=
 eD func142 81 [1] [.q,.a,.h 1 (.pv (vI b))] (y1 h1)
end tt
namespace j8
@[reducible] def fn:Func:=Tryz.f147
def bM:List eh:=focus [0,2,0,2,0,2,0,0,2,0,0] [.code (az fn)]
def inv1(a:List UInt32)(b:UInt32)(Fi:Nat)(mw:Int)(qD:List UInt32):St:=⟨[(0,(.pv (aa a))),(1,(eW b)),(6,(.row 11 0 a.length 1)),(7,(eU Fi)),(8,(eI mw))],[(11,(.pure ((qD:List UInt32).map af).flatten))]⟩
@[reducible] def au(a:List UInt32)(b:UInt32)(Fi:Nat)(mw:Int)(qD:List UInt32)(r:PV):Prop:=L bp fn bM (inv1 a b Fi mw qD) r
theorem e0(a:Ws)(b:UInt32){r:PV}(h1:4*a.length≤140737488355328)(h2:aO ((a.length:Int)-1))(hL:au a b 0 ((a.length:Int)-1) (List.replicate a.length (0:UInt32)) r):Cp 147 [aa a,vW b] r :=
 eG func147 93 [1,5,1,1] [.q,.aR [.o,(iI (a.length:Int)),(.app a.length ((List.replicate a.length (0:UInt32):Ws).map af).flatten)],.q,.aR [.o,(iI (a.length:Int)),(iI ((a.length:Int)-1))],.aN [0,1,6,7,8]] (y4 (ar af a) (sX af 0 4 a.length (Eq.refl (((a.length:Nat):Int):Int)) h1 rfl) (ar af a) (bS h2)) hL
theorem eo(a:Ws)(b:UInt32)(c:Nat)(d:Int)(g:Ws)(z k:Nat)(v:UInt32)(z1 q:Nat)(w:UInt32)(k1 m:Nat){r:PV}(h1:0≤d)(h2:(c*2^(min 32 64))%18446744073709551616=z)(h3:d=(k:Int))(h4:a[k]? = some v)(h5:(z%18446744073709551616) ||| (v.toNat%18446744073709551616)=z1)(h6:b.toNat≠0)(h7:(z1/b.toNat)%18446744073709551616=q)(h8:q%4294967296=w.toNat)(h9:d=(k1:Int))(bg:k1<a.length)(cR:k1<g.length)(cw:z1%b.toNat=m)(cu:aO (d-1))(hL:au a b m (d-1) (g.set k1 w) r):au a b c d g r :=
 lG 138 [1,1,3,1,1,1,1,1,2,2,1,1,1] [.a,.q,.t,.aR [.o,iU z,.o,.o,(.row k (af v)),.o,iU v.toNat,iU z1],.aR [.o,.o,.o,.o,iU b.toNat,iU q,iW w,(.nat k1),(.cells (.pure (((g.set k1 w):Ws).map af).flatten))],.aR [.o,.o,iU b.toNat,iU m],.h 1 (iI (d-1)),.aN [0,1,6,7,8]] (LY (dz h1) (gZ (k := .u64) h2) (aY af h3 h4) (mq v) (lX h5) (mq b) (zu h6 h7) (cD h8) (cj h9 bg) (fO bm (g:Ws) w cR) (mq b) (zv h6 cw) (bS cu)) hL
theorem ew(a:Ws)(b:UInt32)(c:Nat)(d:Int)(g i:Ws)(w:UInt32)(h1:d<0)(h2:a.length=g.length)(h3:Cp 138 [aa g] (aa i))(h4:c%4294967296=w.toNat):au a b c d g (.bx [aa i,vW w]) :=
 lD 126 [1,3,1,1] [.a,.q,.f,.lK 6 ((g:Ws).map af),.aR [.o,(.pv (aa i)),.o,iW w]] (y4 (eL h1) (eM bm (g:Ws) h2) h3 (cD h4))
end j8
namespace j9
theorem e0(x:UInt32)(a:Int)(h1:Cp 165 [vW x] (vI a))(h2:aO (32-a)):Cp 148 [vW x] (vI (32-a)) :=
 eD func148 72 [1,1] [.q,.aR [.o,(.pv (vI a)),(iI (32-a))]] (y2 h1 (bS h2))
end j9
namespace nY
@[reducible] def fn:Func:=Tryz.f149
def bM:List eh:=focus [0,2,0,2,0,0,2,0,0] [.code (az fn)]
def inv1(n:Int)(a:List UInt32)(tY:Nat)(ic:List UInt32):St:=⟨[(1,(eI n)),(5,(.row 12 0 (a.length+1) 1)),(13,(.pv (aa a))),(14,(eI (a.length:Int))),(15,(eI (tY:Int)))],[(12,(.pure ((ic:List UInt32).map af).flatten))]⟩
@[reducible] def au(n:Int)(a:List UInt32)(tY:Nat)(ic:List UInt32)(r:PV):Prop:=L bp fn bM (inv1 n a tY ic) r
theorem e0(a:Ws)(n:Int){r:PV}(h1:(a.length+1)<9223372036854775808)(h2:4*(a.length+1)≤140737488355328)(hL:au n a 0 (List.replicate (a.length+1) (0:UInt32)) r):Cp 149 [aa a,vI n] r :=
 eG func149 87 [1,1,5,1] [.q,.aR [.o,(iI (a.length:Int)),(iI (((a.length+1):Nat):Int)),(.app (a.length+1) ((List.replicate (a.length+1) (0:UInt32):Ws).map af).flatten)],.h 1 (iI (a.length:Int)),.aN [1,5,13,14,15]] (y4 (ar af a) (aH h1) (sX af 0 4 (a.length+1) (Eq.refl ((((a.length+1):Nat):Int):Int)) h2 rfl) (ar af a)) hL
theorem eo(n:Int)(a:Ws)(b:Nat)(c:Ws)(v:UInt32)(k z:Nat)(v1 w z1:UInt32)(z2:Nat)(w1:UInt32){r:PV}(h1:b<a.length)(h2:a[b]? = some v)(h3:n=(k:Int))(h4:(v.toNat*2^(min k 64))%18446744073709551616=z)(h5:b<(a.length+1))(h6:c[b]? = some v1)(h7:z%4294967296=w.toNat)(h8:(v1.toNat%4294967296) ||| (w.toNat%4294967296)=z1.toNat)(h9:b<c.length)(bg:(b+1)<9223372036854775808)(cR:z/2^(min 32 64)=z2)(cw:z2%4294967296=w1.toNat)(cu:(b+1)<(a.length+1))(dZ:(b+1)<(c.set b z1).length)(hL:au n a (b+1) ((c.set b z1).set (b+1) w1) r):au n a b c r :=
 lG 138 [1,3,1,1,2,1,1,1,2,2,1,1,1,2,2,1] [.a,.q,.t,.h 1 (.row b (af v)),.aR [.o,iU v.toNat,.o,iU z],.aR [.o,.o,(.nat b),(.ev (.pv (vW v1))),.o,iW w,iW z1,(.nat b),(.cells (.pure (((c.set b z1):Ws).map af).flatten))],.aR [.o,.o,(iI (((b+1):Nat):Int)),.o,iU z2,iW w1,(.nat (b+1)),(.cells (.pure ((((c.set b z1).set (b+1) w1):Ws).map af).flatten))],.h 0 (iI (((b+1):Nat):Int)),.aN [1,5,13,14,15]] (Nl (ax h1) (aY af (Eq.refl (((b:Nat):Int):Int)) h2) (mq v) (Ni h3 (gZ (k := .i64) h4)) (cj (Eq.refl (((b:Nat):Int):Int)) h5) (fk (enc:=af) (f:=fun a=>(vW a)) (fun _=>rfl) h6) (cD h7) (sC h8) (cj (Eq.refl (((b:Nat):Int):Int)) h5) (fO bm (c:Ws) z1 h9) (aH bg) (cN (k := .u64) cR) (cD cw) (cj (Eq.refl ((((b+1):Nat):Int):Int)) cu) (fO bm ((c.set b z1):Ws) w1 dZ) (aH bg)) hL
theorem ew(n:Int)(a:Ws)(b:Nat)(c:Ws)(h1:a.length≤b)(h2:(a.length+1)=c.length):au n a b c (aa c) :=
 lD 120 [1,3] [.a,.q,.f,.q,.lK 4 ((c:Ws).map af)] (y2 (ay h1) (eM bm (c:Ws) h2))
end nY
namespace my
@[reducible] def fn:Func:=Tryz.f149
def bM:List eh:=focus [0,2,0,2,0,0,2,0,0] [.code (az fn)]
def inv1(n:Int)(a:List UInt32)(tY:Nat)(ic:List UInt32):St:=⟨[(1,(eI n)),(5,(.row 12 0 (a.length+1) 1)),(13,(.pv (aa a))),(14,(eI (a.length:Int))),(15,(eI (tY:Int)))],[(12,(.pure ((ic:List UInt32).map af).flatten))]⟩
@[reducible] def au(n:Int)(a:List UInt32)(tY:Nat)(ic:List UInt32)(sin:aG)(r:EV)(sout:aG):Prop:=LX bp fn bM (inv1 n a tY ic) sin r sout
theorem e0(a:Ws)(n:Int){r:EV}{sout:aG}(h1:(a.length+1)<9223372036854775808)(h2:4*(a.length+1)≤140737488355328)(hL:au n a 0 (List.replicate (a.length+1) (0:UInt32)) [] r sout):av bp 149 [(.pv (aa a)),eI n] [] r sout :=
 AM func149 87 [1,1,5,1] [.q,.aR [.o,(iI (a.length:Int)),(iI (((a.length+1):Nat):Int)),(.app (a.length+1) ((List.replicate (a.length+1) (0:UInt32):Ws).map af).flatten)],.h 1 (iI (a.length:Int)),.aN [1,5,13,14,15]] (y4 (ar af a) (aH h1) (sX af 0 4 (a.length+1) (Eq.refl ((((a.length+1):Nat):Int):Int)) h2 rfl) (ar af a)) hL
theorem eo(n:Int)(a:Ws)(b:Nat)(c:Ws)(v:UInt32)(k z:Nat)(v1 w z1:UInt32)(z2:Nat)(w1:UInt32){r:EV}{sout:aG}{sin:aG}(hs:sin.all (fun p=>Nat.ble fn.ntmps p.1)=true)(h1:b<a.length)(h2:a[b]? = some v)(h3:n=(k:Int))(h4:(v.toNat*2^(min k 64))%18446744073709551616=z)(h5:b<(a.length+1))(h6:c[b]? = some v1)(h7:z%4294967296=w.toNat)(h8:(v1.toNat%4294967296) ||| (w.toNat%4294967296)=z1.toNat)(h9:b<c.length)(bg:(b+1)<9223372036854775808)(cR:z/2^(min 32 64)=z2)(cw:z2%4294967296=w1.toNat)(cu:(b+1)<(a.length+1))(dZ:(b+1)<(c.set b z1).length)(hL:au n a (b+1) ((c.set b z1).set (b+1) w1) sin r sout):au n a b c sin r sout :=
 xQ 138 [1,3,1,1,2,1,1,1,2,2,1,1,1,2,2,1] [.a,.q,.t,.h 1 (.row b (af v)),.aR [.o,iU v.toNat,.o,iU z],.aR [.o,.o,(.nat b),(.ev (.pv (vW v1))),.o,iW w,iW z1,(.nat b),(.cells (.pure (((c.set b z1):Ws).map af).flatten))],.aR [.o,.o,(iI (((b+1):Nat):Int)),.o,iU z2,iW w1,(.nat (b+1)),(.cells (.pure ((((c.set b z1).set (b+1) w1):Ws).map af).flatten))],.h 0 (iI (((b+1):Nat):Int)),.aN [1,5,13,14,15]] hs (Nl (ax h1) (aY af (Eq.refl (((b:Nat):Int):Int)) h2) (mq v) (Ni h3 (gZ (k := .i64) h4)) (cj (Eq.refl (((b:Nat):Int):Int)) h5) (fk (enc:=af) (f:=fun a=>(vW a)) (fun _=>rfl) h6) (cD h7) (sC h8) (cj (Eq.refl (((b:Nat):Int):Int)) h5) (fO bm (c:Ws) z1 h9) (aH bg) (cN (k := .u64) cR) (cD cw) (cj (Eq.refl ((((b+1):Nat):Int):Int)) cu) (fO bm ((c.set b z1):Ws) w1 dZ) (aH bg)) hL
theorem ew(n:Int)(a:Ws)(b:Nat)(c:Ws){sin:aG}(hs:sin.all (fun p=>Nat.ble fn.ntmps p.1)=true)(hi:sin.all (fun p=>pN p.1||(aG.get [(0,(.pure (((c.take (a.length+1)):Ws).map af).flatten))] p.1).isSome)=true)(h1:a.length≤b):au n a b c sin (.row 0 0 (a.length+1) 1) [(0,(.pure (((c.take (a.length+1)):Ws).map af).flatten))] :=
 wv 120 [1,1] [.a,.q,.f,.q,.EZ 12 0,.cut 0 ((a.length+1)*1) (((c.take (a.length+1)):Ws).map af).flatten,.ord [0]] hs hi (y2 (ay h1) (Bd bm (c:Ws) (a.length+1)))
end my
namespace ju
@[reducible] def fn:Func:=Tryz.f150
def bM:List eh:=focus [0,2,0,2,0,0,2,0,0] [.code (az fn)]
def inv1(off len:Nat)(v:List UInt32)(n qE zK qF:Nat)(aL:List UInt32):St:=⟨[(0,(.row 100000 off len 1)),(1,(.pv (aa v))),(2,(eU n)),(7,(eU qE)),(8,(eU zK)),(12,(eI (len:Int))),(13,(eI (qF:Int)))],[(100000,(.pure ((aL:List UInt32).map af).flatten))]⟩
@[reducible] def au(off len:Nat)(v:List UInt32)(n qE zK qF:Nat)(aL:List UInt32)(sin:aG)(r:EV)(sout:aG):Prop:=LX bp fn bM (inv1 off len v n qE zK qF aL) sin r sout
theorem e0 (u : Ws) (a b : Nat) (v : Ws) (n : Nat) {r : EV} {sout : aG}  (hL : au a b v n 0 0 0 u [(100000, (.pure ((u : Ws).map af).flatten))] r sout) : av bp 150 [(.row 100000 a b 1), (.pv (aa v)), eU n] [(100000, (.pure ((u : Ws).map af).flatten))] r sout :=
 AM func150 87 [] [.q,.q,.q,.aN [0,1,2,7,8,12,13]] True.intro hL
theorem eo(b c:Nat)(v:Ws)(n g i j:Nat)(l:Ws)(m p s:Nat)(v1 w:UInt32)(d d1:Nat)(w1:UInt32)(z z1:Nat){r:EV}{sout:aG}{sin:aG}(hs:sin.all (fun p=>Nat.ble fn.ntmps p.1)=true)(h1:j<c)(h2:Cp 153 [aa v,(vI (j:Int))] (vU m))(h3:(n*m)%18446744073709551616=p)(h4:(g+p)%18446744073709551616=s)(h5:l[b+j]? = some v1)(h6:s%4294967296=w.toNat)(h7:((v1.toNat:Nat)-(w.toNat:Nat):Int)%18446744073709551616=(d:Int))(h8:((d:Nat)-(i:Nat):Int)%18446744073709551616=(d1:Int))(h9:d1%4294967296=w1.toNat)(bg:(b+j)<l.length)(cR:d1/2^(min 63 64)=z)(cw:s/2^(min 32 64)=z1)(cu:(j+1)<9223372036854775808)(hL:au b c v n z1 z (j+1) (l.set (b+j) w1) sin r sout):au b c v n g i j l sin r sout :=
 xQ 150 [1,1,1,1,2,1,1,1,1,1,1,1,2,2,1,1,1] [.a,.q,.t,.q,.aR [.o,.o,.o,.o,(.pv (vU m)),iU p,iU s],.aR [.o,.o,(.nat j),(.ev (.pv (vW v1))),iU v1.toNat,.o,iW w,iU w.toNat,iU d,.o,iU d1],.aR [.o,.o,.o,iW w1,(.nat j),(.cells (.pure (((l.set (b+j) w1):Ws).map af).flatten))],.h 1 (iU z),.h 1 (iU z1),.h 0 (iI (((j+1):Nat):Int)),.aN [0,1,2,7,8,12,13]] hs (PI (ax h1) h2 (lW h3) (dp h4) (cj (Eq.refl (((j:Nat):Int):Int)) h1) (lY (enc:=af) (f:=fun a=>(vW a)) (fun _=>rfl) h5) (mq v1) (cD h6) (mq w) (da h7) (da h8) (cD h9) (cj (Eq.refl (((j:Nat):Int):Int)) h1) (B3 bm (l:Ws) w1 b j bg) (cN (k := .u64) cR) (cN (k := .u64) cw) (aH cu)) hL
theorem ew(b c:Nat)(v:Ws)(n d g i:Nat)(j:Ws){sin:aG}(hs:sin.all (fun p=>Nat.ble fn.ntmps p.1)=true)(hi:sin.all (fun p=>pN p.1||(aG.get [(100000,(.pure ((j:Ws).map af).flatten))] p.1).isSome)=true)(h1:c≤i):au b c v n d g i j sin (.pv (vB ((g:Int)==1))) [(100000,(.pure ((j:Ws).map af).flatten))] :=
 wv 120 [1] [.a,.q,.f,.q,.ord [100000]] hs hi (y1 (ay h1))
end ju
namespace lk
@[reducible] def fn:Func:=Tryz.f151
def bM:List eh:=focus [0,2,0,2,0,0] [.code (az fn)]
def inv1(off len:Nat)(v:List UInt32)(B8 Sl:Nat)(aL:List UInt32):St:=⟨[(0,(.row 100000 off len 1)),(1,(.pv (aa v))),(4,(eU B8)),(7,(eI (len:Int))),(8,(eI (Sl:Int)))],[(100000,(.pure ((aL:List UInt32).map af).flatten))]⟩
@[reducible] def au(off len:Nat)(v:List UInt32)(B8 Sl:Nat)(aL:List UInt32)(sin:aG)(r:EV)(sout:aG):Prop:=LX bp fn bM (inv1 off len v B8 Sl aL) sin r sout
theorem e0 (u : Ws) (a b : Nat) (v : Ws) {r : EV} {sout : aG}  (hL : au a b v 0 0 u [(100000, (.pure ((u : Ws).map af).flatten))] r sout) : av bp 151 [(.row 100000 a b 1), (.pv (aa v))] [(100000, (.pure ((u : Ws).map af).flatten))] r sout :=
 AM func151 78 [] [.q,.q,.aN [0,1,4,7,8]] True.intro hL
theorem eo(b c:Nat)(v:Ws)(d g:Nat)(i:Ws)(v1:UInt32)(j s s1:Nat)(w:UInt32)(z:Nat){r:EV}{sout:aG}{sin:aG}(hs:sin.all (fun p=>Nat.ble fn.ntmps p.1)=true)(h1:g<c)(h2:i[b+g]? = some v1)(h3:Cp 153 [aa v,(vI (g:Int))] (vU j))(h4:(v1.toNat+j)%18446744073709551616=s)(h5:(d+s)%18446744073709551616=s1)(h6:s1%4294967296=w.toNat)(h7:(b+g)<i.length)(h8:s1/2^(min 32 64)=z)(h9:(g+1)<9223372036854775808)(hL:au b c v z (g+1) (i.set (b+g) w) sin r sout):au b c v d g i sin r sout :=
 xQ 129 [1,2,1,1,1,1,1,1,2,2,1,1] [.a,.q,.t,.q,dr 11 1 [.none,.none,.none,(.nat g),(.ev (.pv (vW v1))),iU v1.toNat,.none,.none,(.pv (vU j)),iU s,iU s1],.aR [.o,.o,.o,iW w,(.nat g),(.cells (.pure (((i.set (b+g) w):Ws).map af).flatten))],.h 1 (iU z),.h 0 (iI (((g+1):Nat):Int)),.aN [0,1,4,7,8]] hs (Ki (ax h1) (cj (Eq.refl (((g:Nat):Int):Int)) h1) (lY (enc:=af) (f:=fun a=>(vW a)) (fun _=>rfl) h2) (mq v1) h3 (dp h4) (dp h5) (cD h6) (cj (Eq.refl (((g:Nat):Int):Int)) h1) (B3 bm (i:Ws) w b g h7) (cN (k := .u64) h8) (aH h9)) hL
theorem ew(b c:Nat)(v:Ws)(d g:Nat)(i:Ws){sin:aG}(hs:sin.all (fun p=>Nat.ble fn.ntmps p.1)=true)(hi:sin.all (fun p=>pN p.1||(aG.get [(100000,(.pure ((i:Ws).map af).flatten))] p.1).isSome)=true)(h1:c≤g):au b c v d g i sin (.pv (.bx [])) [(100000,(.pure ((i:Ws).map af).flatten))] :=
 wv 105 [1] [.a,.q,.f,.ord [100000]] hs hi (y1 (ay h1))
end lk
namespace ll
@[reducible] def fn:Func:=Tryz.f152
def bM:List eh:=focus [0,2,0,2,0,0,2,0,0] [.code (az fn)]
def inv1(a:List UInt32)(n:Int)(Nq:Nat)(ie:List UInt32):St:=⟨[(0,(.pv (aa a))),(1,(eI n)),(5,(.row 9 0 a.length 1)),(11,(eI (a.length:Int))),(12,(eI (Nq:Int)))],[(9,(.pure ((ie:List UInt32).map af).flatten))]⟩
@[reducible] def au(a:List UInt32)(n:Int)(Nq:Nat)(ie:List UInt32)(r:PV):Prop:=L bp fn bM (inv1 a n Nq ie) r
theorem e0(a:Ws)(n:Int){r:PV}(h1:4*a.length≤140737488355328)(hL:au a n 0 (List.replicate a.length (0:UInt32)) r):Cp 152 [aa a,vI n] r :=
 eG func152 87 [1,5,1] [.q,.aR [.o,(iI (a.length:Int)),(.app a.length ((List.replicate a.length (0:UInt32):Ws).map af).flatten)],.h 1 (iI (a.length:Int)),.aN [0,1,5,11,12]] (y3 (ar af a) (sX af 0 4 a.length (Eq.refl (((a.length:Nat):Int):Int)) h1 rfl) (ar af a)) hL
theorem eo(a:Ws)(n:Int)(b:Nat)(c:Ws)(v:UInt32)(d z z1 k z2:Nat)(w:UInt32){r:PV}(h1:b<a.length)(h2:a[b]? = some v)(h3:(b+1)<9223372036854775808)(h4:Cp 153 [aa a,(vI (((b+1):Nat):Int))] (vU d))(h5:(d*2^(min 32 64))%18446744073709551616=z)(h6:(v.toNat%18446744073709551616) ||| (z%18446744073709551616)=z1)(h7:n=(k:Int))(h8:z1/2^(min k 64)=z2)(h9:z2%4294967296=w.toNat)(bg:b<c.length)(hL:au a n (b+1) (c.set b w) r):au a n b c r :=
 lG 126 [1,3,1,1,1,1,1,1,1,2,2,1] [.a,.q,.t,.q,dr 17 1 [.none,.none,.none,.none,(.row b (af v)),.none,iU v.toNat,.none,.none,(iI (((b+1):Nat):Int)),(.pv (vU d)),iU z,iU z1,.none,iU z2,iW w,(.nat b),(.cells (.pure (((c.set b w):Ws).map af).flatten))],.h 0 (iI (((b+1):Nat):Int)),.aN [0,1,5,11,12]] (Ki (ax h1) (aY af (Eq.refl (((b:Nat):Int):Int)) h2) (mq v) (aH h3) h4 (gZ (k := .u64) h5) (lX h6) (Ni h7 (cN (k := .i64) h8)) (cD h9) (cj (Eq.refl (((b:Nat):Int):Int)) h1) (fO bm (c:Ws) w bg) (aH h3)) hL
theorem ew(a:Ws)(n:Int)(b:Nat)(c d:Ws)(h1:a.length≤b)(h2:a.length=c.length)(h3:Cp 138 [aa c] (aa d)):au a n b c (aa d) :=
 lD 120 [1,3,1] [.a,.q,.f,.lK 5 ((c:Ws).map af),.h 1 (.pv (aa d))] (y3 (ay h1) (eM bm (c:Ws) h2) h3)
end ll
namespace qG
theorem e0(m:Ws)(i:Int)(k:Nat)(v:UInt32)(h1:i<(m.length:Int))(h2:i=(k:Int))(h3:m[k]? = some v):Cp 153 [aa m,vI i] (vU v.toNat) :=
 eD func153 84 [1,1,3,1] [.q,.h 2 (iI (m.length:Int)),.t,.aR [.o,.o,(.row k (af v)),.o,iU v.toNat]] (y4 (ar af m) (bd h1) (aY af h2 h3) (mq v))
theorem e1(m:Ws)(i:Int)(h1:(m.length:Int)≤i):Cp 153 [aa m,vI i] (vU 0) :=
 eD func153 87 [1,1] [.q,.h 2 (iI (m.length:Int)),.f,.q] (y2 (ar af m) (ba h1))
end qG
namespace iC
theorem e0(x z z1:UInt32)(m b:Nat)(h1:65536≤x.toNat)(h2:x.toNat/2^(min 16 32)=z.toNat)(h3:256≤z.toNat)(h4:z.toNat/2^(min 8 32)=z1.toNat)(h5:z1.toNat%256=m)(h6:((ByteArray.mk #[0,1,2,2,3,3,3,3,4,4,4,4,4,4,4,4,5,5,5,5,5,5,5,5,5,5,5,5,5,5,5,5,6,6,6,6,6,6,6,6,6,6,6,6,6,6,6,6,6,6,6,6,6,6,6,6,6,6,6,6,6,6,6,6,7,7,7,7,7,7,7,7,7,7,7,7,7,7,7,7,7,7,7,7,7,7,7,7,7,7,7,7,7,7,7,7,7,7,7,7,7,7,7,7,7,7,7,7,7,7,7,7,7,7,7,7,7,7,7,7,7,7,7,7,7,7,7,7,8,8,8,8,8,8,8,8,8,8,8,8,8,8,8,8,8,8,8,8,8,8,8,8,8,8,8,8,8,8,8,8,8,8,8,8,8,8,8,8,8,8,8,8,8,8,8,8,8,8,8,8,8,8,8,8,8,8,8,8,8,8,8,8,8,8,8,8,8,8,8,8,8,8,8,8,8,8,8,8,8,8,8,8,8,8,8,8,8,8,8,8,8,8,8,8,8,8,8,8,8,8,8,8,8,8,8,8,8,8,8,8,8,8,8,8,8,8,8,8,8,8,8,8,8,8,8,8]).data.toList[m]?).map (fun b=>(b.toNat:Int))=some (b:Int))(h7:b<9223372036854775808)(h8:(24+b)<9223372036854775808):Cp 165 [vW x] (vI (((24+b):Nat):Int)) :=
 eD func165 114 [1,1,1,1,1,2,1,1] [.q,.q,.t,.h 1 (iW z),.q,.q,.t,.h 1 (iW z1),.q,.aR [.o,.o,(.pv (.int .u8 (m:Int))),(.row m [.int .u8 (b:Int)]),(iI (b:Int)),(iI (((24+b):Nat):Int))]] (y8 (bB h1) (kj (k := .u64) h2) (bB h3) (kj (k := .u64) h4) (zy h5) (cj (Eq.refl (((m:Nat):Int):Int)) h6) (u0 h7) (aH h8))
theorem e1(x z:UInt32)(m b:Nat)(h1:65536≤x.toNat)(h2:x.toNat/2^(min 16 32)=z.toNat)(h3:z.toNat<256)(h4:z.toNat%256=m)(h5:((ByteArray.mk #[0,1,2,2,3,3,3,3,4,4,4,4,4,4,4,4,5,5,5,5,5,5,5,5,5,5,5,5,5,5,5,5,6,6,6,6,6,6,6,6,6,6,6,6,6,6,6,6,6,6,6,6,6,6,6,6,6,6,6,6,6,6,6,6,7,7,7,7,7,7,7,7,7,7,7,7,7,7,7,7,7,7,7,7,7,7,7,7,7,7,7,7,7,7,7,7,7,7,7,7,7,7,7,7,7,7,7,7,7,7,7,7,7,7,7,7,7,7,7,7,7,7,7,7,7,7,7,7,8,8,8,8,8,8,8,8,8,8,8,8,8,8,8,8,8,8,8,8,8,8,8,8,8,8,8,8,8,8,8,8,8,8,8,8,8,8,8,8,8,8,8,8,8,8,8,8,8,8,8,8,8,8,8,8,8,8,8,8,8,8,8,8,8,8,8,8,8,8,8,8,8,8,8,8,8,8,8,8,8,8,8,8,8,8,8,8,8,8,8,8,8,8,8,8,8,8,8,8,8,8,8,8,8,8,8,8,8,8,8,8,8,8,8,8,8,8,8,8,8,8,8,8,8,8,8,8]).data.toList[m]?).map (fun b=>(b.toNat:Int))=some (b:Int))(h6:b<9223372036854775808)(h7:(16+b)<9223372036854775808):Cp 165 [vW x] (vI (((16+b):Nat):Int)) :=
 eD func165 108 [1,1,1,1,2,1,1] [.q,.q,.t,.h 1 (iW z),.q,.q,.f,.aR [.o,.o,(.pv (.int .u8 (m:Int))),(.row m [.int .u8 (b:Int)]),(iI (b:Int)),(iI (((16+b):Nat):Int))]] (y7 (bB h1) (kj (k := .u64) h2) (aZ h3) (zy h4) (cj (Eq.refl (((m:Nat):Int):Int)) h5) (u0 h6) (aH h7))
theorem e2(x z:UInt32)(m b:Nat)(h1:x.toNat<65536)(h2:256≤x.toNat)(h3:x.toNat/2^(min 8 32)=z.toNat)(h4:z.toNat%256=m)(h5:((ByteArray.mk #[0,1,2,2,3,3,3,3,4,4,4,4,4,4,4,4,5,5,5,5,5,5,5,5,5,5,5,5,5,5,5,5,6,6,6,6,6,6,6,6,6,6,6,6,6,6,6,6,6,6,6,6,6,6,6,6,6,6,6,6,6,6,6,6,7,7,7,7,7,7,7,7,7,7,7,7,7,7,7,7,7,7,7,7,7,7,7,7,7,7,7,7,7,7,7,7,7,7,7,7,7,7,7,7,7,7,7,7,7,7,7,7,7,7,7,7,7,7,7,7,7,7,7,7,7,7,7,7,8,8,8,8,8,8,8,8,8,8,8,8,8,8,8,8,8,8,8,8,8,8,8,8,8,8,8,8,8,8,8,8,8,8,8,8,8,8,8,8,8,8,8,8,8,8,8,8,8,8,8,8,8,8,8,8,8,8,8,8,8,8,8,8,8,8,8,8,8,8,8,8,8,8,8,8,8,8,8,8,8,8,8,8,8,8,8,8,8,8,8,8,8,8,8,8,8,8,8,8,8,8,8,8,8,8,8,8,8,8,8,8,8,8,8,8,8,8,8,8,8,8,8,8,8,8,8,8]).data.toList[m]?).map (fun b=>(b.toNat:Int))=some (b:Int))(h6:b<9223372036854775808)(h7:(8+b)<9223372036854775808):Cp 165 [vW x] (vI (((8+b):Nat):Int)) :=
 eD func165 108 [1,1,1,1,2,1,1] [.q,.q,.f,.q,.t,.h 1 (iW z),.q,.aR [.o,.o,(.pv (.int .u8 (m:Int))),(.row m [.int .u8 (b:Int)]),(iI (b:Int)),(iI (((8+b):Nat):Int))]] (y7 (aZ h1) (bB h2) (kj (k := .u64) h3) (zy h4) (cj (Eq.refl (((m:Nat):Int):Int)) h5) (u0 h6) (aH h7))
theorem e3(x:UInt32)(m b:Nat)(h1:x.toNat<65536)(h2:x.toNat<256)(h3:x.toNat%256=m)(h4:((ByteArray.mk #[0,1,2,2,3,3,3,3,4,4,4,4,4,4,4,4,5,5,5,5,5,5,5,5,5,5,5,5,5,5,5,5,6,6,6,6,6,6,6,6,6,6,6,6,6,6,6,6,6,6,6,6,6,6,6,6,6,6,6,6,6,6,6,6,7,7,7,7,7,7,7,7,7,7,7,7,7,7,7,7,7,7,7,7,7,7,7,7,7,7,7,7,7,7,7,7,7,7,7,7,7,7,7,7,7,7,7,7,7,7,7,7,7,7,7,7,7,7,7,7,7,7,7,7,7,7,7,7,8,8,8,8,8,8,8,8,8,8,8,8,8,8,8,8,8,8,8,8,8,8,8,8,8,8,8,8,8,8,8,8,8,8,8,8,8,8,8,8,8,8,8,8,8,8,8,8,8,8,8,8,8,8,8,8,8,8,8,8,8,8,8,8,8,8,8,8,8,8,8,8,8,8,8,8,8,8,8,8,8,8,8,8,8,8,8,8,8,8,8,8,8,8,8,8,8,8,8,8,8,8,8,8,8,8,8,8,8,8,8,8,8,8,8,8,8,8,8,8,8,8,8,8,8,8,8,8]).data.toList[m]?).map (fun b=>(b.toNat:Int))=some (b:Int))(h5:b<9223372036854775808)(h6:(0+b)<9223372036854775808):Cp 165 [vW x] (vI (((0+b):Nat):Int)) :=
 eD func165 102 [1,1,1,2,1,1] [.q,.q,.f,.q,.f,.aR [.o,.o,(.pv (.int .u8 (m:Int))),(.row m [.int .u8 (b:Int)]),(iI (b:Int)),(iI (((0+b):Nat):Int))]] (y6 (aZ h1) (aZ h2) (zy h3) (cj (Eq.refl (((m:Nat):Int):Int)) h4) (u0 h5) (aH h6))
end iC
namespace q6
theorem e7(x m b:Nat)(h1:x<4294967296)(h2:x<65536)(h3:x<256)(h4:x%256=m)(h5:((ByteArray.mk #[0,1,2,2,3,3,3,3,4,4,4,4,4,4,4,4,5,5,5,5,5,5,5,5,5,5,5,5,5,5,5,5,6,6,6,6,6,6,6,6,6,6,6,6,6,6,6,6,6,6,6,6,6,6,6,6,6,6,6,6,6,6,6,6,7,7,7,7,7,7,7,7,7,7,7,7,7,7,7,7,7,7,7,7,7,7,7,7,7,7,7,7,7,7,7,7,7,7,7,7,7,7,7,7,7,7,7,7,7,7,7,7,7,7,7,7,7,7,7,7,7,7,7,7,7,7,7,7,8,8,8,8,8,8,8,8,8,8,8,8,8,8,8,8,8,8,8,8,8,8,8,8,8,8,8,8,8,8,8,8,8,8,8,8,8,8,8,8,8,8,8,8,8,8,8,8,8,8,8,8,8,8,8,8,8,8,8,8,8,8,8,8,8,8,8,8,8,8,8,8,8,8,8,8,8,8,8,8,8,8,8,8,8,8,8,8,8,8,8,8,8,8,8,8,8,8,8,8,8,8,8,8,8,8,8,8,8,8,8,8,8,8,8,8,8,8,8,8,8,8,8,8,8,8,8,8]).data.toList[m]?).map (fun b=>(b.toNat:Int))=some (b:Int))(h6:b<9223372036854775808)(h7:(0+b)<9223372036854775808):Cp 166 [vU x] (vI (((0+b):Nat):Int)) :=
 eD func166 117 [1,1,1,1,2,1,1] [.q,.q,.f,.q,.f,.q,.f,.aR [.o,.o,(.pv (.int .u8 (m:Int))),(.row m [.int .u8 (b:Int)]),(iI (b:Int)),(iI (((0+b):Nat):Int))]] (y7 (aZ h1) (aZ h2) (aZ h3) (zy h4) (cj (Eq.refl (((m:Nat):Int):Int)) h5) (u0 h6) (aH h7))
end q6
end Go.Proofs.YtfjfekodeplcoaaGreat.Sym.Path
end
