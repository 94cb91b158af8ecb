/- Lemmas for the statements of this seat. -/
import Derived.Test.YtnjhplhbmapclaaGreatDoorT0
noncomputable section
namespace Go.Proofs.YtnjhplhbmapclaaGreatDoor.Sym.Path
open Go Tryz
set_option maxRecDepth 20000
set_option linter.unusedVariables false
namespace jL
theorem e0(a:aj)(b:Ws)(h1:Cp 77 [a.pv] (aa b))(h2:b.length=0):Cp 47 [a.pv] (vI 0) :=
 eD func47 87 [1,1,1] [.q,.aI [.o,(.pv (aa b)),(iI (b.length:Int))],.t,.q] (y3 h1 (ak ab b) (aA h2))
theorem e1(a:aj)(b:Ws)(h1:Cp 77 [a.pv] (aa b))(h2:b.length≠0)(h3:a.neg=true):Cp 47 [a.pv] (vI (-1)) :=
 eD func47 96 [1,1,1,1] [.q,.aI [.o,(.pv (aa b)),(iI (b.length:Int))],.f,.q,.t,.q] (y4 h1 (ak ab b) (av h2) h3)
theorem e2(a:aj)(b:Ws)(h1:Cp 77 [a.pv] (aa b))(h2:b.length≠0)(h3:a.neg=false):Cp 47 [a.pv] (vI 1) :=
 eD func47 102 [1,1,1,1] [.q,.aI [.o,(.pv (aa b)),(iI (b.length:Int))],.f,.q,.f,.q] (y4 h1 (ak ab b) (av h2) h3)
end jL
namespace iX
theorem e0(a b:aj)(c d:Int)(h1:Cp 47 [a.pv] (vI c))(h2:Cp 47 [b.pv] (vI d))(h3:c≠d)(h4:c<d):Cp 48 [a.pv,b.pv] (vI (-1)) :=
 eD func48 102 [1,1,1,1] [.q,dr 4 2 [.none,(.pv (vI c)),.none,(.pv (vI d))],.q,.t,.q,.t,.q] (y4 h1 h2 (AP h3) (cA h4))
theorem e1(a b:aj)(c d:Int)(h1:Cp 47 [a.pv] (vI c))(h2:Cp 47 [b.pv] (vI d))(h3:c≠d)(h4:d≤c):Cp 48 [a.pv,b.pv] (vI 1) :=
 eD func48 105 [1,1,1,1] [.q,dr 4 2 [.none,(.pv (vI c)),.none,(.pv (vI d))],.q,.t,.q,.f,.q] (y4 h1 h2 (AP h3) (cY h4))
theorem e2(a b:aj)(c d:Int)(g i:Ws)(j:Int)(k:Bool)(h1:Cp 47 [a.pv] (vI c))(h2:Cp 47 [b.pv] (vI d))(h3:c=d)(h4:Cp 77 [a.pv] (aa g))(h5:Cp 77 [b.pv] (aa i))(h6:Cp 78 [aa g,aa i] (vI j))(h7:Cp 79 [a.pv] (vB k))(h8:k=true)(h9:ar (-j)):Cp 48 [a.pv,b.pv] (vI (-j)) :=
 eD func48 111 [1,1,1,1,1,1,1,1,1] [.q,dr 4 2 [.none,(.pv (vI c)),.none,(.pv (vI d))],.q,.f,dr 5 1 [.none,(.pv (aa g)),.none,(.pv (aa i)),(.pv (vI j))],.h 1 (.pv (vB k)),.t,.h 1 (iI (-j))] (y9 h1 h2 (Dg h3) h4 h5 h6 h7 h8 (Hd h9))
theorem e3(a b:aj)(c d:Int)(g i:Ws)(j:Int)(k:Bool)(h1:Cp 47 [a.pv] (vI c))(h2:Cp 47 [b.pv] (vI d))(h3:c=d)(h4:Cp 77 [a.pv] (aa g))(h5:Cp 77 [b.pv] (aa i))(h6:Cp 78 [aa g,aa i] (vI j))(h7:Cp 79 [a.pv] (vB k))(h8:k=false):Cp 48 [a.pv,b.pv] (vI j) :=
 eD func48 114 [1,1,1,1,1,1,1,1] [.q,dr 4 2 [.none,(.pv (vI c)),.none,(.pv (vI d))],.q,.f,dr 5 1 [.none,(.pv (aa g)),.none,(.pv (aa i)),(.pv (vI j))],.h 1 (.pv (vB k)),.f,.q] (y8 h1 h2 (Dg h3) h4 h5 h6 h7 h8)
end iX
namespace ei
@[reducible] def fn:Func:=Tryz.f50
def bg:List dB:=focus [0,2,0,2,0,0,2,1,2,0,2,0,0,0] [.code (az fn)]
def inv1(Dp:List UInt32)(wD:List ByteArray)(a:aj):St:=⟨[(1,(.ptr 1 0)),(3,(.pv (aa Dp))),(4,(.pv (qm db wD)))],[(1,(.lit [(eB a.neg),(.pv (aa a.bw))]))]⟩
@[reducible] def ag(Dp:List UInt32)(wD:List ByteArray)(a:aj)(r:PV):Prop:=L bh fn bg (inv1 Dp wD a) r
theorem e0(a:aj)(b:Ws)(h1:Cp 77 [a.pv] (aa b))(h2:b.length=0):Cp 50 [a.pv] (.str (ByteArray.mk #[48])) :=
 eD func50 90 [1,1,1] [.q,.h 1 (.pv (aa b)),.h 1 (iI (b.length:Int)),.t,.q] (y3 h1 (ak ab b) (aA h2))
theorem e1(a:aj)(b:Ws){r:PV}(h1:Cp 77 [a.pv] (aa b))(h2:b.length≠0)(hL:ag b [] a r):Cp 50 [a.pv] r :=
 eG func50 102 [1,1,1] [.q,.h 1 (.pv (aa b)),.h 1 (iI (b.length:Int)),.f,.q,.aB [1,3,4]] (y3 h1 (ak ab b) (av h2)) hL
theorem cW(b:Ws)(c:List ByteArray)(a:aj)(d:Ws)(g:UInt32)(i:ByteArray){r:PV}(h1:0<b.length)(h2:Cp 80 [aa b,(vW (1000000000:UInt32))] (.aY [aa d,vW g]))(h3:Cp 22 [(vI (g.toNat:Int))] (.str i))(h4:d.length≤0)(h5:(([i]++c):List ByteArray).length*16≤140737488355328)(hL:ag d ([i]++c) a r):ag b c a r :=
 lG 162 [1,1,1,1,1,1,1,6,3] [.a,.h 1 (iI (b.length:Int)),.t,.q,.h 1 (.pv (.aY [aa d,vW g])),.aI [.o,(iI (g.toNat:Int)),(.pv (.str i))],.h 1 (iI (d.length:Int)),.f,.h 3 (.app (([i]++c):List ByteArray).length ((([i]++c):List ByteArray).map db).flatten),.eQ 4 ((([i]++c):List ByteArray).map db),.aB [1,3,4]] (y9 (ak ab b) (af h1) h2 (Ji g) h3 (ak ab d) (an h4) (qT qR ([i]:List ByteArray) (c:List ByteArray) 16 (Eq.refl ([i]:List ByteArray).length) h5 rfl) (cM qR (([i]++c):List ByteArray) (Eq.refl (([i]++c):List ByteArray).length))) hL
theorem mD(b:Ws)(c:List ByteArray)(a:aj)(d:ByteArray)(g:Bool)(h1:b.length≤0)(h2:Cp 23 [qm db c,(.str (ByteArray.mk #[]))] (.str d))(h3:Cp 79 [a.pv] (vB g))(h4:g=true)(h5:(ByteArray.mk #[45]).size+d.size<9223372036854775808):ag b c a (.str ((ByteArray.mk #[45])++d)) :=
 lD 156 [1,1,1,1,1,1] [.a,.h 1 (iI (b.length:Int)),.f,.h 1 (.pv (.str d)),.h 1 (.pv (vB g)),.t,.h 1 (.pv (.str ((ByteArray.mk #[45])++d))),.q] (y6 (ak ab b) (an h1) h2 h3 h4 (bI h5))
theorem zE(b:Ws)(c:List ByteArray)(a:aj)(d:ByteArray)(g:Bool)(h1:b.length≤0)(h2:Cp 23 [qm db c,(.str (ByteArray.mk #[]))] (.str d))(h3:Cp 79 [a.pv] (vB g))(h4:g=false):ag b c a (.str d) :=
 lD 156 [1,1,1,1,1] [.a,.h 1 (iI (b.length:Int)),.f,.h 1 (.pv (.str d)),.h 1 (.pv (vB g)),.f,.q] (y5 (ak ab b) (an h1) h2 h3 h4)
end ei
namespace k6
theorem e0(a:aj)(h1:a.bw.length=0):Cp 60 [a.pv] (vB (!a.neg)) :=
 eD func60 84 [1,1] [.q,.h 2 (iI (a.bw.length:Int)),.t,.q] (y2 (ak ab a.bw) (aA h1))
theorem e1(a:aj)(k:Nat)(v:UInt32)(h1:a.bw.length≠0)(h2:ar ((a.bw.length:Int)-1))(h3:((a.bw.length:Int)-1)=(k:Int))(h4:a.bw[k]? = some v):Cp 60 [a.pv] (vB ((v.toNat:Int) != 0)) :=
 eD func60 87 [1,1,1,1,3] [.q,.h 2 (iI (a.bw.length:Int)),.f,.aI [.o,.o,.o,.o,(iI (a.bw.length:Int)),(iI ((a.bw.length:Int)-1)),(.row k (ab v))]] (y5 (ak ab a.bw) (av h1) (ak ab a.bw) (aG h2) (bd ab h3 h4))
end k6
namespace gJ
@[reducible] def fn:Func:=Tryz.f61
def bg:List dB:=focus [0,2,0,2,0,0,0] [.code (az fn)]
def inv1(Lt Lu:List UInt32):St:=⟨[(4,(.ptr 4 0)),(5,(.pv (aa Lt))),(6,(.pv (aa Lu)))],[(4,(.lit [(eB false),(.pv (.list []))]))]⟩
@[reducible] def ag(Lt Lu:List UInt32)(r:PV):Prop:=L bh fn bg (inv1 Lt Lu) r
theorem e0(a b:aj)(c d:Ws){r:PV}(h1:Cp 77 [a.pv] (aa c))(h2:Cp 77 [b.pv] (aa d))(hL:ag c d r):Cp 61 [a.pv,b.pv] r :=
 eG func61 81 [1,1] [.q,dr 4 2 [.none,(.pv (aa c)),.none,(.pv (aa d))],.aB [4,5,6],.drop [3,2]] (y2 h1 h2) hL
theorem l10(b c d g:Ws){r:PV}(h1:0<c.length)(h2:Cp 89 [aa b,aa c] (.aY [aa d,aa g]))(hL:ag c g r):ag b c r :=
 lG 114 [1,1,1] [.a,.h 1 (iI (c.length:Int)),.t,.h 2 (.pv (.aY [aa d,aa g])),.q,.aB [4,5,6]] (y3 (ak ab c) (af h1) h2) hL
theorem cW(b c:Ws)(d:aj)(h1:c.length≤0)(h2:Cp 90 [vB false,aa b] d.pv):ag b c d.pv :=
 lD 114 [1,1,1] [.a,.h 1 (iI (c.length:Int)),.f,.h 1 (.pv d.pv)] (y3 (ak ab c) (an h1) h2)
end gJ
namespace kG
theorem e0(a b:aj)(c d:Ws)(g i j:Bool)(k:Ws)(l:aj)(h1:Cp 77 [a.pv] (aa c))(h2:Cp 77 [b.pv] (aa d))(h3:Cp 79 [a.pv] (vB g))(h4:Cp 79 [b.pv] (vB i))(h5:g=i)(h6:Cp 79 [a.pv] (vB j))(h7:Cp 95 [aa c,aa d] (aa k))(h8:Cp 90 [vB j,aa k] l.pv):Cp 66 [a.pv,b.pv] l.pv :=
 eD func66 93 [1,1,1,1,1,1,1,1] [.q,dr 4 2 [.none,(.pv (aa c)),.none,(.pv (aa d))],dr 5 1 [.none,(.pv (vB g)),.none,(.pv (vB i))],.t,.aI [.o,(.pv (vB j)),.o,.o,(.pv (aa k)),(.pv l.pv)]] (y8 h1 h2 h3 h4 (kE h5) h6 h7 h8)
theorem e1(a b:aj)(c d:Ws)(g i:Bool)(j:Int)(k:Bool)(l:Ws)(m:aj)(h1:Cp 77 [a.pv] (aa c))(h2:Cp 77 [b.pv] (aa d))(h3:Cp 79 [a.pv] (vB g))(h4:Cp 79 [b.pv] (vB i))(h5:g≠i)(h6:Cp 78 [aa c,aa d] (vI j))(h7:0≤j)(h8:Cp 79 [a.pv] (vB k))(h9:Cp 96 [aa c,aa d] (aa l))(cL:Cp 90 [vB k,aa l] m.pv):Cp 66 [a.pv,b.pv] m.pv :=
 eD func66 102 [1,1,1,1,1,1,1,1,1,1] [.q,dr 4 2 [.none,(.pv (aa c)),.none,(.pv (aa d))],dr 5 1 [.none,(.pv (vB g)),.none,(.pv (vB i))],.f,.h 2 (.pv (vI j)),.t,.aI [.o,(.pv (vB k)),.o,.o,(.pv (aa l)),(.pv m.pv)]] (Eu h1 h2 h3 h4 (om h5) h6 (di h7) h8 h9 cL)
theorem e2(a b:aj)(c d:Ws)(g i:Bool)(j:Int)(k:Bool)(l:Ws)(m:aj)(h1:Cp 77 [a.pv] (aa c))(h2:Cp 77 [b.pv] (aa d))(h3:Cp 79 [a.pv] (vB g))(h4:Cp 79 [b.pv] (vB i))(h5:g≠i)(h6:Cp 78 [aa c,aa d] (vI j))(h7:j<0)(h8:Cp 79 [b.pv] (vB k))(h9:Cp 96 [aa d,aa c] (aa l))(cL:Cp 90 [vB k,aa l] m.pv):Cp 66 [a.pv,b.pv] m.pv :=
 eD func66 108 [1,1,1,1,1,1,1,1,1,1] [.q,dr 4 2 [.none,(.pv (aa c)),.none,(.pv (aa d))],dr 5 1 [.none,(.pv (vB g)),.none,(.pv (vB i))],.f,.h 2 (.pv (vI j)),.f,.aI [.o,(.pv (vB k)),.o,.o,(.pv (aa l)),(.pv m.pv)]] (Eu h1 h2 h3 h4 (om h5) h6 (jx h7) h8 h9 cL)
end kG
namespace rF
theorem e0(a b:aj)(c d:Bool)(g i j:Ws)(k:aj)(h1:Cp 79 [a.pv] (vB c))(h2:Cp 79 [b.pv] (vB d))(h3:Cp 77 [a.pv] (aa g))(h4:Cp 77 [b.pv] (aa i))(h5:Cp 97 [aa g,aa i] (aa j))(h6:Cp 90 [(vB (!(c==d))),aa j] k.pv):Cp 67 [a.pv,b.pv] k.pv :=
 eD func67 72 [1,1,1,1,1,1] [.q,dr 11 1 [.none,(.pv (vB c)),.none,(.pv (vB d)),.none,.none,(.pv (aa g)),.none,(.pv (aa i)),(.pv (aa j)),(.pv k.pv)]] (y6 h1 h2 h3 h4 h5 h6)
end rF
namespace oP
theorem e0(n:Int)(m m1:Nat)(w:UInt32)(z:Nat)(w1:UInt32)(a:aj)(h1:n%18446744073709551616=(m:Int))(h2:n<0)(h3:(0-(m:Int))%18446744073709551616=(m1:Int))(h4:m1%4294967296=w.toNat)(h5:m1/2^(min 32 64)=z)(h6:z%4294967296=w1.toNat)(h7:Cp 90 [(vB (decide (n<0))),(aa [w,w1])] a.pv):Cp 73 [vI n] a.pv :=
 eD func73 93 [1,1,1,1,1,1,3,1] [.q,.h 1 (iU m),.q,.t,.h 1 (iU m1),.aI [.o,.o,.o,iW w,.o,iU z,iW w1,(.kV 0 0 (([w,w1]:Ws).map ab)),(.pv a.pv)]] (y8 (wA h1) (cA h2) (tM h3) (bp h4) (bA (k := .u64) h5) (bp h6) (ln aF ([w,w1]:Ws)) h7)
theorem e1(n:Int)(m:Nat)(w:UInt32)(z:Nat)(w1:UInt32)(a:aj)(h1:n%18446744073709551616=(m:Int))(h2:0≤n)(h3:m%4294967296=w.toNat)(h4:m/2^(min 32 64)=z)(h5:z%4294967296=w1.toNat)(h6:Cp 90 [(vB (decide (n<0))),(aa [w,w1])] a.pv):Cp 73 [vI n] a.pv :=
 eD func73 93 [1,1,1,1,1,3,1] [.q,.h 1 (iU m),.q,.f,.aI [.o,.o,.o,iW w,.o,iU z,iW w1,(.kV 0 0 (([w,w1]:Ws).map ab)),(.pv a.pv)]] (y7 (wA h1) (cY h2) (bp h3) (bA (k := .u64) h4) (bp h5) (ln aF ([w,w1]:Ws)) h6)
end oP
namespace rG
theorem e0(a:aj)(b:Bool)(c:Ws)(d:aj)(h1:Cp 79 [a.pv] (vB b))(h2:Cp 77 [a.pv] (aa c))(h3:Cp 90 [(vB (!b)),aa c] d.pv):Cp 76 [a.pv] d.pv :=
 eD func76 72 [1,1,1] [.q,dr 6 1 [.none,(.pv (vB b)),.none,.none,(.pv (aa c)),(.pv d.pv)]] (y3 h1 h2 h3)
end rG
namespace nj
theorem e0(a:aj)(b:Bool)(h1:Cp 60 [a.pv] (vB b))(h2:b=false):Cp 77 [a.pv] (aa []) :=
 eD func77 84 [1,1] [.q,.h 1 (.pv (vB b)),.t,.q] (y2 h1 (cF h2))
theorem e1(a:aj)(b:Bool)(h1:Cp 60 [a.pv] (vB b))(h2:b=true):Cp 77 [a.pv] (aa a.bw) :=
 eD func77 87 [1,1] [.q,.h 1 (.pv (vB b)),.f,.q] (y2 h1 (bm h2))
end nj
namespace bZ
@[reducible] def fn:Func:=Tryz.f78
def bg:List dB:=focus [0,2,0,0,2,1,2,0,0,2,0,0] [.code (az fn)]
def inv1(a b:List UInt32)(tW:Int):St:=⟨[(0,(.pv (aa a))),(1,(.pv (aa b))),(5,(eI tW))],[]⟩
@[reducible] def ag(a b:List UInt32)(tW:Int)(r:PV):Prop:=L bh fn bg (inv1 a b tW) r
theorem e0(a b:Ws)(h1:a.length≠b.length)(h2:a.length<b.length):Cp 78 [aa a,aa b] (vI (-1)) :=
 eD func78 96 [1,1,1,1,1,1] [.q,.aI [.o,(iI (a.length:Int)),.o,(iI (b.length:Int))],.t,.aI [.o,(iI (a.length:Int)),.o,(iI (b.length:Int))],.t,.q] (y6 (ak ab a) (ak ab b) (iB h1) (ak ab a) (ak ab b) (af h2))
theorem e1(a b:Ws)(h1:a.length≠b.length)(h2:b.length≤a.length):Cp 78 [aa a,aa b] (vI 1) :=
 eD func78 99 [1,1,1,1,1,1] [.q,.aI [.o,(iI (a.length:Int)),.o,(iI (b.length:Int))],.t,.aI [.o,(iI (a.length:Int)),.o,(iI (b.length:Int))],.f,.q] (y6 (ak ab a) (ak ab b) (iB h1) (ak ab a) (ak ab b) (an h2))
theorem e2(a b:Ws){r:PV}(h1:a.length=b.length)(h2:ar ((a.length:Int)-1))(hL:ag a b ((a.length:Int)-1) r):Cp 78 [aa a,aa b] r :=
 eG func78 96 [1,1,1,1,1] [.q,.aI [.o,(iI (a.length:Int)),.o,(iI (b.length:Int))],.f,.aI [.o,(iI (a.length:Int)),(iI ((a.length:Int)-1))],.aB [0,1,5]] (y5 (ak ab a) (ak ab b) (lY h1) (ak ab a) (aG h2)) hL
theorem l10(a b:Ws)(c:Int)(k:Nat)(v:UInt32)(k1:Nat)(v1:UInt32)(k2:Nat)(v2:UInt32)(k3:Nat)(v3:UInt32)(h1:0≤c)(h2:c=(k:Int))(h3:a[k]? = some v)(h4:c=(k1:Int))(h5:b[k1]? = some v1)(h6:v.toNat≠v1.toNat)(h7:c=(k2:Int))(h8:a[k2]? = some v2)(h9:c=(k3:Int))(cL:b[k3]? = some v3)(ec:v2.toNat<v3.toNat):ag a b c (vI (-1)) :=
 lD 147 [1,3,3,1,3,3,1] [.a,.q,.t,dr 9 0 [.none,.none,(.row k (ab v)),.none,.none,.none,(.row k1 (ab v1))],.t,dr 9 0 [.none,.none,(.row k2 (ab v2)),.none,.none,.none,(.row k3 (ab v3))],.t,.q] (y7 (di h1) (bd ab h2 h3) (bd ab h4 h5) (iB h6) (bd ab h7 h8) (bd ab h9 cL) (af ec))
theorem cW(a b:Ws)(c:Int)(k:Nat)(v:UInt32)(k1:Nat)(v1:UInt32)(k2:Nat)(v2:UInt32)(k3:Nat)(v3:UInt32)(h1:0≤c)(h2:c=(k:Int))(h3:a[k]? = some v)(h4:c=(k1:Int))(h5:b[k1]? = some v1)(h6:v.toNat≠v1.toNat)(h7:c=(k2:Int))(h8:a[k2]? = some v2)(h9:c=(k3:Int))(cL:b[k3]? = some v3)(ec:v3.toNat≤v2.toNat):ag a b c (vI 1) :=
 lD 150 [1,3,3,1,3,3,1] [.a,.q,.t,dr 9 0 [.none,.none,(.row k (ab v)),.none,.none,.none,(.row k1 (ab v1))],.t,dr 9 0 [.none,.none,(.row k2 (ab v2)),.none,.none,.none,(.row k3 (ab v3))],.f,.q] (y7 (di h1) (bd ab h2 h3) (bd ab h4 h5) (iB h6) (bd ab h7 h8) (bd ab h9 cL) (an ec))
theorem mD(a b:Ws)(c:Int)(k:Nat)(v:UInt32)(k1:Nat)(v1:UInt32){r:PV}(h1:0≤c)(h2:c=(k:Int))(h3:a[k]? = some v)(h4:c=(k1:Int))(h5:b[k1]? = some v1)(h6:v.toNat=v1.toNat)(h7:ar (c-1))(hL:ag a b (c-1) r):ag a b c r :=
 lG 138 [1,3,3,1,1] [.a,.q,.t,dr 9 0 [.none,.none,(.row k (ab v)),.none,.none,.none,(.row k1 (ab v1))],.f,.h 1 (iI (c-1)),.aB [0,1,5]] (y5 (di h1) (bd ab h2 h3) (bd ab h4 h5) (lY h6) (aG h7)) hL
theorem zE(a b:Ws)(c:Int)(h1:c<0):ag a b c (vI 0) :=
 lD 129 [1] [.a,.q,.f,.q] (y1 (jx h1))
end bZ
namespace nk
theorem e0(a:aj)(b:Bool)(h1:Cp 60 [a.pv] (vB b))(h2:b=true):Cp 79 [a.pv] (vB a.neg) :=
 eD func79 72 [1,1,1,1] [.q,.aI [.o,(.pv (vB b)),.o,.o,.o,(.dec true)]] (y4 h1 h2 h2 h2)
theorem e1(a:aj)(b:Bool)(h1:Cp 60 [a.pv] (vB b))(h2:b=false):Cp 79 [a.pv] (vB false) :=
 eD func79 72 [1,1,1,1] [.q,.aI [.o,(.pv (vB b)),.o,.skip,.skip,(.dec false)]] (y4 h1 h2 h2 h2)
end nk
namespace gd
@[reducible] def fn:Func:=Tryz.f80
def bg:List dB:=focus [0,2,0,2,0,2,0,0,2,0,0] [.code (az fn)]
def inv1(a:List UInt32)(b:UInt32)(zF:Nat)(zG:Int)(l6:List UInt32):St:=⟨[(0,(.pv (aa a))),(1,(eW b)),(6,(.row 11 0 a.length 1)),(7,(eU zF)),(8,(eI zG))],[(11,(.pure ((l6:List UInt32).map ab).flatten))]⟩
@[reducible] def ag(a:List UInt32)(b:UInt32)(zF:Nat)(zG:Int)(l6:List UInt32)(r:PV):Prop:=L bh fn bg (inv1 a b zF zG l6) r
theorem e0(a:Ws)(b:UInt32){r:PV}(h1:4*a.length≤140737488355328)(h2:ar ((a.length:Int)-1))(hL:ag a b 0 ((a.length:Int)-1) (List.replicate a.length (0:UInt32)) r):Cp 80 [aa a,vW b] r :=
 eG func80 93 [1,5,1,1] [.q,.aI [.o,(iI (a.length:Int)),(.app a.length ((List.replicate a.length (0:UInt32):Ws).map ab).flatten)],.q,.aI [.o,(iI (a.length:Int)),(iI ((a.length:Int)-1))],.aB [0,1,6,7,8]] (y4 (ak ab a) (oK ab 0 4 a.length (Eq.refl (((a.length:Nat):Int):Int)) h1 rfl) (ak ab a) (aG h2)) hL
theorem l10(a:Ws)(b:UInt32)(c:Nat)(d:Int)(g:Ws)(z k:Nat)(v:UInt32)(z1 q:Nat)(w:UInt32)(k1 m:Nat){r:PV}(h1:0≤d)(h2:(c*2^(min 32 64))%18446744073709551616=z)(h3:d=(k:Int))(h4:a[k]? = some v)(h5:(z%18446744073709551616) ||| (v.toNat%18446744073709551616)=z1)(h6:b.toNat≠0)(h7:(z1/b.toNat)%18446744073709551616=q)(h8:q%4294967296=w.toNat)(h9:d=(k1:Int))(cL:k1<a.length)(ec:k1<g.length)(gp:z1%b.toNat=m)(jz:ar (d-1))(hL:ag a b m (d-1) (g.set k1 w) r):ag a b c d g r :=
 lG 138 [1,1,3,1,1,1,1,1,2,2,1,1,1] [.a,.q,.t,.aI [.o,iU z,.o,.o,(.row k (ab v)),.o,iU v.toNat,iU z1],.aI [.o,.o,.o,.o,iU b.toNat,iU q,iW w,(.nat k1),(.cells (.pure (((g.set k1 w):Ws).map ab).flatten))],.aI [.o,.o,iU b.toNat,iU m],.h 1 (iI (d-1)),.aB [0,1,6,7,8]] (Ew (di h1) (dG (k := .u64) h2) (bd ab h3 h4) (iA v) (gH h5) (iA b) (lX h6 h7) (bp h8) (cj h9 cL) (ee aF (g:Ws) w ec) (iA b) (j0 h6 gp) (aG jz)) hL
theorem cW(a:Ws)(b:UInt32)(c:Nat)(d:Int)(g i:Ws)(w:UInt32)(h1:d<0)(h2:a.length=g.length)(h3:Cp 104 [aa g] (aa i))(h4:c%4294967296=w.toNat):ag a b c d g (.aY [aa i,vW w]) :=
 lD 126 [1,3,1,1] [.a,.q,.f,.eQ 6 ((g:Ws).map ab),.aI [.o,(.pv (aa i)),.o,iW w]] (y4 (jx h1) (cM aF (g:Ws) h2) h3 (bp h4))
end gd
namespace aQ
@[reducible] def fn:Func:=Tryz.f89
def bg:List dB:=focus [0,2,0,0,2,1,2,0,0,2,1,2,0,2,0,2,0,2,0,2,0,0,2,0,0] [.code (az fn)]
def inv1(Hk:Int)(up b:List UInt32)(n m:Nat)(v1 v2:UInt32)(zH:Int)(l7 l8:List UInt32):St:=⟨[(8,(eI Hk)),(9,(.pv (aa (up.take b.length)))),(10,(.row 55 0 n 1)),(11,(.row 61 0 m 1)),(12,(eU v1.toNat)),(13,(eU v2.toNat)),(14,(eI zH))],[(55,(.pure ((l7:List UInt32).map ab).flatten)),(61,(.pure ((l8:List UInt32).map ab).flatten))]⟩
@[reducible] def ag(Hk:Int)(up b:List UInt32)(n m:Nat)(v1 v2:UInt32)(zH:Int)(l7 l8:List UInt32)(r:PV):Prop:=L bh fn bg (inv1 Hk up b n m v1 v2 zH l7 l8) r
def jt:List dB:=focus [0,2,0,0,2,1,2,0,0,2,1,2,0,2,0,2,0,2,0,2,0,0,2,0,0,0,0,0,2,0,2,0,0,0,2,0,2,0,2,0,0,0] [.code (az fn)]
def inv2(Hk:Int)(up b:List UInt32)(n m:Nat)(v1 v2:UInt32)(zH:Int)(l u tX wE:Nat)(l7 l8:List UInt32):St:=⟨[(8,(eI Hk)),(9,(.pv (aa (up.take b.length)))),(10,(.row 55 0 n 1)),(11,(.row 61 0 m 1)),(12,(eU v1.toNat)),(13,(eU v2.toNat)),(14,(eI zH)),(15,(.row 55 (0+l*1) (u-l) 1)),(17,(eU tX)),(18,(eU wE))],[(55,(.pure ((l7:List UInt32).map ab).flatten)),(61,(.pure ((l8:List UInt32).map ab).flatten))]⟩
@[reducible] def aM(Hk:Int)(up b:List UInt32)(n m:Nat)(v1 v2:UInt32)(zH:Int)(l u tX wE:Nat)(l7 l8:List UInt32)(r:PV):Prop:=L bh fn jt (inv2 Hk up b n m v1 v2 zH l u tX wE l7 l8) r
theorem e0(a b:Ws)(c:Int)(d:Ws)(h1:Cp 78 [aa a,aa b] (vI c))(h2:c<0)(h3:Cp 104 [aa a] (aa d)):Cp 89 [aa a,aa b] (.aY [(aa []),aa d]) :=
 eD func89 84 [1,1,1] [.q,.h 2 (.pv (vI c)),.t,.h 1 (.pv (aa d))] (y3 h1 (cA h2) h3)
theorem e1(a b:Ws)(c:Int)(v:UInt32)(d:Ws)(g:UInt32)(i:Ws)(h1:Cp 78 [aa a,aa b] (vI c))(h2:0≤c)(h3:b.length=1)(h4:b[0]? = some v)(h5:Cp 80 [aa a,vW v] (.aY [aa d,vW g]))(h6:Cp 104 [(aa [g])] (aa i)):Cp 89 [aa a,aa b] (.aY [aa d,aa i]) :=
 eD func89 105 [1,1,1,1,3,1,3,1] [.q,.h 2 (.pv (vI c)),.f,.h 1 (iI (b.length:Int)),.t,.aI [.o,.o,(.row 0 (ab v)),.o,(.pv (.aY [aa d,vW g]))],.aI [.o,.o,(.kV 0 0 (([g]:Ws).map ab)),(.pv (aa i))]] (y8 h1 (cY h2) (ak ab b) (aA h3) (bd ab (Eq.refl (0:Int)) h4) h5 (ln aF ([g]:Ws)) h6)
theorem e2(a b:Ws)(c:Int)(k:Nat)(v:UInt32)(d:Int)(up z:Ws)(n m k1:Nat)(v1:UInt32)(k2:Nat)(v2:UInt32){r:PV}(h1:Cp 78 [aa a,aa b] (vI c))(h2:0≤c)(h3:b.length≠1)(h4:ar ((b.length:Int)-1))(h5:((b.length:Int)-1)=(k:Int))(h6:b[k]? = some v)(h7:Cp 115 [vW v] (vI d))(h8:Cp 116 [aa b,vI d] (aa up))(h9:b.length≤up.length)(cL:aq bh 116 [.pv (aa a),.pv (vI d)] [] (.row 0 0 n 1) [(0,(.pure ((z:Ws).map ab).flatten))])(ec:ar ((n:Int)-(((up.take b.length).length:Nat):Int)))(gp:((n:Int)-(((up.take b.length).length:Nat):Int))=(m:Int))(jz:4*m≤140737488355328)(mG:ar ((((up.take b.length).length:Nat):Int)-1))(se:((((up.take b.length).length:Nat):Int)-1)=(k1:Int))(vY:(up.take b.length)[k1]? = some v1)(vr:ar ((((up.take b.length).length:Nat):Int)-2))(zI:((((up.take b.length).length:Nat):Int)-2)=(k2:Int))(Ci:(up.take b.length)[k2]? = some v2)(Lv:ar ((m:Int)-1))(hL:ag d up b n m v1 v2 ((m:Int)-1) z (List.replicate m (0:UInt32)) r):Cp 89 [aa a,aa b] r :=
 eG func89 135 [1,1,1,1,1,1,3,1,1,1,6,1,1,1,5,1,1,3,1,1,1,3,1,1] [.q,.h 2 (.pv (vI c)),.f,.h 1 (iI (b.length:Int)),.f,.aI [.o,.o,(iI (b.length:Int)),(iI ((b.length:Int)-1)),(.row k (ab v)),.o,(.pv (vI d))],dr 9 2 [.none,.none,(.pv (aa up)),.none,(iI (b.length:Int)),(.kV 0 b.length (((up.take b.length):Ws).map ab)),.none,.none,(.bz [] (some (0,55)) (.row 0 0 n 1) [(0,(.pure ((z:Ws).map ab).flatten))])],.aI [.o,.o,.o,(iI (((up.take b.length).length:Nat):Int)),(iI ((n:Int)-(((up.take b.length).length:Nat):Int))),(.app m ((List.replicate m (0:UInt32):Ws).map ab).flatten)],dr 15 1 [.none,.none,(iI (((up.take b.length).length:Nat):Int)),(iI ((((up.take b.length).length:Nat):Int)-1)),(.row k1 (ab v1)),.none,iU v1.toNat,.none,.none,(iI (((up.take b.length).length:Nat):Int)),(iI ((((up.take b.length).length:Nat):Int)-2)),(.row k2 (ab v2)),.none,iU v2.toNat],.h 2 (iI ((m:Int)-1)),.aB [8,9,10,11,12,13,14],.ord [55,61]] (MR h1 (cY h2) (ak ab b) (av h3) (ak ab b) (aG h4) (bd ab h5 h6) h7 h8 (ak ab b) (Gf aF (up:Ws) (Eq.refl (((b.length:Nat):Int):Int)) h9) cL (ak ab (up.take b.length)) (aG ec) (oK ab 0 4 m gp jz rfl) (ak ab (up.take b.length)) (aG mG) (bd ab se vY) (iA v1) (ak ab (up.take b.length)) (aG vr) (bd ab zI Ci) (iA v2) (aG Lv)) hL
theorem l10(c:Int)(up b:Ws)(n m:Nat)(v1 v2:UInt32)(d:Int)(g i:Ws)(l u:Nat)(v:UInt32)(z k:Nat)(v3:UInt32)(z1 q m1:Nat){r:PV}(h1:0≤d)(h2:ar (d+(((up.take b.length).length:Nat):Int)))(h3:ar ((d+(((up.take b.length).length:Nat):Int))+1))(h4:d=(l:Int))(h5:((d+(((up.take b.length).length:Nat):Int))+1)=(u:Int))(h6:l=0∨l<u)(h7:l≤u)(h8:u≤n)(h9:(up.take b.length).length<(u-l))(cL:g[(0+l*1)+((up.take b.length).length)]? = some v)(ec:(v.toNat*2^(min 32 64))%18446744073709551616=z)(gp:ar ((((up.take b.length).length:Nat):Int)-1))(jz:((((up.take b.length).length:Nat):Int)-1)=(k:Int))(mG:k<(u-l))(se:g[(0+l*1)+k]? = some v3)(vY:(z%18446744073709551616) ||| (v3.toNat%18446744073709551616)=z1)(vr:v1.toNat≠0)(zI:(z1/v1.toNat)%18446744073709551616=q)(Ci:z1%v1.toNat=m1)(hL:aM c up b n m v1 v2 d l u q m1 g i r):ag c up b n m v1 v2 d g i r :=
 lG 186 [1,1,1,1,5,1,2,1,1,1,1,1,2,1,1,1,1,1] [.a,.q,.t,.aI [.o,.o,.o,.o,(iI (((up.take b.length).length:Nat):Int)),(iI (d+(((up.take b.length).length:Nat):Int))),(iI ((d+(((up.take b.length).length:Nat):Int))+1)),(.kV l u [])],dr 15 1 [.none,.none,(iI (((up.take b.length).length:Nat):Int)),(.nat ((up.take b.length).length)),(.ev (.pv (vW v))),iU v.toNat,iU z,.none,.none,(iI (((up.take b.length).length:Nat):Int)),(iI ((((up.take b.length).length:Nat):Int)-1)),(.nat k),(.ev (.pv (vW v3))),iU v3.toNat,iU z1],dr 7 1 [.none,.none,iU q,.none,.none,iU m1],.aB [8,9,10,11,12,13,14,15,17,18]] (Lq (di h1) (ak ab (up.take b.length)) (ng h2) (ng h3) (Jm h4 h5 h6 h7 h8) (ak ab (up.take b.length)) (cj (Eq.refl ((((up.take b.length).length:Nat):Int):Int)) h9) (oL (enc:=ab) (f:=fun a=>(vW a)) (fun _=>rfl) cL) (iA v) (dG (k := .u64) ec) (ak ab (up.take b.length)) (aG gp) (cj jz mG) (oL (enc:=ab) (f:=fun a=>(vW a)) (fun _=>rfl) se) (iA v3) (gH vY) (lX vr zI) (j0 vr Ci)) hL
theorem cW(c:Int)(up b:Ws)(n m:Nat)(v1 v2:UInt32)(d:Int)(g i j k:Ws)(h1:d<0)(h2:m=i.length)(h3:n=g.length)(h4:Cp 104 [aa i] (aa j))(h5:Cp 119 [aa g,vI c] (aa k)):ag c up b n m v1 v2 d g i (.aY [aa j,aa k]) :=
 lD 168 [1,3,3,1,1] [.a,.q,.f,.eQ 11 ((i:Ws).map ab),.eQ 10 ((g:Ws).map ab),.aI [.o,(.pv (aa j)),.o,.o,(.pv (aa k))]] (y5 (jx h1) (cM aF (i:Ws) h2) (cM aF (g:Ws) h3) h4 h5)
theorem tY(c:Int)(up b:Ws)(n m:Nat)(v1 v2:UInt32)(g:Int)(l u i j:Nat)(k p:Ws)(d s:Nat){r:PV}(h1:j<4294967296)(h2:4294967296≤i)(h3:((i:Nat)-(1:Nat):Int)%18446744073709551616=(d:Int))(h4:(j+v1.toNat)%18446744073709551616=s)(hL:aM c up b n m v1 v2 g l u d s k p r):aM c up b n m v1 v2 g l u i j k p r :=
 lG 219 [1,1,1,1,1,1,1,1,1,1,1,1,1,1,1,1,1,1,1,1,1,1] [.a,.aI [.o,.o,.o,.o,.o,.o,.skip,.skip,.skip,.skip,.skip,.skip,.skip,.skip,.skip,.skip,.skip,.skip,.skip,.skip,(.dec true),(.dec true)],.a,.h 1 (iU d),.h 2 (iU s),.aB [8,9,10,11,12,13,14,15,17,18]] (MP (af h1) (af h1) (af h1) (bE h2) (bE h2) (bE h2) (bE h2) (bE h2) (bE h2) (bE h2) (bE h2) (bE h2) (bE h2) (bE h2) (bE h2) (bE h2) (bE h2) (af h1) (bE h2) (af h1) (bN h3) (bM h4)) hL
theorem sf(c:Int)(up b:Ws)(n m:Nat)(v1 v2:UInt32)(g:Int)(l u i j:Nat)(q w:Ws)(p z k:Nat)(v:UInt32)(z1 d s:Nat){r:PV}(h1:j<4294967296)(h2:i<4294967296)(h3:(i*v2.toNat)%18446744073709551616=p)(h4:(j*2^(min 32 64))%18446744073709551616=z)(h5:ar ((((up.take b.length).length:Nat):Int)-2))(h6:((((up.take b.length).length:Nat):Int)-2)=(k:Int))(h7:k<(u-l))(h8:q[(0+l*1)+k]? = some v)(h9:(z%18446744073709551616) ||| (v.toNat%18446744073709551616)=z1)(cL:z1<p)(ec:((i:Nat)-(1:Nat):Int)%18446744073709551616=(d:Int))(gp:(j+v1.toNat)%18446744073709551616=s)(hL:aM c up b n m v1 v2 g l u d s q w r):aM c up b n m v1 v2 g l u i j q w r :=
 lG 219 [1,1,1,1,1,1,1,1,1,1,1,1,1,1,1,1,1,2,1,1,1,1,1,1,1,1,1,1,1,1,1] [.a,.aI [.o,.o,.o,.o,.o,.o,.o,.o,iU p,.o,iU z,.o,.o,(iI (((up.take b.length).length:Nat):Int)),(iI ((((up.take b.length).length:Nat):Int)-2)),(.nat k),(.ev (.pv (vW v))),iU v.toNat,iU z1,.o,(.dec false),(.dec true)],.t,.h 1 (iU d),.h 2 (iU s),.aB [8,9,10,11,12,13,14,15,17,18]] (On (af h1) (af h1) (af h1) (aP h2) (aP h2) (aP h2) (iz h3) (aP h2) (aP h2) (dG (k := .u64) h4) (aP h2) (aP h2) (aP h2) (ak ab (up.take b.length)) (aP h2) (aG h5) (aP h2) (cj h6 h7) (aP h2) (oL (enc:=ab) (f:=fun a=>(vW a)) (fun _=>rfl) h8) (aP h2) (iA v) (aP h2) (gH h9) (aP h2) (af h1) (aP h2) (af h1) (af cL) (bN ec) (bM gp)) hL
theorem BI(c:Int)(up b:Ws)(n m:Nat)(v1 v2:UInt32)(g:Int)(l u i j:Nat)(q s:Ws)(p z k:Nat)(v:UInt32)(z1:Nat)(z2:Ws)(x:Bool)(d:Nat)(z3:Ws)(w:UInt32)(k1:Nat){r:PV}(h1:j<4294967296)(h2:i<4294967296)(h3:(i*v2.toNat)%18446744073709551616=p)(h4:(j*2^(min 32 64))%18446744073709551616=z)(h5:ar ((((up.take b.length).length:Nat):Int)-2))(h6:((((up.take b.length).length:Nat):Int)-2)=(k:Int))(h7:k<(u-l))(h8:q[(0+l*1)+k]? = some v)(h9:(z%18446744073709551616) ||| (v.toNat%18446744073709551616)=z1)(cL:p≤z1)(ec:aq bh 117 [.row 100000 (0+l*1) (u-l) 1,.pv (aa (up.take b.length)),.pv (vU i)] [(100000,(.pure ((q:Ws).map ab).flatten))] (.pv (vB x)) [(100000,(.pure ((z2:Ws).map ab).flatten))])(gp:x=true)(jz:((i:Nat)-(1:Nat):Int)%18446744073709551616=(d:Int))(mG:aq bh 118 [.row 100000 (0+l*1) (u-l) 1,.pv (aa (up.take b.length))] [(100000,(.pure ((z2:Ws).map ab).flatten))] (.pv (.aY [])) [(100000,(.pure ((z3:Ws).map ab).flatten))])(se:d%4294967296=w.toNat)(vY:g=(k1:Int))(vr:k1<m)(zI:k1<s.length)(Ci:ar (g-1))(hL:ag c up b n m v1 v2 (g-1) z3 (s.set k1 w) r):aM c up b n m v1 v2 g l u i j q s r :=
 lG 243 [1,1,1,1,1,1,1,1,1,1,1,1,1,1,1,1,1,2,1,1,1,1,1,1,1,1,1,1,1,1,1,1,1,1,2,2,1] [.a,.aI [.o,.o,.o,.o,.o,.o,.o,.o,iU p,.o,iU z,.o,.o,(iI (((up.take b.length).length:Nat):Int)),(iI ((((up.take b.length).length:Nat):Int)-2)),(.nat k),(.ev (.pv (vW v))),iU v.toNat,iU z1,.o,(.dec false),(.dec true)],.f,.h 3 (.bz [(55,100000)] none (.pv (vB x)) [(100000,(.pure ((z2:Ws).map ab).flatten))]),.t,.h 1 (iU d),.h 2 (.bz [(55,100000)] none (.pv (.aY [])) [(100000,(.pure ((z3:Ws).map ab).flatten))]),.aI [.o,.o,.o,iW w,(.nat k1),(.cells (.pure (((s.set k1 w):Ws).map ab).flatten))],.h 1 (iI (g-1)),.aB [8,9,10,11,12,13,14]] (MS (af h1) (af h1) (af h1) (aP h2) (aP h2) (aP h2) (iz h3) (aP h2) (aP h2) (dG (k := .u64) h4) (aP h2) (aP h2) (aP h2) (ak ab (up.take b.length)) (aP h2) (aG h5) (aP h2) (cj h6 h7) (aP h2) (oL (enc:=ab) (f:=fun a=>(vW a)) (fun _=>rfl) h8) (aP h2) (iA v) (aP h2) (gH h9) (aP h2) (af h1) (aP h2) (af h1) (an cL) ec gp (bN jz) mG (bp se) (cj vY vr) (ee aF (s:Ws) w zI) (aG Ci)) hL
theorem Ov(c:Int)(up b:Ws)(n m:Nat)(v1 v2:UInt32)(d:Int)(l u g i:Nat)(j q:Ws)(p z k:Nat)(v:UInt32)(z1:Nat)(z2:Ws)(s:Bool)(w:UInt32)(k1:Nat){r:PV}(h1:i<4294967296)(h2:g<4294967296)(h3:(g*v2.toNat)%18446744073709551616=p)(h4:(i*2^(min 32 64))%18446744073709551616=z)(h5:ar ((((up.take b.length).length:Nat):Int)-2))(h6:((((up.take b.length).length:Nat):Int)-2)=(k:Int))(h7:k<(u-l))(h8:j[(0+l*1)+k]? = some v)(h9:(z%18446744073709551616) ||| (v.toNat%18446744073709551616)=z1)(cL:p≤z1)(ec:aq bh 117 [.row 100000 (0+l*1) (u-l) 1,.pv (aa (up.take b.length)),.pv (vU g)] [(100000,(.pure ((j:Ws).map ab).flatten))] (.pv (vB s)) [(100000,(.pure ((z2:Ws).map ab).flatten))])(gp:s=false)(jz:g%4294967296=w.toNat)(mG:d=(k1:Int))(se:k1<m)(vY:k1<q.length)(vr:ar (d-1))(hL:ag c up b n m v1 v2 (d-1) z2 (q.set k1 w) r):aM c up b n m v1 v2 d l u g i j q r :=
 lG 237 [1,1,1,1,1,1,1,1,1,1,1,1,1,1,1,1,1,2,1,1,1,1,1,1,1,1,1,1,1,1,1,1,2,2,1] [.a,.aI [.o,.o,.o,.o,.o,.o,.o,.o,iU p,.o,iU z,.o,.o,(iI (((up.take b.length).length:Nat):Int)),(iI ((((up.take b.length).length:Nat):Int)-2)),(.nat k),(.ev (.pv (vW v))),iU v.toNat,iU z1,.o,(.dec false),(.dec true)],.f,.h 3 (.bz [(55,100000)] none (.pv (vB s)) [(100000,(.pure ((z2:Ws).map ab).flatten))]),.f,.aI [.o,.o,.o,iW w,(.nat k1),(.cells (.pure (((q.set k1 w):Ws).map ab).flatten))],.h 1 (iI (d-1)),.aB [8,9,10,11,12,13,14]] (Oo (af h1) (af h1) (af h1) (aP h2) (aP h2) (aP h2) (iz h3) (aP h2) (aP h2) (dG (k := .u64) h4) (aP h2) (aP h2) (aP h2) (ak ab (up.take b.length)) (aP h2) (aG h5) (aP h2) (cj h6 h7) (aP h2) (oL (enc:=ab) (f:=fun a=>(vW a)) (fun _=>rfl) h8) (aP h2) (iA v) (aP h2) (gH h9) (aP h2) (af h1) (aP h2) (af h1) (an cL) ec gp (bp jz) (cj mG se) (ee aF (q:Ws) w vY) (aG vr)) hL
theorem MV(c:Int)(up b:Ws)(n m:Nat)(v1 v2:UInt32)(g:Int)(l u i j:Nat)(p q z:Ws)(s:Bool)(d:Nat)(z1:Ws)(w:UInt32)(k:Nat){r:PV}(h1:4294967296≤j)(h2:aq bh 117 [.row 100000 (0+l*1) (u-l) 1,.pv (aa (up.take b.length)),.pv (vU i)] [(100000,(.pure ((p:Ws).map ab).flatten))] (.pv (vB s)) [(100000,(.pure ((z:Ws).map ab).flatten))])(h3:s=true)(h4:((i:Nat)-(1:Nat):Int)%18446744073709551616=(d:Int))(h5:aq bh 118 [.row 100000 (0+l*1) (u-l) 1,.pv (aa (up.take b.length))] [(100000,(.pure ((z:Ws).map ab).flatten))] (.pv (.aY [])) [(100000,(.pure ((z1:Ws).map ab).flatten))])(h6:d%4294967296=w.toNat)(h7:g=(k:Int))(h8:k<m)(h9:k<q.length)(cL:ar (g-1))(hL:ag c up b n m v1 v2 (g-1) z1 (q.set k w) r):aM c up b n m v1 v2 g l u i j p q r :=
 lG 243 [1,1,1,1,1,1,1,1,1,1,2,2,1] [.a,.aI [.o,.o,.o,.skip,.skip,.skip,.skip,.skip,.skip,.skip,.skip,.skip,.skip,.skip,.skip,.skip,.skip,.skip,.skip,.skip,.skip,(.dec false)],.a,.h 3 (.bz [(55,100000)] none (.pv (vB s)) [(100000,(.pure ((z:Ws).map ab).flatten))]),.t,.h 1 (iU d),.h 2 (.bz [(55,100000)] none (.pv (.aY [])) [(100000,(.pure ((z1:Ws).map ab).flatten))]),.aI [.o,.o,.o,iW w,(.nat k),(.cells (.pure (((q.set k w):Ws).map ab).flatten))],.h 1 (iI (g-1)),.aB [8,9,10,11,12,13,14]] (Ew (an h1) (an h1) (an h1) (an h1) (an h1) h2 h3 (bN h4) h5 (bp h6) (cj h7 h8) (ee aF (q:Ws) w h9) (aG cL)) hL
theorem MW(c:Int)(up b:Ws)(n m:Nat)(v1 v2:UInt32)(d:Int)(l u g i:Nat)(j p z:Ws)(q:Bool)(w:UInt32)(k:Nat){r:PV}(h1:4294967296≤i)(h2:aq bh 117 [.row 100000 (0+l*1) (u-l) 1,.pv (aa (up.take b.length)),.pv (vU g)] [(100000,(.pure ((j:Ws).map ab).flatten))] (.pv (vB q)) [(100000,(.pure ((z:Ws).map ab).flatten))])(h3:q=false)(h4:g%4294967296=w.toNat)(h5:d=(k:Int))(h6:k<m)(h7:k<p.length)(h8:ar (d-1))(hL:ag c up b n m v1 v2 (d-1) z (p.set k w) r):aM c up b n m v1 v2 d l u g i j p r :=
 lG 237 [1,1,1,1,1,1,1,1,2,2,1] [.a,.aI [.o,.o,.o,.skip,.skip,.skip,.skip,.skip,.skip,.skip,.skip,.skip,.skip,.skip,.skip,.skip,.skip,.skip,.skip,.skip,.skip,(.dec false)],.a,.h 3 (.bz [(55,100000)] none (.pv (vB q)) [(100000,(.pure ((z:Ws).map ab).flatten))]),.f,.aI [.o,.o,.o,iW w,(.nat k),(.cells (.pure (((p.set k w):Ws).map ab).flatten))],.h 1 (iI (d-1)),.aB [8,9,10,11,12,13,14]] (xZ (an h1) (an h1) (an h1) (an h1) (an h1) h2 h3 (bp h4) (cj h5 h6) (ee aF (p:Ws) w h7) (aG h8)) hL
end aQ
namespace k7
theorem e0(a:Bool)(m b:Ws)(h1:Cp 104 [aa m] (aa b))(h2:a=true):Cp 90 [vB a,aa m] ((⟨(decide ((b.length:Int)>0)),b⟩:aj).pv) :=
 eD func90 78 [1,1,1,1,1,1] [.q,.h 1 (.pv (aa b)),.aI [.o,.o,.o,(iI (b.length:Int)),.o,(.dec true)]] (y6 h1 h2 h2 (ak ab b) h2 h2)
theorem e1(a:Bool)(m b:Ws)(h1:Cp 104 [aa m] (aa b))(h2:a=false):Cp 90 [vB a,aa m] ((⟨false,b⟩:aj).pv) :=
 eD func90 78 [1,1,1,1,1] [.q,.h 1 (.pv (aa b)),.aI [.o,.o,.skip,.skip,.skip,(.dec false)]] (y5 h1 h2 h2 h2 h2)
end k7
namespace kH
theorem e1(a b:aj)(c d g i:Ws)(j:Bool)(k l:Ws)(m n:Bool)(p s:aj)(h1:Cp 77 [b.pv] (aa c))(h2:c.length≠0)(h3:Cp 77 [a.pv] (aa d))(h4:Cp 89 [aa d,aa c] (.aY [aa g,aa i]))(h5:Cp 79 [a.pv] (vB j))(h6:j=true)(h7:0<i.length)(h8:Cp 95 [aa g,(aa [(1:UInt32)])] (aa k))(h9:Cp 96 [aa c,aa i] (aa l))(cL:Cp 79 [a.pv] (vB m))(ec:Cp 79 [b.pv] (vB n))(gp:Cp 90 [(vB (!(m==n))),aa k] p.pv)(jz:Cp 90 [vB false,aa l] s.pv):Cp 94 [a.pv,b.pv] (.aY [p.pv,s.pv,.bD]) :=
 eD func94 114 [1,1,1,1,1,1,1,1,1,1,1,1,3,1,1,1,1,1,1] [.q,.h 1 (.pv (aa c)),.h 1 (iI (c.length:Int)),.f,.aI [.o,(.pv (aa d)),.o,(.pv (.aY [aa g,aa i]))],.aI [.o,(.pv (vB j)),.o,.o,(iI (i.length:Int)),.o,(.dec true)],.t,.aI [.o,(.kV 0 0 (([(1:UInt32)]:Ws).map ab)),(.pv (aa k)),.o,.o,(.pv (aa l))],dr 9 3 [.none,(.pv (vB m)),.none,(.pv (vB n)),.none,.none,(.pv p.pv),.none,(.pv s.pv)]] (Oj h1 (ak ab c) (av h2) h3 h4 h5 h6 h6 (ak ab i) h6 h6 (af h7) (ln aF ([(1:UInt32)]:Ws)) h8 h9 cL ec gp jz)
theorem e2(a b:aj)(c d g i:Ws)(j k l:Bool)(m n:aj)(h1:Cp 77 [b.pv] (aa c))(h2:c.length≠0)(h3:Cp 77 [a.pv] (aa d))(h4:Cp 89 [aa d,aa c] (.aY [aa g,aa i]))(h5:Cp 79 [a.pv] (vB j))(h6:j=true)(h7:i.length≤0)(h8:Cp 79 [a.pv] (vB k))(h9:Cp 79 [b.pv] (vB l))(cL:Cp 90 [(vB (!(k==l))),aa g] m.pv)(ec:Cp 90 [vB false,aa i] n.pv):Cp 94 [a.pv,b.pv] (.aY [m.pv,n.pv,.bD]) :=
 eD func94 114 [1,1,1,1,1,1,1,1,1,1,1,1,1,1,1,1] [.q,.h 1 (.pv (aa c)),.h 1 (iI (c.length:Int)),.f,.aI [.o,(.pv (aa d)),.o,(.pv (.aY [aa g,aa i]))],.aI [.o,(.pv (vB j)),.o,.o,(iI (i.length:Int)),.o,(.dec true)],.f,dr 9 3 [.none,(.pv (vB k)),.none,(.pv (vB l)),.none,.none,(.pv m.pv),.none,(.pv n.pv)]] (Cg h1 (ak ab c) (av h2) h3 h4 h5 h6 h6 (ak ab i) h6 h6 (an h7) h8 h9 cL ec)
theorem e3(a b:aj)(c d g i:Ws)(j k l:Bool)(m n:aj)(h1:Cp 77 [b.pv] (aa c))(h2:c.length≠0)(h3:Cp 77 [a.pv] (aa d))(h4:Cp 89 [aa d,aa c] (.aY [aa g,aa i]))(h5:Cp 79 [a.pv] (vB j))(h6:j=false)(h7:Cp 79 [a.pv] (vB k))(h8:Cp 79 [b.pv] (vB l))(h9:Cp 90 [(vB (!(k==l))),aa g] m.pv)(cL:Cp 90 [vB false,aa i] n.pv):Cp 94 [a.pv,b.pv] (.aY [m.pv,n.pv,.bD]) :=
 eD func94 114 [1,1,1,1,1,1,1,1,1,1,1,1,1,1] [.q,.h 1 (.pv (aa c)),.h 1 (iI (c.length:Int)),.f,.aI [.o,(.pv (aa d)),.o,(.pv (.aY [aa g,aa i]))],.aI [.o,(.pv (vB j)),.o,.skip,.skip,.skip,(.dec false)],.a,dr 9 3 [.none,(.pv (vB k)),.none,(.pv (vB l)),.none,.none,(.pv m.pv),.none,(.pv n.pv)]] (Ff h1 (ak ab c) (av h2) h3 h4 h5 h6 h6 h6 h6 h7 h8 h9 cL)
end kH
namespace hK
@[reducible] def fn:Func:=Tryz.f95
def bg:List dB:=focus [0,2,0,2,0,2,0,0,2,0,0] [.code (az fn)]
def inv1(a b:List UInt32)(l9 zJ:Nat)(ma:List UInt32):St:=⟨[(0,(.pv (aa a))),(1,(.pv (aa b))),(5,(.row 14 0 ((max a.length b.length)+1) 1)),(6,(eU l9)),(16,(eI ((((max a.length b.length)+1):Nat):Int))),(17,(eI (zJ:Int)))],[(14,(.pure ((ma:List UInt32).map ab).flatten))]⟩
@[reducible] def ag(a b:List UInt32)(l9 zJ:Nat)(ma:List UInt32)(r:PV):Prop:=L bh fn bg (inv1 a b l9 zJ ma) r
theorem e0(a b:Ws){r:PV}(h1:((max a.length b.length)+1)<9223372036854775808)(h2:4*((max a.length b.length)+1)≤140737488355328)(hL:ag a b 0 0 (List.replicate ((max a.length b.length)+1) (0:UInt32)) r):Cp 95 [aa a,aa b] r :=
 eG func95 93 [1,1,1,1,5] [.q,.aI [.o,(iI (a.length:Int)),.o,(iI (b.length:Int)),(iI (((max a.length b.length):Nat):Int)),(iI ((((max a.length b.length)+1):Nat):Int)),(.app ((max a.length b.length)+1) ((List.replicate ((max a.length b.length)+1) (0:UInt32):Ws).map ab).flatten)],.q,.q,.aB [0,1,5,6,16,17]] (y5 (ak ab a) (ak ab b) (qU a.length b.length) (aH h1) (oK ab 0 4 ((max a.length b.length)+1) (Eq.refl (((((max a.length b.length)+1):Nat):Int):Int)) h2 rfl)) hL
theorem l10(a b:Ws)(c d:Nat)(g:Ws)(i j s s1:Nat)(w:UInt32)(z:Nat){r:PV}(h1:d<((max a.length b.length)+1))(h2:Cp 123 [aa a,(vI (d:Int))] (vU i))(h3:Cp 123 [aa b,(vI (d:Int))] (vU j))(h4:(i+j)%18446744073709551616=s)(h5:(c+s)%18446744073709551616=s1)(h6:s1%4294967296=w.toNat)(h7:d<g.length)(h8:s1/2^(min 32 64)=z)(h9:(d+1)<9223372036854775808)(hL:ag a b z (d+1) (g.set d w) r):ag a b c d g r :=
 lG 144 [1,1,1,1,1,1,2,2,1,1] [.a,.q,.t,.q,.aI [.o,.o,.o,(.pv (vU i)),.o,.o,(.pv (vU j)),iU s,iU s1],.aI [.o,.o,.o,iW w,(.nat d),(.cells (.pure (((g.set d w):Ws).map ab).flatten))],.h 1 (iU z),.h 0 (iI (((d+1):Nat):Int)),.aB [0,1,5,6,16,17]] (Eu (af h1) h2 h3 (bM h4) (bM h5) (bp h6) (cj (Eq.refl (((d:Nat):Int):Int)) h1) (ee aF (g:Ws) w h7) (bA (k := .u64) h8) (aH h9)) hL
theorem cW(a b:Ws)(c d:Nat)(g i:Ws)(h1:((max a.length b.length)+1)≤d)(h2:((max a.length b.length)+1)=g.length)(h3:Cp 104 [aa g] (aa i)):ag a b c d g (aa i) :=
 lD 126 [1,3,1] [.a,.q,.f,.eQ 5 ((g:Ws).map ab),.h 1 (.pv (aa i))] (y3 (an h1) (cM aF (g:Ws) h2) h3)
end hK
namespace hO
@[reducible] def fn:Func:=Tryz.f96
def bg:List dB:=focus [0,2,0,2,0,2,0,0,2,0,0] [.code (az fn)]
def inv1(a b:List UInt32)(j7 Hl:Nat)(l6:List UInt32):St:=⟨[(0,(.pv (aa a))),(1,(.pv (aa b))),(5,(.row 11 0 a.length 1)),(6,(eU j7)),(13,(eI (a.length:Int))),(14,(eI (Hl:Int)))],[(11,(.pure ((l6:List UInt32).map ab).flatten))]⟩
@[reducible] def ag(a b:List UInt32)(j7 Hl:Nat)(l6:List UInt32)(r:PV):Prop:=L bh fn bg (inv1 a b j7 Hl l6) r
theorem e0(a b:Ws){r:PV}(h1:4*a.length≤140737488355328)(hL:ag a b 0 0 (List.replicate a.length (0:UInt32)) r):Cp 96 [aa a,aa b] r :=
 eG func96 93 [1,5] [.q,.aI [.o,(iI (a.length:Int)),(.app a.length ((List.replicate a.length (0:UInt32):Ws).map ab).flatten)],.q,.q,.aB [0,1,5,6,13,14]] (y2 (ak ab a) (oK ab 0 4 a.length (Eq.refl (((a.length:Nat):Int):Int)) h1 rfl)) hL
theorem l10(a b:Ws)(c g:Nat)(i:Ws)(v:UInt32)(j d d1:Nat)(w:UInt32)(z:Nat){r:PV}(h1:g<a.length)(h2:a[g]? = some v)(h3:Cp 123 [aa b,(vI (g:Int))] (vU j))(h4:((v.toNat:Nat)-(j:Nat):Int)%18446744073709551616=(d:Int))(h5:((d:Nat)-(c:Nat):Int)%18446744073709551616=(d1:Int))(h6:d1%4294967296=w.toNat)(h7:g<i.length)(h8:d1/2^(min 63 64)=z)(h9:(g+1)<9223372036854775808)(hL:ag a b z (g+1) (i.set g w) r):ag a b c g i r :=
 lG 144 [1,3,1,1,1,1,1,2,2,1,1] [.a,.q,.t,.q,dr 11 1 [.none,.none,(.row g (ab v)),.none,iU v.toNat,.none,.none,(.pv (vU j)),iU d,.none,iU d1],.aI [.o,.o,.o,iW w,(.nat g),(.cells (.pure (((i.set g w):Ws).map ab).flatten))],.h 1 (iU z),.h 0 (iI (((g+1):Nat):Int)),.aB [0,1,5,6,13,14]] (xZ (af h1) (bd ab (Eq.refl (((g:Nat):Int):Int)) h2) (iA v) h3 (bN h4) (bN h5) (bp h6) (cj (Eq.refl (((g:Nat):Int):Int)) h1) (ee aF (i:Ws) w h7) (bA (k := .u64) h8) (aH h9)) hL
theorem cW(a b:Ws)(c d:Nat)(g i:Ws)(h1:a.length≤d)(h2:a.length=g.length)(h3:Cp 104 [aa g] (aa i)):ag a b c d g (aa i) :=
 lD 126 [1,3,1] [.a,.q,.f,.eQ 5 ((g:Ws).map ab),.h 1 (.pv (aa i))] (y3 (an h1) (cM aF (g:Ws) h2) h3)
end hO
namespace cO
@[reducible] def fn:Func:=Tryz.f97
def bg:List dB:=focus [0,2,0,2,0,0,2,0,0] [.code (az fn)]
def inv1(b a:List UInt32)(zK:Nat)(gk:List UInt32):St:=⟨[(1,(.pv (aa b))),(5,(.row 16 0 (a.length+b.length) 1)),(17,(.pv (aa a))),(18,(eI (a.length:Int))),(19,(eI (zK:Int)))],[(16,(.pure ((gk:List UInt32).map ab).flatten))]⟩
@[reducible] def ag(b a:List UInt32)(zK:Nat)(gk:List UInt32)(r:PV):Prop:=L bh fn bg (inv1 b a zK gk) r
def jt:List dB:=focus [0,2,0,2,0,0,2,0,0,0,0,2,0,0,2,0,0,0,2,0,2,0,0,2,0,0] [.code (az fn)]
def inv2(b a:List UInt32)(wF:Nat)(v:UInt32)(wG zK Hm:Nat)(gk:List UInt32):St:=⟨[(1,(.pv (aa b))),(5,(.row 16 0 (a.length+b.length) 1)),(6,(eI (wF:Int))),(7,(eW v)),(8,(eU wG)),(17,(.pv (aa a))),(18,(eI (a.length:Int))),(19,(eI (zK:Int))),(24,(.pv (aa b))),(25,(eI (b.length:Int))),(26,(eI (Hm:Int)))],[(16,(.pure ((gk:List UInt32).map ab).flatten))]⟩
@[reducible] def aM(b a:List UInt32)(wF:Nat)(v:UInt32)(wG zK Hm:Nat)(gk:List UInt32)(r:PV):Prop:=L bh fn jt (inv2 b a wF v wG zK Hm gk) r
theorem e0(a b:Ws){r:PV}(h1:(a.length+b.length)<9223372036854775808)(h2:4*(a.length+b.length)≤140737488355328)(hL:ag b a 0 (List.replicate (a.length+b.length) (0:UInt32)) r):Cp 97 [aa a,aa b] r :=
 eG func97 87 [1,1,1,5,1] [.q,.aI [.o,(iI (a.length:Int)),.o,(iI (b.length:Int)),(iI (((a.length+b.length):Nat):Int)),(.app (a.length+b.length) ((List.replicate (a.length+b.length) (0:UInt32):Ws).map ab).flatten)],.h 1 (iI (a.length:Int)),.aB [1,5,17,18,19]] (y5 (ak ab a) (ak ab b) (aH h1) (oK ab 0 4 (a.length+b.length) (Eq.refl ((((a.length+b.length):Nat):Int):Int)) h2 rfl) (ak ab a)) hL
theorem l10(b a:Ws)(c:Nat)(d:Ws)(v:UInt32){r:PV}(h1:c<a.length)(h2:a[c]? = some v)(hL:aM b a c v 0 c 0 d r):ag b a c d r :=
 lG 138 [1,3,1] [.a,.q,.t,.h 1 (.row c (ab v)),.q,.h 1 (iI (b.length:Int)),.aB [1,5,6,7,8,17,18,19,24,25,26]] (y3 (af h1) (bd ab (Eq.refl (((c:Nat):Int):Int)) h2) (ak ab b)) hL
theorem cW(b a:Ws)(c:Nat)(d g:Ws)(h1:a.length≤c)(h2:(a.length+b.length)=d.length)(h3:Cp 104 [aa d] (aa g)):ag b a c d (aa g) :=
 lD 120 [1,3,1] [.a,.q,.f,.eQ 5 ((d:Ws).map ab),.h 1 (.pv (aa g))] (y3 (an h1) (cM aF (d:Ws) h2) h3)
theorem tY(b a:Ws)(c:Nat)(v:UInt32)(d g i:Nat)(j:Ws)(v1:UInt32)(p:Nat)(v2:UInt32)(s s1:Nat)(w:UInt32)(z:Nat){r:PV}(h1:i<b.length)(h2:b[i]? = some v1)(h3:(v.toNat*v1.toNat)%18446744073709551616=p)(h4:(c+i)<9223372036854775808)(h5:(c+i)<(a.length+b.length))(h6:j[(c+i)]? = some v2)(h7:(p+v2.toNat)%18446744073709551616=s)(h8:(d+s)%18446744073709551616=s1)(h9:s1%4294967296=w.toNat)(cL:(c+i)<j.length)(ec:s1/2^(min 32 64)=z)(gp:(i+1)<9223372036854775808)(hL:aM b a c v z g (i+1) (j.set (c+i) w) r):aM b a c v d g i j r :=
 lG 189 [1,3,1,1,1,1,2,1,1,1,1,1,1,2,2,1,1] [.a,.q,.t,.h 1 (.row i (ab v1)),.aI [.o,.o,iU v.toNat,.o,iU v1.toNat,iU p,.o,.o,.o,(iI (((c+i):Nat):Int)),(.nat (c+i)),(.ev (.pv (vW v2))),iU v2.toNat,iU s,iU s1],.aI [.o,.o,.o,(iI (((c+i):Nat):Int)),.o,iW w,(.nat (c+i)),(.cells (.pure (((j.set (c+i) w):Ws).map ab).flatten))],.h 1 (iU z),.h 0 (iI (((i+1):Nat):Int)),.aB [1,5,6,7,8,17,18,19,24,25,26]] (Jo (af h1) (bd ab (Eq.refl (((i:Nat):Int):Int)) h2) (iA v) (iA v1) (iz h3) (aH h4) (cj (Eq.refl ((((c+i):Nat):Int):Int)) h5) (eK (enc:=ab) (f:=fun a=>(vW a)) (fun _=>rfl) h6) (iA v2) (bM h7) (bM h8) (aH h4) (bp h9) (cj (Eq.refl ((((c+i):Nat):Int):Int)) h5) (ee aF (j:Ws) w cL) (bA (k := .u64) ec) (aH gp)) hL
theorem sf(b a:Ws)(c:Nat)(v:UInt32)(d g i:Nat)(j:Ws)(w:UInt32){r:PV}(h1:b.length≤i)(h2:(c+b.length)<9223372036854775808)(h3:d%4294967296=w.toNat)(h4:(c+b.length)<(a.length+b.length))(h5:(c+b.length)<j.length)(h6:(g+1)<9223372036854775808)(hL:ag b a (g+1) (j.set (c+b.length) w) r):aM b a c v d g i j r :=
 lG 174 [1,1,1,1,2,2,1] [.a,.q,.f,.aI [.o,.o,.o,(iI (b.length:Int)),(iI (((c+b.length):Nat):Int)),.o,iW w,(.nat (c+b.length)),(.cells (.pure (((j.set (c+b.length) w):Ws).map ab).flatten))],.h 0 (iI (((g+1):Nat):Int)),.aB [1,5,17,18,19]] (y7 (an h1) (ak ab b) (aH h2) (bp h3) (cj (Eq.refl ((((c+b.length):Nat):Int):Int)) h4) (ee aF (j:Ws) w h5) (aH h6)) hL
end cO
namespace fF
@[reducible] def fn:Func:=Tryz.f104
def bg:List dB:=focus [0,2,0,2,0,0,0] [.code (az fn)]
def inv1(m:List UInt32)(Hn:Int):St:=⟨[(0,(.pv (aa m))),(3,(eI Hn))],[]⟩
@[reducible] def ag(m:List UInt32)(Hn:Int)(r:PV):Prop:=L bh fn bg (inv1 m Hn) r
theorem e0 (m : Ws) {r : PV}  (hL : ag m (m.length : Int) r) : Cp 104 [aa m] r :=
 eG func104 81 [1] [.q,.h 1 (iI (m.length:Int)),.aB [0,3]] (y1 (ak ab m)) hL
theorem l10(m:Ws)(b:Int)(k:Nat)(v:UInt32){r:PV}(h1:0<b)(h2:ar (b-1))(h3:(b-1)=(k:Int))(h4:m[k]? = some v)(h5:v.toNat=0)(hL:ag m (b-1) r):ag m b r :=
 lG 108 [1,1,1,1,1,3,1,1,1,1,1] [.a,.aI [.o,.o,.o,.o,.o,(iI (b-1)),(.row k (ab v)),.o,.o,(.dec true)],.t,.h 1 (iI (b-1)),.aB [0,3]] (xZ (cA h1) (cA h1) (cA h1) (aG h2) (cA h1) (bd ab h3 h4) (cA h1) (cA h1) (cA h1) (aA h5) (aG h2)) hL
theorem mD(m:Ws)(b:Int)(k:Nat)(v:UInt32)(u:Nat)(h1:0<b)(h2:ar (b-1))(h3:(b-1)=(k:Int))(h4:m[k]? = some v)(h5:v.toNat≠0)(h6:b≠0)(h7:b=(u:Int))(h8:u≤m.length)(h9:(([]:Ws)++(m.take u):Ws).length*4≤140737488355328):ag m b (aa (m.take u)) :=
 lD 129 [1,1,1,1,1,3,1,1,1,1,1,6,6,3] [.a,.aI [.o,.o,.o,.o,.o,(iI (b-1)),(.row k (ab v)),.o,.o,(.dec true)],.f,.q,.f,.aI [.o,.o,.o,(.kV 0 u (((m.take u):Ws).map ab)),(.app ((m.take u):Ws).length (((m.take u):Ws).map ab).flatten)],.eQ 2 (((m.take u):Ws).map ab)] (Ff (cA h1) (cA h1) (cA h1) (aG h2) (cA h1) (bd ab h3 h4) (cA h1) (cA h1) (cA h1) (av h5) (dE h6) (Gf aF (m:Ws) h7 h8) (qT aF ([]:Ws) ((m.take u):Ws) 4 (Eq.refl ([]:Ws).length) h9 rfl) (cM aF ((m.take u):Ws) (Eq.refl ((m.take u):Ws).length)))
theorem zE(m:Ws)(b:Int)(h1:b≤0)(h2:b=0):ag m b (aa []) :=
 lD 126 [1,1,1,1,1,1,1,1] [.a,.aI [.o,.o,.o,.skip,.skip,.skip,.skip,.skip,.skip,(.dec false)],.a,.q,.t,.q] (y8 (cY h1) (cY h1) (cY h1) (cY h1) (cY h1) (cY h1) (cY h1) (dO h2))
end fF
namespace gf
theorem e0(x:UInt32)(a:Int)(h1:Cp 134 [vW x] (vI a))(h2:ar (32-a)):Cp 115 [vW x] (vI (32-a)) :=
 eD func115 72 [1,1] [.q,.aI [.o,(.pv (vI a)),(iI (32-a))]] (y2 h1 (aG h2))
end gf
namespace j8
@[reducible] def fn:Func:=Tryz.f116
def bg:List dB:=focus [0,2,0,2,0,0,2,0,0] [.code (az fn)]
def inv1(n:Int)(a:List UInt32)(tZ:Nat)(mb:List UInt32):St:=⟨[(1,(eI n)),(5,(.row 12 0 (a.length+1) 1)),(13,(.pv (aa a))),(14,(eI (a.length:Int))),(15,(eI (tZ:Int)))],[(12,(.pure ((mb:List UInt32).map ab).flatten))]⟩
@[reducible] def ag(n:Int)(a:List UInt32)(tZ:Nat)(mb:List UInt32)(r:PV):Prop:=L bh fn bg (inv1 n a tZ mb) r
theorem e0(a:Ws)(n:Int){r:PV}(h1:(a.length+1)<9223372036854775808)(h2:4*(a.length+1)≤140737488355328)(hL:ag n a 0 (List.replicate (a.length+1) (0:UInt32)) r):Cp 116 [aa a,vI n] r :=
 eG func116 87 [1,1,5,1] [.q,.aI [.o,(iI (a.length:Int)),(iI (((a.length+1):Nat):Int)),(.app (a.length+1) ((List.replicate (a.length+1) (0:UInt32):Ws).map ab).flatten)],.h 1 (iI (a.length:Int)),.aB [1,5,13,14,15]] (y4 (ak ab a) (aH h1) (oK ab 0 4 (a.length+1) (Eq.refl ((((a.length+1):Nat):Int):Int)) h2 rfl) (ak ab a)) hL
theorem l10(n:Int)(a:Ws)(b:Nat)(c:Ws)(v:UInt32)(k z:Nat)(v1 w z1:UInt32)(z2:Nat)(w1:UInt32){r:PV}(h1:b<a.length)(h2:a[b]? = some v)(h3:n=(k:Int))(h4:(v.toNat*2^(min k 64))%18446744073709551616=z)(h5:b<(a.length+1))(h6:c[b]? = some v1)(h7:z%4294967296=w.toNat)(h8:(v1.toNat%4294967296) ||| (w.toNat%4294967296)=z1.toNat)(h9:b<c.length)(cL:(b+1)<9223372036854775808)(ec:z/2^(min 32 64)=z2)(gp:z2%4294967296=w1.toNat)(jz:(b+1)<(a.length+1))(mG:(b+1)<(c.set b z1).length)(hL:ag n a (b+1) ((c.set b z1).set (b+1) w1) r):ag n a b c r :=
 lG 138 [1,3,1,1,2,1,1,1,2,2,1,1,1,2,2,1] [.a,.q,.t,.h 1 (.row b (ab v)),.aI [.o,iU v.toNat,.o,iU z],.aI [.o,.o,(.nat b),(.ev (.pv (vW v1))),.o,iW w,iW z1,(.nat b),(.cells (.pure (((c.set b z1):Ws).map ab).flatten))],.aI [.o,.o,(iI (((b+1):Nat):Int)),.o,iU z2,iW w1,(.nat (b+1)),(.cells (.pure ((((c.set b z1).set (b+1) w1):Ws).map ab).flatten))],.h 0 (iI (((b+1):Nat):Int)),.aB [1,5,13,14,15]] (Cg (af h1) (bd ab (Eq.refl (((b:Nat):Int):Int)) h2) (iA v) (Hi h3 (dG (k := .i64) h4)) (cj (Eq.refl (((b:Nat):Int):Int)) h5) (eK (enc:=ab) (f:=fun a=>(vW a)) (fun _=>rfl) h6) (bp h7) (nJ h8) (cj (Eq.refl (((b:Nat):Int):Int)) h5) (ee aF (c:Ws) z1 h9) (aH cL) (bA (k := .u64) ec) (bp gp) (cj (Eq.refl ((((b+1):Nat):Int):Int)) jz) (ee aF ((c.set b z1):Ws) w1 mG) (aH cL)) hL
theorem cW(n:Int)(a:Ws)(b:Nat)(c:Ws)(h1:a.length≤b)(h2:(a.length+1)=c.length):ag n a b c (aa c) :=
 lD 120 [1,3] [.a,.q,.f,.q,.eQ 4 ((c:Ws).map ab)] (y2 (an h1) (cM aF (c:Ws) h2))
end j8
namespace iY
@[reducible] def fn:Func:=Tryz.f116
def bg:List dB:=focus [0,2,0,2,0,0,2,0,0] [.code (az fn)]
def inv1(n:Int)(a:List UInt32)(tZ:Nat)(mb:List UInt32):St:=⟨[(1,(eI n)),(5,(.row 12 0 (a.length+1) 1)),(13,(.pv (aa a))),(14,(eI (a.length:Int))),(15,(eI (tZ:Int)))],[(12,(.pure ((mb:List UInt32).map ab).flatten))]⟩
@[reducible] def ag(n:Int)(a:List UInt32)(tZ:Nat)(mb:List UInt32)(sin:aD)(r:EV)(sout:aD):Prop:=LX bh fn bg (inv1 n a tZ mb) sin r sout
theorem e0(a:Ws)(n:Int){r:EV}{sout:aD}(h1:(a.length+1)<9223372036854775808)(h2:4*(a.length+1)≤140737488355328)(hL:ag n a 0 (List.replicate (a.length+1) (0:UInt32)) [] r sout):aq bh 116 [(.pv (aa a)),eI n] [] r sout :=
 Dl func116 87 [1,1,5,1] [.q,.aI [.o,(iI (a.length:Int)),(iI (((a.length+1):Nat):Int)),(.app (a.length+1) ((List.replicate (a.length+1) (0:UInt32):Ws).map ab).flatten)],.h 1 (iI (a.length:Int)),.aB [1,5,13,14,15]] (y4 (ak ab a) (aH h1) (oK ab 0 4 (a.length+1) (Eq.refl ((((a.length+1):Nat):Int):Int)) h2 rfl) (ak ab a)) hL
theorem l10(n:Int)(a:Ws)(b:Nat)(c:Ws)(v:UInt32)(k z:Nat)(v1 w z1:UInt32)(z2:Nat)(w1:UInt32){r:EV}{sout:aD}{sin:aD}(hs:sin.all (fun p=>Nat.ble fn.ntmps p.1)=true)(h1:b<a.length)(h2:a[b]? = some v)(h3:n=(k:Int))(h4:(v.toNat*2^(min k 64))%18446744073709551616=z)(h5:b<(a.length+1))(h6:c[b]? = some v1)(h7:z%4294967296=w.toNat)(h8:(v1.toNat%4294967296) ||| (w.toNat%4294967296)=z1.toNat)(h9:b<c.length)(cL:(b+1)<9223372036854775808)(ec:z/2^(min 32 64)=z2)(gp:z2%4294967296=w1.toNat)(jz:(b+1)<(a.length+1))(mG:(b+1)<(c.set b z1).length)(hL:ag n a (b+1) ((c.set b z1).set (b+1) w1) sin r sout):ag n a b c sin r sout :=
 BH 138 [1,3,1,1,2,1,1,1,2,2,1,1,1,2,2,1] [.a,.q,.t,.h 1 (.row b (ab v)),.aI [.o,iU v.toNat,.o,iU z],.aI [.o,.o,(.nat b),(.ev (.pv (vW v1))),.o,iW w,iW z1,(.nat b),(.cells (.pure (((c.set b z1):Ws).map ab).flatten))],.aI [.o,.o,(iI (((b+1):Nat):Int)),.o,iU z2,iW w1,(.nat (b+1)),(.cells (.pure ((((c.set b z1).set (b+1) w1):Ws).map ab).flatten))],.h 0 (iI (((b+1):Nat):Int)),.aB [1,5,13,14,15]] hs (Cg (af h1) (bd ab (Eq.refl (((b:Nat):Int):Int)) h2) (iA v) (Hi h3 (dG (k := .i64) h4)) (cj (Eq.refl (((b:Nat):Int):Int)) h5) (eK (enc:=ab) (f:=fun a=>(vW a)) (fun _=>rfl) h6) (bp h7) (nJ h8) (cj (Eq.refl (((b:Nat):Int):Int)) h5) (ee aF (c:Ws) z1 h9) (aH cL) (bA (k := .u64) ec) (bp gp) (cj (Eq.refl ((((b+1):Nat):Int):Int)) jz) (ee aF ((c.set b z1):Ws) w1 mG) (aH cL)) hL
theorem cW(n:Int)(a:Ws)(b:Nat)(c:Ws){sin:aD}(hs:sin.all (fun p=>Nat.ble fn.ntmps p.1)=true)(hi:sin.all (fun p=>o5 p.1||(aD.get [(0,(.pure (((c.take (a.length+1)):Ws).map ab).flatten))] p.1).isSome)=true)(h1:a.length≤b):ag n a b c sin (.row 0 0 (a.length+1) 1) [(0,(.pure (((c.take (a.length+1)):Ws).map ab).flatten))] :=
 xe 120 [1,1] [.a,.q,.f,.q,.uR 12 0,.cut 0 ((a.length+1)*1) (((c.take (a.length+1)):Ws).map ab).flatten,.ord [0]] hs hi (y2 (an h1) (pJ aF (c:Ws) (a.length+1)))
end iY
namespace fg
@[reducible] def fn:Func:=Tryz.f117
def bg:List dB:=focus [0,2,0,2,0,0,2,0,0] [.code (az fn)]
def inv1(off len:Nat)(v:List UInt32)(n mc ua Ho:Nat)(aR:List UInt32):St:=⟨[(0,(.row 100000 off len 1)),(1,(.pv (aa v))),(2,(eU n)),(7,(eU mc)),(8,(eU ua)),(12,(eI (len:Int))),(13,(eI (Ho:Int)))],[(100000,(.pure ((aR:List UInt32).map ab).flatten))]⟩
@[reducible] def ag(off len:Nat)(v:List UInt32)(n mc ua Ho:Nat)(aR:List UInt32)(sin:aD)(r:EV)(sout:aD):Prop:=LX bh fn bg (inv1 off len v n mc ua Ho aR) sin r sout
theorem e0 (u : Ws) (a b : Nat) (v : Ws) (n : Nat) {r : EV} {sout : aD}  (hL : ag a b v n 0 0 0 u [(100000, (.pure ((u : Ws).map ab).flatten))] r sout) : aq bh 117 [(.row 100000 a b 1), (.pv (aa v)), eU n] [(100000, (.pure ((u : Ws).map ab).flatten))] r sout :=
 Dl func117 87 [] [.q,.q,.q,.aB [0,1,2,7,8,12,13]] True.intro hL
theorem l10(b c:Nat)(v:Ws)(n g i j:Nat)(l:Ws)(m p s:Nat)(v1 w:UInt32)(d d1:Nat)(w1:UInt32)(z z1:Nat){r:EV}{sout:aD}{sin:aD}(hs:sin.all (fun p=>Nat.ble fn.ntmps p.1)=true)(h1:j<c)(h2:Cp 123 [aa v,(vI (j:Int))] (vU m))(h3:(n*m)%18446744073709551616=p)(h4:(g+p)%18446744073709551616=s)(h5:l[b+j]? = some v1)(h6:s%4294967296=w.toNat)(h7:((v1.toNat:Nat)-(w.toNat:Nat):Int)%18446744073709551616=(d:Int))(h8:((d:Nat)-(i:Nat):Int)%18446744073709551616=(d1:Int))(h9:d1%4294967296=w1.toNat)(cL:(b+j)<l.length)(ec:d1/2^(min 63 64)=z)(gp:s/2^(min 32 64)=z1)(jz:(j+1)<9223372036854775808)(hL:ag b c v n z1 z (j+1) (l.set (b+j) w1) sin r sout):ag b c v n g i j l sin r sout :=
 BH 150 [1,1,1,1,2,1,1,1,1,1,1,1,2,2,1,1,1] [.a,.q,.t,.q,.aI [.o,.o,.o,.o,(.pv (vU m)),iU p,iU s],.aI [.o,.o,(.nat j),(.ev (.pv (vW v1))),iU v1.toNat,.o,iW w,iU w.toNat,iU d,.o,iU d1],.aI [.o,.o,.o,iW w1,(.nat j),(.cells (.pure (((l.set (b+j) w1):Ws).map ab).flatten))],.h 1 (iU z),.h 1 (iU z1),.h 0 (iI (((j+1):Nat):Int)),.aB [0,1,2,7,8,12,13]] hs (Jo (af h1) h2 (iz h3) (bM h4) (cj (Eq.refl (((j:Nat):Int):Int)) h1) (oL (enc:=ab) (f:=fun a=>(vW a)) (fun _=>rfl) h5) (iA v1) (bp h6) (iA w) (bN h7) (bN h8) (bp h9) (cj (Eq.refl (((j:Nat):Int):Int)) h1) (Dk aF (l:Ws) w1 b j cL) (bA (k := .u64) ec) (bA (k := .u64) gp) (aH jz)) hL
theorem cW(b c:Nat)(v:Ws)(n d g i:Nat)(j:Ws){sin:aD}(hs:sin.all (fun p=>Nat.ble fn.ntmps p.1)=true)(hi:sin.all (fun p=>o5 p.1||(aD.get [(100000,(.pure ((j:Ws).map ab).flatten))] p.1).isSome)=true)(h1:c≤i):ag b c v n d g i j sin (.pv (vB ((g:Int)==1))) [(100000,(.pure ((j:Ws).map ab).flatten))] :=
 xe 120 [1] [.a,.q,.f,.q,.ord [100000]] hs hi (y1 (an h1))
end fg
namespace hZ
@[reducible] def fn:Func:=Tryz.f118
def bg:List dB:=focus [0,2,0,2,0,0] [.code (az fn)]
def inv1(off len:Nat)(v:List UInt32)(wH ub:Nat)(aR:List UInt32):St:=⟨[(0,(.row 100000 off len 1)),(1,(.pv (aa v))),(4,(eU wH)),(7,(eI (len:Int))),(8,(eI (ub:Int)))],[(100000,(.pure ((aR:List UInt32).map ab).flatten))]⟩
@[reducible] def ag(off len:Nat)(v:List UInt32)(wH ub:Nat)(aR:List UInt32)(sin:aD)(r:EV)(sout:aD):Prop:=LX bh fn bg (inv1 off len v wH ub aR) sin r sout
theorem e0 (u : Ws) (a b : Nat) (v : Ws) {r : EV} {sout : aD}  (hL : ag a b v 0 0 u [(100000, (.pure ((u : Ws).map ab).flatten))] r sout) : aq bh 118 [(.row 100000 a b 1), (.pv (aa v))] [(100000, (.pure ((u : Ws).map ab).flatten))] r sout :=
 Dl func118 78 [] [.q,.q,.aB [0,1,4,7,8]] True.intro hL
theorem l10(b c:Nat)(v:Ws)(d g:Nat)(i:Ws)(v1:UInt32)(j s s1:Nat)(w:UInt32)(z:Nat){r:EV}{sout:aD}{sin:aD}(hs:sin.all (fun p=>Nat.ble fn.ntmps p.1)=true)(h1:g<c)(h2:i[b+g]? = some v1)(h3:Cp 123 [aa v,(vI (g:Int))] (vU j))(h4:(v1.toNat+j)%18446744073709551616=s)(h5:(d+s)%18446744073709551616=s1)(h6:s1%4294967296=w.toNat)(h7:(b+g)<i.length)(h8:s1/2^(min 32 64)=z)(h9:(g+1)<9223372036854775808)(hL:ag b c v z (g+1) (i.set (b+g) w) sin r sout):ag b c v d g i sin r sout :=
 BH 129 [1,2,1,1,1,1,1,1,2,2,1,1] [.a,.q,.t,.q,dr 11 1 [.none,.none,.none,(.nat g),(.ev (.pv (vW v1))),iU v1.toNat,.none,.none,(.pv (vU j)),iU s,iU s1],.aI [.o,.o,.o,iW w,(.nat g),(.cells (.pure (((i.set (b+g) w):Ws).map ab).flatten))],.h 1 (iU z),.h 0 (iI (((g+1):Nat):Int)),.aB [0,1,4,7,8]] hs (Ev (af h1) (cj (Eq.refl (((g:Nat):Int):Int)) h1) (oL (enc:=ab) (f:=fun a=>(vW a)) (fun _=>rfl) h2) (iA v1) h3 (bM h4) (bM h5) (bp h6) (cj (Eq.refl (((g:Nat):Int):Int)) h1) (Dk aF (i:Ws) w b g h7) (bA (k := .u64) h8) (aH h9)) hL
theorem cW(b c:Nat)(v:Ws)(d g:Nat)(i:Ws){sin:aD}(hs:sin.all (fun p=>Nat.ble fn.ntmps p.1)=true)(hi:sin.all (fun p=>o5 p.1||(aD.get [(100000,(.pure ((i:Ws).map ab).flatten))] p.1).isSome)=true)(h1:c≤g):ag b c v d g i sin (.pv (.aY [])) [(100000,(.pure ((i:Ws).map ab).flatten))] :=
 xe 105 [1] [.a,.q,.f,.ord [100000]] hs hi (y1 (an h1))
end hZ
namespace ia
@[reducible] def fn:Func:=Tryz.f119
def bg:List dB:=focus [0,2,0,2,0,0,2,0,0] [.code (az fn)]
def inv1(a:List UInt32)(n:Int)(Hp:Nat)(en:List UInt32):St:=⟨[(0,(.pv (aa a))),(1,(eI n)),(5,(.row 9 0 a.length 1)),(11,(eI (a.length:Int))),(12,(eI (Hp:Int)))],[(9,(.pure ((en:List UInt32).map ab).flatten))]⟩
@[reducible] def ag(a:List UInt32)(n:Int)(Hp:Nat)(en:List UInt32)(r:PV):Prop:=L bh fn bg (inv1 a n Hp en) r
theorem e0(a:Ws)(n:Int){r:PV}(h1:4*a.length≤140737488355328)(hL:ag a n 0 (List.replicate a.length (0:UInt32)) r):Cp 119 [aa a,vI n] r :=
 eG func119 87 [1,5,1] [.q,.aI [.o,(iI (a.length:Int)),(.app a.length ((List.replicate a.length (0:UInt32):Ws).map ab).flatten)],.h 1 (iI (a.length:Int)),.aB [0,1,5,11,12]] (y3 (ak ab a) (oK ab 0 4 a.length (Eq.refl (((a.length:Nat):Int):Int)) h1 rfl) (ak ab a)) hL
theorem l10(a:Ws)(n:Int)(b:Nat)(c:Ws)(v:UInt32)(d z z1 k z2:Nat)(w:UInt32){r:PV}(h1:b<a.length)(h2:a[b]? = some v)(h3:(b+1)<9223372036854775808)(h4:Cp 123 [aa a,(vI (((b+1):Nat):Int))] (vU d))(h5:(d*2^(min 32 64))%18446744073709551616=z)(h6:(v.toNat%18446744073709551616) ||| (z%18446744073709551616)=z1)(h7:n=(k:Int))(h8:z1/2^(min k 64)=z2)(h9:z2%4294967296=w.toNat)(cL:b<c.length)(hL:ag a n (b+1) (c.set b w) r):ag a n b c r :=
 lG 126 [1,3,1,1,1,1,1,1,1,2,2,1] [.a,.q,.t,.q,dr 17 1 [.none,.none,.none,.none,(.row b (ab v)),.none,iU v.toNat,.none,.none,(iI (((b+1):Nat):Int)),(.pv (vU d)),iU z,iU z1,.none,iU z2,iW w,(.nat b),(.cells (.pure (((c.set b w):Ws).map ab).flatten))],.h 0 (iI (((b+1):Nat):Int)),.aB [0,1,5,11,12]] (Ev (af h1) (bd ab (Eq.refl (((b:Nat):Int):Int)) h2) (iA v) (aH h3) h4 (dG (k := .u64) h5) (gH h6) (Hi h7 (bA (k := .i64) h8)) (bp h9) (cj (Eq.refl (((b:Nat):Int):Int)) h1) (ee aF (c:Ws) w cL) (aH h3)) hL
theorem cW(a:Ws)(n:Int)(b:Nat)(c d:Ws)(h1:a.length≤b)(h2:a.length=c.length)(h3:Cp 104 [aa c] (aa d)):ag a n b c (aa d) :=
 lD 120 [1,3,1] [.a,.q,.f,.eQ 5 ((c:Ws).map ab),.h 1 (.pv (aa d))] (y3 (an h1) (cM aF (c:Ws) h2) h3)
end ia
namespace me
theorem e0(m:Ws)(i:Int)(k:Nat)(v:UInt32)(h1:i<(m.length:Int))(h2:i=(k:Int))(h3:m[k]? = some v):Cp 123 [aa m,vI i] (vU v.toNat) :=
 eD func123 84 [1,1,3,1] [.q,.h 2 (iI (m.length:Int)),.t,.aI [.o,.o,(.row k (ab v)),.o,iU v.toNat]] (y4 (ak ab m) (cA h1) (bd ab h2 h3) (iA v))
theorem e1(m:Ws)(i:Int)(h1:(m.length:Int)≤i):Cp 123 [aa m,vI i] (vU 0) :=
 eD func123 87 [1,1] [.q,.h 2 (iI (m.length:Int)),.f,.q] (y2 (ak ab m) (cY h1))
end me
namespace eL
theorem e0(x z z1:UInt32)(m b:Nat)(h1:65536≤x.toNat)(h2:x.toNat/2^(min 16 32)=z.toNat)(h3:256≤z.toNat)(h4:z.toNat/2^(min 8 32)=z1.toNat)(h5:z1.toNat%256=m)(h6:((ByteArray.mk #[0,1,2,2,3,3,3,3,4,4,4,4,4,4,4,4,5,5,5,5,5,5,5,5,5,5,5,5,5,5,5,5,6,6,6,6,6,6,6,6,6,6,6,6,6,6,6,6,6,6,6,6,6,6,6,6,6,6,6,6,6,6,6,6,7,7,7,7,7,7,7,7,7,7,7,7,7,7,7,7,7,7,7,7,7,7,7,7,7,7,7,7,7,7,7,7,7,7,7,7,7,7,7,7,7,7,7,7,7,7,7,7,7,7,7,7,7,7,7,7,7,7,7,7,7,7,7,7,8,8,8,8,8,8,8,8,8,8,8,8,8,8,8,8,8,8,8,8,8,8,8,8,8,8,8,8,8,8,8,8,8,8,8,8,8,8,8,8,8,8,8,8,8,8,8,8,8,8,8,8,8,8,8,8,8,8,8,8,8,8,8,8,8,8,8,8,8,8,8,8,8,8,8,8,8,8,8,8,8,8,8,8,8,8,8,8,8,8,8,8,8,8,8,8,8,8,8,8,8,8,8,8,8,8,8,8,8,8,8,8,8,8,8,8,8,8,8,8,8,8,8,8,8,8,8,8]).data.toList[m]?).map (fun b=>(b.toNat:Int))=some (b:Int))(h7:b<9223372036854775808)(h8:(24+b)<9223372036854775808):Cp 134 [vW x] (vI (((24+b):Nat):Int)) :=
 eD func134 114 [1,1,1,1,1,2,1,1] [.q,.q,.t,.h 1 (iW z),.q,.q,.t,.h 1 (iW z1),.q,.aI [.o,.o,(.pv (.int .u8 (m:Int))),(.row m [.int .u8 (b:Int)]),(iI (b:Int)),(iI (((24+b):Nat):Int))]] (y8 (bE h1) (gu (k := .u64) h2) (bE h3) (gu (k := .u64) h4) (wB h5) (cj (Eq.refl (((m:Nat):Int):Int)) h6) (sx h7) (aH h8))
theorem e1(x z:UInt32)(m b:Nat)(h1:65536≤x.toNat)(h2:x.toNat/2^(min 16 32)=z.toNat)(h3:z.toNat<256)(h4:z.toNat%256=m)(h5:((ByteArray.mk #[0,1,2,2,3,3,3,3,4,4,4,4,4,4,4,4,5,5,5,5,5,5,5,5,5,5,5,5,5,5,5,5,6,6,6,6,6,6,6,6,6,6,6,6,6,6,6,6,6,6,6,6,6,6,6,6,6,6,6,6,6,6,6,6,7,7,7,7,7,7,7,7,7,7,7,7,7,7,7,7,7,7,7,7,7,7,7,7,7,7,7,7,7,7,7,7,7,7,7,7,7,7,7,7,7,7,7,7,7,7,7,7,7,7,7,7,7,7,7,7,7,7,7,7,7,7,7,7,8,8,8,8,8,8,8,8,8,8,8,8,8,8,8,8,8,8,8,8,8,8,8,8,8,8,8,8,8,8,8,8,8,8,8,8,8,8,8,8,8,8,8,8,8,8,8,8,8,8,8,8,8,8,8,8,8,8,8,8,8,8,8,8,8,8,8,8,8,8,8,8,8,8,8,8,8,8,8,8,8,8,8,8,8,8,8,8,8,8,8,8,8,8,8,8,8,8,8,8,8,8,8,8,8,8,8,8,8,8,8,8,8,8,8,8,8,8,8,8,8,8,8,8,8,8,8,8]).data.toList[m]?).map (fun b=>(b.toNat:Int))=some (b:Int))(h6:b<9223372036854775808)(h7:(16+b)<9223372036854775808):Cp 134 [vW x] (vI (((16+b):Nat):Int)) :=
 eD func134 108 [1,1,1,1,2,1,1] [.q,.q,.t,.h 1 (iW z),.q,.q,.f,.aI [.o,.o,(.pv (.int .u8 (m:Int))),(.row m [.int .u8 (b:Int)]),(iI (b:Int)),(iI (((16+b):Nat):Int))]] (y7 (bE h1) (gu (k := .u64) h2) (aP h3) (wB h4) (cj (Eq.refl (((m:Nat):Int):Int)) h5) (sx h6) (aH h7))
theorem e2(x z:UInt32)(m b:Nat)(h1:x.toNat<65536)(h2:256≤x.toNat)(h3:x.toNat/2^(min 8 32)=z.toNat)(h4:z.toNat%256=m)(h5:((ByteArray.mk #[0,1,2,2,3,3,3,3,4,4,4,4,4,4,4,4,5,5,5,5,5,5,5,5,5,5,5,5,5,5,5,5,6,6,6,6,6,6,6,6,6,6,6,6,6,6,6,6,6,6,6,6,6,6,6,6,6,6,6,6,6,6,6,6,7,7,7,7,7,7,7,7,7,7,7,7,7,7,7,7,7,7,7,7,7,7,7,7,7,7,7,7,7,7,7,7,7,7,7,7,7,7,7,7,7,7,7,7,7,7,7,7,7,7,7,7,7,7,7,7,7,7,7,7,7,7,7,7,8,8,8,8,8,8,8,8,8,8,8,8,8,8,8,8,8,8,8,8,8,8,8,8,8,8,8,8,8,8,8,8,8,8,8,8,8,8,8,8,8,8,8,8,8,8,8,8,8,8,8,8,8,8,8,8,8,8,8,8,8,8,8,8,8,8,8,8,8,8,8,8,8,8,8,8,8,8,8,8,8,8,8,8,8,8,8,8,8,8,8,8,8,8,8,8,8,8,8,8,8,8,8,8,8,8,8,8,8,8,8,8,8,8,8,8,8,8,8,8,8,8,8,8,8,8,8,8]).data.toList[m]?).map (fun b=>(b.toNat:Int))=some (b:Int))(h6:b<9223372036854775808)(h7:(8+b)<9223372036854775808):Cp 134 [vW x] (vI (((8+b):Nat):Int)) :=
 eD func134 108 [1,1,1,1,2,1,1] [.q,.q,.f,.q,.t,.h 1 (iW z),.q,.aI [.o,.o,(.pv (.int .u8 (m:Int))),(.row m [.int .u8 (b:Int)]),(iI (b:Int)),(iI (((8+b):Nat):Int))]] (y7 (aP h1) (bE h2) (gu (k := .u64) h3) (wB h4) (cj (Eq.refl (((m:Nat):Int):Int)) h5) (sx h6) (aH h7))
theorem e3(x:UInt32)(m b:Nat)(h1:x.toNat<65536)(h2:x.toNat<256)(h3:x.toNat%256=m)(h4:((ByteArray.mk #[0,1,2,2,3,3,3,3,4,4,4,4,4,4,4,4,5,5,5,5,5,5,5,5,5,5,5,5,5,5,5,5,6,6,6,6,6,6,6,6,6,6,6,6,6,6,6,6,6,6,6,6,6,6,6,6,6,6,6,6,6,6,6,6,7,7,7,7,7,7,7,7,7,7,7,7,7,7,7,7,7,7,7,7,7,7,7,7,7,7,7,7,7,7,7,7,7,7,7,7,7,7,7,7,7,7,7,7,7,7,7,7,7,7,7,7,7,7,7,7,7,7,7,7,7,7,7,7,8,8,8,8,8,8,8,8,8,8,8,8,8,8,8,8,8,8,8,8,8,8,8,8,8,8,8,8,8,8,8,8,8,8,8,8,8,8,8,8,8,8,8,8,8,8,8,8,8,8,8,8,8,8,8,8,8,8,8,8,8,8,8,8,8,8,8,8,8,8,8,8,8,8,8,8,8,8,8,8,8,8,8,8,8,8,8,8,8,8,8,8,8,8,8,8,8,8,8,8,8,8,8,8,8,8,8,8,8,8,8,8,8,8,8,8,8,8,8,8,8,8,8,8,8,8,8,8]).data.toList[m]?).map (fun b=>(b.toNat:Int))=some (b:Int))(h5:b<9223372036854775808)(h6:(0+b)<9223372036854775808):Cp 134 [vW x] (vI (((0+b):Nat):Int)) :=
 eD func134 102 [1,1,1,2,1,1] [.q,.q,.f,.q,.f,.aI [.o,.o,(.pv (.int .u8 (m:Int))),(.row m [.int .u8 (b:Int)]),(iI (b:Int)),(iI (((0+b):Nat):Int))]] (y6 (aP h1) (aP h2) (wB h3) (cj (Eq.refl (((m:Nat):Int):Int)) h4) (sx h5) (aH h6))
end eL
end Go.Proofs.YtnjhplhbmapclaaGreatDoor.Sym.Path
end
