/- Lemmas for the statements of this seat. -/
import Derived.Test.YtnjhplhbmapclaaGreatDoorT0
noncomputable section
namespace Go.Proofs.YtnjhplhbmapclaaGreatDoor.Sym.Path
open Go Tryz
set_option maxRecDepth 20000
set_option linter.unusedVariables false
namespace eo
theorem e0(a:aj)(b:Ws)(h1:Cp 85 [a.pv] (aa b))(h2:b.length=0):Cp 56 [a.pv] (vI 0) :=
 eD func56 84 [1,1,1] [.q,.aI [.o,(.pv (aa b)),(iI (b.length:Int))],.t,.q] (y3 h1 (ak ab b) (aA h2))
theorem e1(a:aj)(b:Ws)(c:Bool)(h1:Cp 85 [a.pv] (aa b))(h2:b.length≠0)(h3:Cp 86 [a.pv] (vB c))(h4:c=true):Cp 56 [a.pv] (vI (-1)) :=
 eD func56 99 [1,1,1,1,1] [.q,.aI [.o,(.pv (aa b)),(iI (b.length:Int))],.f,.h 1 (.pv (vB c)),.t,.q] (y5 h1 (ak ab b) (av h2) h3 h4)
theorem e2(a:aj)(b:Ws)(c:Bool)(h1:Cp 85 [a.pv] (aa b))(h2:b.length≠0)(h3:Cp 86 [a.pv] (vB c))(h4:c=false):Cp 56 [a.pv] (vI 1) :=
 eD func56 102 [1,1,1,1,1] [.q,.aI [.o,(.pv (aa b)),(iI (b.length:Int))],.f,.h 1 (.pv (vB c)),.f,.q] (y5 h1 (ak ab b) (av h2) h3 h4)
end eo
namespace kI
theorem e0(a b c:aj)(d:Int)(h1:Cp 87 [a.pv,b.pv] c.pv)(h2:Cp 56 [c.pv] (vI d)):Cp 57 [a.pv,b.pv] (vI d) :=
 eD func57 72 [1,1] [.q,.aI [.o,.o,(.pv c.pv),(.pv (vI d))]] (y2 h1 h2)
end kI
namespace aW
@[reducible] def fn:Func:=Tryz.f59
def bg:List dB:=focus [0,2,0,2,0,0,2,1,2,0,2,0,0,0] [.code (az fn)]
def inv1(Dp:List UInt32)(Dq:ByteArray)(a:aj):St:=⟨[(1,(.ptr 1 0)),(3,(.pv (aa Dp))),(4,(.pv (.str Dq)))],[(1,(.lit [(eB a.neg),(.pv (aa a.bw))]))]⟩
@[reducible] def ag(Dp:List UInt32)(Dq:ByteArray)(a:aj)(r:PV):Prop:=L bh fn bg (inv1 Dp Dq a) r
def jt:List dB:=focus [0,2,0,2,0,0,2,1,2,0,2,0,0,0,0,0,0,2,0,2,0,0,2,0,2,0,0,2,0,0] [.code (az fn)]
def inv2(Dp:List UInt32)(Dq:ByteArray)(oQ zL:Nat)(Lw:Int)(a:aj)(wI:List UInt32):St:=⟨[(1,(.ptr 1 0)),(3,(.pv (aa Dp))),(4,(.pv (.str Dq))),(5,(eU oQ)),(6,(.row 19 0 zL 1)),(7,(eI Lw))],[(1,(.lit [(eB a.neg),(.pv (aa a.bw))])),(19,(.pure ((wI:List UInt32).map ab).flatten))]⟩
@[reducible] def aM(Dp:List UInt32)(Dq:ByteArray)(oQ zL:Nat)(Lw:Int)(a:aj)(wI:List UInt32)(r:PV):Prop:=L bh fn jt (inv2 Dp Dq oQ zL Lw a wI) r
def Dr:List dB:=focus [0,2,0,2,0,0,2,1,2,0,2,0,0,0,0,0,0,2,0,2,0,0,2,0,2,0,0,2,0,0,0,0,0,2,1,2,2,2,2,0,2,0,2,0,0] [.code (az fn)]
def Ds(Lx:List UInt32)(Dq:ByteArray)(oQ Ly:Nat)(a:aj):St:=⟨[(1,(.ptr 1 0)),(3,(.pv (aa Lx))),(4,(.pv (.str Dq))),(5,(eU oQ)),(8,(eI (Ly:Int)))],[(1,(.lit [(eB a.neg),(.pv (aa a.bw))]))]⟩
@[reducible] def gg(Lx:List UInt32)(Dq:ByteArray)(oQ Ly:Nat)(a:aj)(r:PV):Prop:=L bh fn Dr (Ds Lx Dq oQ Ly a) r
theorem e0(a:aj)(b:Ws)(h1:Cp 85 [a.pv] (aa b))(h2:b.length=0):Cp 59 [a.pv] (.str (ByteArray.mk #[48])) :=
 eD func59 90 [1,1,1] [.q,.h 1 (.pv (aa b)),.h 1 (iI (b.length:Int)),.t,.q] (y3 h1 (ak ab b) (aA h2))
theorem e1(a:aj)(b:Ws){r:PV}(h1:Cp 85 [a.pv] (aa b))(h2:b.length≠0)(hL:ag b (ByteArray.mk #[]) a r):Cp 59 [a.pv] r :=
 eG func59 102 [1,1,1] [.q,.h 1 (.pv (aa b)),.h 1 (iI (b.length:Int)),.f,.q,.aB [1,3,4]] (y3 h1 (ak ab b) (av h2)) hL
theorem l10(b:Ws)(c:ByteArray)(a:aj){r:PV}(h1:0<b.length)(h2:4*b.length≤140737488355328)(h3:ar ((b.length:Int)-1))(hL:aM b c 0 b.length ((b.length:Int)-1) a (List.replicate b.length (0:UInt32)) r):ag b c a r :=
 lG 150 [1,1,1,5,1,1] [.a,.h 1 (iI (b.length:Int)),.t,.q,.aI [.o,(iI (b.length:Int)),(.app b.length ((List.replicate b.length (0:UInt32):Ws).map ab).flatten)],.aI [.o,(iI (b.length:Int)),(iI ((b.length:Int)-1))],.aB [1,3,4,5,6,7],.ord [1,19]] (y6 (ak ab b) (af h1) (ak ab b) (oK ab 0 4 b.length (Eq.refl (((b.length:Nat):Int):Int)) h2 rfl) (ak ab b) (aG h3)) hL
theorem cW(b:Ws)(c:ByteArray)(a:aj)(d:Bool)(h1:b.length≤0)(h2:Cp 86 [a.pv] (vB d))(h3:d=true)(h4:(ByteArray.mk #[45]).size+c.size<9223372036854775808):ag b c a (.str ((ByteArray.mk #[45])++c)) :=
 lD 147 [1,1,1,1,1] [.a,.h 1 (iI (b.length:Int)),.f,.h 1 (.pv (vB d)),.t,.h 1 (.pv (.str ((ByteArray.mk #[45])++c)))] (y5 (ak ab b) (an h1) h2 h3 (bI h4))
theorem mD(b:Ws)(c:ByteArray)(a:aj)(d:Bool)(h1:b.length≤0)(h2:Cp 86 [a.pv] (vB d))(h3:d=false):ag b c a (.str c) :=
 lD 150 [1,1,1,1] [.a,.h 1 (iI (b.length:Int)),.f,.h 1 (.pv (vB d)),.f,.q] (y4 (ak ab b) (an h1) h2 h3)
theorem tY(b:Ws)(c:ByteArray)(d g:Nat)(i:Int)(a:aj)(j:Ws)(z k:Nat)(v:UInt32)(z1 q:Nat)(w:UInt32)(k1 m:Nat){r:PV}(h1:0≤i)(h2:(d*2^(min 32 64))%18446744073709551616=z)(h3:i=(k:Int))(h4:b[k]? = some v)(h5:(z%18446744073709551616) ||| (v.toNat%18446744073709551616)=z1)(h6:1000000000≠0)(h7:(z1/1000000000)%18446744073709551616=q)(h8:q%4294967296=w.toNat)(h9:i=(k1:Int))(cL:k1<g)(ec:k1<j.length)(gp:z1%1000000000=m)(jz:ar (i-1))(hL:aM b c m g (i-1) a (j.set k1 w) r):aM b c d g i a j r :=
 lG 195 [1,1,3,1,1,1,1,2,2,1,1] [.a,.q,.t,.aI [.o,iU z,.o,.o,(.row k (ab v)),.o,iU v.toNat,iU z1],.aI [.o,.o,.o,iU q,iW w,(.nat k1),(.cells (.pure (((j.set k1 w):Ws).map ab).flatten))],.h 1 (iU m),.h 1 (iI (i-1)),.aB [1,3,4,5,6,7]] (xZ (di h1) (dG (k := .u64) h2) (bd ab h3 h4) (iA v) (gH h5) (lX h6 h7) (bp h8) (cj h9 cL) (ee aF (j:Ws) w ec) (j0 h6 gp) (aG jz)) hL
theorem sf(b:Ws)(c:ByteArray)(d g:Nat)(i:Int)(a:aj)(j k:Ws){r:PV}(h1:i<0)(h2:g=j.length)(h3:Cp 88 [aa j] (aa k))(hL:gg k c d 0 a r):aM b c d g i a j r :=
 lG 195 [1,3,1] [.a,.q,.f,.eQ 6 ((j:Ws).map ab),.h 1 (.pv (aa k)),.q,.aB [1,3,4,5,8]] (y3 (jx h1) (cM aF (j:Ws) h2) h3) hL
theorem Hq(b:Ws)(c:ByteArray)(d g:Nat)(a:aj)(m m1 s q:Nat){r:PV}(h1:g<9)(h2:0<d)(h3:10≠0)(h4:d%10=m)(h5:d%10=m1)(h6:(m1+1)%18446744073709551616=s)(h7:m≤s)(h8:s≤(ByteArray.mk #[48,49,50,51,52,53,54,55,56,57]).size)(h9:((ByteArray.mk #[48,49,50,51,52,53,54,55,56,57]).extract m s).size+c.size<9223372036854775808)(cL:(d/10)%18446744073709551616=q)(ec:(g+1)<9223372036854775808)(hL:gg b (((ByteArray.mk #[48,49,50,51,52,53,54,55,56,57]).extract m s)++c) q (g+1) a r):gg b c d g a r :=
 lG 234 [1,1,1,1,1,1,1,1,1,1,1,1,4,1,1,1] [.a,.aI [.o,.o,.o,.o,.o,.o,.skip,.skip,.skip,(.dec true),(.dec true)],.a,.aI [.o,iU m,.o,iU m1,iU s,(.kV m s []),.o,(.pv (.str (((ByteArray.mk #[48,49,50,51,52,53,54,55,56,57]).extract m s)++c)))],.h 1 (iU q),.h 1 (iI (((g+1):Nat):Int)),.aB [1,3,4,5,8]] (Cg (af h1) (af h1) (af h1) (af h2) (af h2) (af h2) (af h1) (af h2) (af h1) (j0 h3 h4) (j0 h3 h5) (bM h6) (cj (Eq.refl (((m:Nat):Int):Int)) (cj (Eq.refl (((s:Nat):Int):Int)) (cj h7 h8))) (bI h9) (lX h3 cL) (aH ec)) hL
theorem Ow(b:Ws)(c:ByteArray)(d g:Nat)(a:aj){r:PV}(h1:g<9)(h2:d≤0)(h3:b.length≤0)(hL:ag b c a r):gg b c d g a r :=
 lG 225 [1,1,1,1,1,1,1,1,1,1,1] [.a,.aI [.o,.o,.o,.o,.o,.o,.o,(iI (b.length:Int)),.o,(.dec false),(.dec true)],.f,.aB [1,3,4]] (xZ (af h1) (af h1) (af h1) (an h2) (an h2) (ak ab b) (an h2) (af h1) (an h2) (af h1) (an h3)) hL
theorem Ox(b:Ws)(c:ByteArray)(d g:Nat)(a:aj){r:PV}(h1:9≤g)(hL:ag b c a r):gg b c d g a r :=
 lG 225 [1,1,1,1,1] [.a,.aI [.o,.o,.o,.skip,.skip,.skip,.skip,.skip,.skip,.skip,(.dec false)],.a,.aB [1,3,4]] (y5 (an h1) (an h1) (an h1) (an h1) (an h1)) hL
end aW
namespace kJ
theorem e0(a b:aj)(c d g:Ws)(i:aj)(h1:Cp 85 [a.pv] (aa c))(h2:Cp 85 [b.pv] (aa d))(h3:Cp 92 [aa c,aa d] (aa g))(h4:Cp 91 [vB false,aa g] i.pv):Cp 63 [a.pv,b.pv] i.pv :=
 eD func63 72 [1,1,1,1] [.q,dr 6 1 [.none,(.pv (aa c)),.none,(.pv (aa d)),(.pv (aa g)),(.pv i.pv)]] (y4 h1 h2 h3 h4)
end kJ
namespace eX
theorem e0(a b:aj)(c d:Ws)(g i j:Bool)(k:Ws)(l:aj)(h1:Cp 85 [a.pv] (aa c))(h2:Cp 85 [b.pv] (aa d))(h3:Cp 86 [a.pv] (vB g))(h4:Cp 86 [b.pv] (vB i))(h5:g=i)(h6:Cp 86 [a.pv] (vB j))(h7:Cp 100 [aa c,aa d] (aa k))(h8:Cp 91 [vB j,aa k] l.pv):Cp 69 [a.pv,b.pv] l.pv :=
 eD func69 90 [1,1,1,1,1,1,1,1] [.q,dr 4 2 [.none,(.pv (aa c)),.none,(.pv (aa d))],dr 5 0 [.none,(.pv (vB g)),.none,(.pv (vB i))],.t,.aI [.o,(.pv (vB j)),.o,.o,(.pv (aa k)),(.pv l.pv)]] (y8 h1 h2 h3 h4 (kE h5) h6 h7 h8)
theorem e1(a b:aj)(c d:Ws)(g i:Bool)(j:Int)(k:Bool)(l:Ws)(m:aj)(h1:Cp 85 [a.pv] (aa c))(h2:Cp 85 [b.pv] (aa d))(h3:Cp 86 [a.pv] (vB g))(h4:Cp 86 [b.pv] (vB i))(h5:g≠i)(h6:Cp 101 [aa c,aa d] (vI j))(h7:0≤j)(h8:Cp 86 [a.pv] (vB k))(h9:Cp 102 [aa c,aa d] (aa l))(cL:Cp 91 [vB k,aa l] m.pv):Cp 69 [a.pv,b.pv] m.pv :=
 eD func69 105 [1,1,1,1,1,1,1,1,1,1] [.q,dr 4 2 [.none,(.pv (aa c)),.none,(.pv (aa d))],dr 5 0 [.none,(.pv (vB g)),.none,(.pv (vB i))],.f,.h 2 (.pv (vI j)),.t,.aI [.o,(.pv (vB k)),.o,.o,(.pv (aa l)),(.pv m.pv)]] (Eu h1 h2 h3 h4 (om h5) h6 (di h7) h8 h9 cL)
theorem e2(a b:aj)(c d:Ws)(g i:Bool)(j:Int)(k:Bool)(l:Ws)(m:aj)(h1:Cp 85 [a.pv] (aa c))(h2:Cp 85 [b.pv] (aa d))(h3:Cp 86 [a.pv] (vB g))(h4:Cp 86 [b.pv] (vB i))(h5:g≠i)(h6:Cp 101 [aa c,aa d] (vI j))(h7:j<0)(h8:Cp 86 [b.pv] (vB k))(h9:Cp 102 [aa d,aa c] (aa l))(cL:Cp 91 [vB k,aa l] m.pv):Cp 69 [a.pv,b.pv] m.pv :=
 eD func69 108 [1,1,1,1,1,1,1,1,1,1] [.q,dr 4 2 [.none,(.pv (aa c)),.none,(.pv (aa d))],dr 5 0 [.none,(.pv (vB g)),.none,(.pv (vB i))],.f,.h 2 (.pv (vI j)),.f,.aI [.o,(.pv (vB k)),.o,.o,(.pv (aa l)),(.pv m.pv)]] (Eu h1 h2 h3 h4 (om h5) h6 (jx h7) h8 h9 cL)
end eX
namespace kK
theorem e0(a b:aj)(c d:Bool)(g i j:Ws)(k:aj)(h1:Cp 86 [a.pv] (vB c))(h2:Cp 86 [b.pv] (vB d))(h3:Cp 85 [a.pv] (aa g))(h4:Cp 85 [b.pv] (aa i))(h5:Cp 103 [aa g,aa i] (aa j))(h6:Cp 91 [(vB (!(c==d))),aa j] k.pv):Cp 70 [a.pv,b.pv] k.pv :=
 eD func70 72 [1,1,1,1,1,1] [.q,dr 11 1 [.none,(.pv (vB c)),.none,(.pv (vB d)),.none,.none,(.pv (aa g)),.none,(.pv (aa i)),(.pv (aa j)),(.pv k.pv)]] (y6 h1 h2 h3 h4 h5 h6)
end kK
namespace iE
theorem e0(n:Int)(m m1:Nat)(w:UInt32)(z:Nat)(w1:UInt32)(a:aj)(h1:n%18446744073709551616=(m:Int))(h2:n<0)(h3:(0-(m:Int))%18446744073709551616=(m1:Int))(h4:m1%4294967296=w.toNat)(h5:m1/2^(min 32 64)=z)(h6:z%4294967296=w1.toNat)(h7:Cp 91 [(vB (decide (n<0))),(aa [w,w1])] a.pv):Cp 72 [vI n] a.pv :=
 eD func72 93 [1,1,1,1,1,1,3,1] [.q,.h 1 (iU m),.q,.t,.h 1 (iU m1),.aI [.o,.o,.o,iW w,.o,iU z,iW w1,(.kV 0 0 (([w,w1]:Ws).map ab)),(.pv a.pv)]] (y8 (wA h1) (cA h2) (tM h3) (bp h4) (bA (k := .u64) h5) (bp h6) (ln aF ([w,w1]:Ws)) h7)
theorem e1(n:Int)(m:Nat)(w:UInt32)(z:Nat)(w1:UInt32)(a:aj)(h1:n%18446744073709551616=(m:Int))(h2:0≤n)(h3:m%4294967296=w.toNat)(h4:m/2^(min 32 64)=z)(h5:z%4294967296=w1.toNat)(h6:Cp 91 [(vB (decide (n<0))),(aa [w,w1])] a.pv):Cp 72 [vI n] a.pv :=
 eD func72 93 [1,1,1,1,1,3,1] [.q,.h 1 (iU m),.q,.f,.aI [.o,.o,.o,iW w,.o,iU z,iW w1,(.kV 0 0 (([w,w1]:Ws).map ab)),(.pv a.pv)]] (y7 (wA h1) (cY h2) (bp h3) (bA (k := .u64) h4) (bp h5) (ln aF ([w,w1]:Ws)) h6)
end iE
namespace ic
theorem e0(a:aj)(b:Bool)(h1:Cp 114 [a.pv] (vB b))(h2:b=false):Cp 85 [a.pv] (aa []) :=
 eD func85 84 [1,1] [.q,.h 1 (.pv (vB b)),.t,.q] (y2 h1 (cF h2))
theorem e1(a:aj)(b:Bool)(h1:Cp 114 [a.pv] (vB b))(h2:b=true):Cp 85 [a.pv] (aa a.bw) :=
 eD func85 87 [1,1] [.q,.h 1 (.pv (vB b)),.f,.q] (y2 h1 (bm h2))
end ic
namespace ie
theorem e0(a:aj)(b:Bool)(h1:Cp 114 [a.pv] (vB b))(h2:b=true):Cp 86 [a.pv] (vB a.neg) :=
 eD func86 72 [1,1,1,1] [.q,.aI [.o,(.pv (vB b)),.o,.o,.o,(.dec true)]] (y4 h1 h2 h2 h2)
theorem e1(a:aj)(b:Bool)(h1:Cp 114 [a.pv] (vB b))(h2:b=false):Cp 86 [a.pv] (vB false) :=
 eD func86 72 [1,1,1,1] [.q,.aI [.o,(.pv (vB b)),.o,.skip,.skip,(.dec false)]] (y4 h1 h2 h2 h2)
end ie
namespace kL
theorem e0(a b c d:aj)(h1:Cp 98 [b.pv] c.pv)(h2:Cp 69 [a.pv,c.pv] d.pv):Cp 87 [a.pv,b.pv] d.pv :=
 eD func87 72 [1,1] [.q,dr 4 1 [.none,.none,(.pv c.pv),(.pv d.pv)]] (y2 h1 h2)
end kL
namespace cG
@[reducible] def fn:Func:=Tryz.f88
def bg:List dB:=focus [0,2,0,2,0,0,0] [.code (az fn)]
def inv1(mf:List UInt32):St:=⟨[(3,(.row 6 0 mf.length 1))],[(6,(.pure ((mf:List UInt32).map ab).flatten))]⟩
@[reducible] def ag(mf:List UInt32)(r:PV):Prop:=L bh fn bg (inv1 mf) r
theorem e0(a:Ws){r:PV}(h1:(([]:Ws)++a:Ws).length*4≤140737488355328)(hL:ag a r):Cp 88 [aa a] r :=
 eG func88 81 [6] [.q,.h 2 (.app (a:Ws).length ((a:Ws).map ab).flatten),.aB [3]] (y1 (qT aF ([]:Ws) (a:Ws) 4 (Eq.refl ([]:Ws).length) h1 rfl)) hL
theorem l10(b:Ws)(k:Nat)(v:UInt32)(u:Nat){r:PV}(h1:0<b.length)(h2:ar ((b.length:Int)-1))(h3:((b.length:Int)-1)=(k:Int))(h4:k<b.length)(h5:b[k]? = some v)(h6:v.toNat=0)(h7:((b.length:Int)-1)=(u:Int))(h8:u≤(b:Ws).length)(hL:ag (b.take u) r):ag b r :=
 lG 108 [1,1,1,1,1,1,2,1,1,1,1,1,1,5,1] [.a,.aI [.o,.o,.o,.o,.o,.o,.o,(iI ((b.length:Int)-1)),(.nat k),(.ev (.pv (vW v))),.o,(.dec true)],.t,.aI [.o,.o,.o,(iI ((b.length:Int)-1)),(.kV 0 ((b.take u).length) [])],.cut 6 (u*1) (((b.take u):Ws).map ab).flatten,.aB [3]] (Ix (af h1) (af h1) (af h1) (af h1) (aG h2) (af h1) (cj h3 h4) (af h1) (eK (enc:=ab) (f:=fun a=>(vW a)) (fun _=>rfl) h5) (af h1) (af h1) (aA h6) (aG h2) (xY (b:Ws) h7 h8) (pJ aF (b:Ws) u)) hL
theorem cW(b:Ws)(k:Nat)(v:UInt32)(h1:0<b.length)(h2:ar ((b.length:Int)-1))(h3:((b.length:Int)-1)=(k:Int))(h4:k<b.length)(h5:b[k]? = some v)(h6:v.toNat≠0):ag b (aa b) :=
 lD 114 [1,1,1,1,1,1,2,1,1,1,1,1,3] [.a,.aI [.o,.o,.o,.o,.o,.o,.o,(iI ((b.length:Int)-1)),(.nat k),(.ev (.pv (vW v))),.o,(.dec true)],.f,.q,.eQ 2 ((b:Ws).map ab)] (Ew (af h1) (af h1) (af h1) (af h1) (aG h2) (af h1) (cj h3 h4) (af h1) (eK (enc:=ab) (f:=fun a=>(vW a)) (fun _=>rfl) h5) (af h1) (af h1) (av h6) (cM aF (b:Ws) (Eq.refl (b:Ws).length)))
theorem mD(b:Ws)(h1:b.length≤0):ag b (aa b) :=
 lD 114 [1,1,1,1,1,1,1,1,3] [.a,.aI [.o,.o,.o,.o,.skip,.skip,.skip,.skip,.skip,.skip,.skip,(.dec false)],.a,.q,.eQ 2 ((b:Ws).map ab)] (y9 (an h1) (an h1) (an h1) (an h1) (an h1) (an h1) (an h1) (an h1) (cM aF (b:Ws) (Eq.refl (b:Ws).length)))
end cG
namespace cw
@[reducible] def fn:Func:=Tryz.f88
def bg:List dB:=focus [0,2,0,2,0,0,0] [.code (az fn)]
def inv1(mf:List UInt32):St:=⟨[(3,(.row 6 0 mf.length 1))],[(6,(.pure ((mf:List UInt32).map ab).flatten))]⟩
@[reducible] def ag(mf:List UInt32)(sin:aD)(r:EV)(sout:aD):Prop:=LX bh fn bg (inv1 mf) sin r sout
theorem e0(a:Ws){r:EV}{sout:aD}(h1:(([]:Ws)++a:Ws).length*4≤140737488355328)(hL:ag a [] r sout):aq bh 88 [(.pv (aa a))] [] r sout :=
 Dl func88 81 [6] [.q,.h 2 (.app (a:Ws).length ((a:Ws).map ab).flatten),.aB [3]] (y1 (qT aF ([]:Ws) (a:Ws) 4 (Eq.refl ([]:Ws).length) h1 rfl)) hL
theorem l10(b:Ws)(k:Nat)(v:UInt32)(u:Nat){r:EV}{sout:aD}{sin:aD}(hs:sin.all (fun p=>Nat.ble fn.ntmps p.1)=true)(h1:0<b.length)(h2:ar ((b.length:Int)-1))(h3:((b.length:Int)-1)=(k:Int))(h4:k<b.length)(h5:b[k]? = some v)(h6:v.toNat=0)(h7:((b.length:Int)-1)=(u:Int))(h8:u≤(b:Ws).length)(hL:ag (b.take u) sin r sout):ag b sin r sout :=
 BH 108 [1,1,1,1,1,1,2,1,1,1,1,1,1,5,1] [.a,.aI [.o,.o,.o,.o,.o,.o,.o,(iI ((b.length:Int)-1)),(.nat k),(.ev (.pv (vW v))),.o,(.dec true)],.t,.aI [.o,.o,.o,(iI ((b.length:Int)-1)),(.kV 0 ((b.take u).length) [])],.cut 6 (u*1) (((b.take u):Ws).map ab).flatten,.aB [3]] hs (Ix (af h1) (af h1) (af h1) (af h1) (aG h2) (af h1) (cj h3 h4) (af h1) (eK (enc:=ab) (f:=fun a=>(vW a)) (fun _=>rfl) h5) (af h1) (af h1) (aA h6) (aG h2) (xY (b:Ws) h7 h8) (pJ aF (b:Ws) u)) hL
theorem cW(b:Ws)(k:Nat)(v:UInt32){sin:aD}(hs:sin.all (fun p=>Nat.ble fn.ntmps p.1)=true)(hi:sin.all (fun p=>o5 p.1||(aD.get [(0,(.pure ((b:Ws).map ab).flatten))] p.1).isSome)=true)(h1:0<b.length)(h2:ar ((b.length:Int)-1))(h3:((b.length:Int)-1)=(k:Int))(h4:k<b.length)(h5:b[k]? = some v)(h6:v.toNat≠0):ag b sin (.row 0 0 b.length 1) [(0,(.pure ((b:Ws).map ab).flatten))] :=
 xe 114 [1,1,1,1,1,1,2,1,1,1,1,1] [.a,.aI [.o,.o,.o,.o,.o,.o,.o,(iI ((b.length:Int)-1)),(.nat k),(.ev (.pv (vW v))),.o,(.dec true)],.f,.q,.uR 6 0,.ord [0]] hs hi (Ev (af h1) (af h1) (af h1) (af h1) (aG h2) (af h1) (cj h3 h4) (af h1) (eK (enc:=ab) (f:=fun a=>(vW a)) (fun _=>rfl) h5) (af h1) (af h1) (av h6))
theorem mD(b:Ws){sin:aD}(hs:sin.all (fun p=>Nat.ble fn.ntmps p.1)=true)(hi:sin.all (fun p=>o5 p.1||(aD.get [(0,(.pure ((b:Ws).map ab).flatten))] p.1).isSome)=true)(h1:b.length≤0):ag b sin (.row 0 0 b.length 1) [(0,(.pure ((b:Ws).map ab).flatten))] :=
 xe 114 [1,1,1,1,1,1,1,1] [.a,.aI [.o,.o,.o,.o,.skip,.skip,.skip,.skip,.skip,.skip,.skip,(.dec false)],.a,.q,.uR 6 0,.ord [0]] hs hi (y8 (an h1) (an h1) (an h1) (an h1) (an h1) (an h1) (an h1) (an h1))
end cw
namespace gy
theorem e0(a:Bool)(m b:Ws)(h1:Cp 88 [aa m] (aa b))(h2:b.length=0):Cp 91 [vB a,aa m] ((⟨false,[]⟩:aj).pv) :=
 eD func91 90 [1,1,1] [.q,.h 1 (.pv (aa b)),.h 1 (iI (b.length:Int)),.t,.q] (y3 h1 (ak ab b) (aA h2))
theorem e1(a:Bool)(m b:Ws)(h1:Cp 88 [aa m] (aa b))(h2:b.length≠0):Cp 91 [vB a,aa m] ((⟨a,b⟩:aj).pv) :=
 eD func91 93 [1,1,1] [.q,.h 1 (.pv (aa b)),.h 1 (iI (b.length:Int)),.f,.q] (y3 h1 (ak ab b) (av h2))
end gy
namespace aE
@[reducible] def fn:Func:=Tryz.f92
def bg:List dB:=focus [0,2,0,2,0,0,2,1,2,0,0,2,1,2,0,2,0,0,0] [.code (az fn)]
def inv1(j9 kc gz:Nat)(dI en:List UInt32):St:=⟨[(0,(.row 7 0 j9 1)),(1,(.row 9 0 kc 1)),(5,(eI (gz:Int)))],[(7,(.pure ((dI:List UInt32).map ab).flatten)),(9,(.pure ((en:List UInt32).map ab).flatten))]⟩
@[reducible] def ag(j9 kc gz:Nat)(dI en:List UInt32)(r:PV):Prop:=L bh fn bg (inv1 j9 kc gz dI en) r
def jt:List dB:=focus [0,2,0,2,0,0,2,1,2,0,0,2,1,2,0,2,0,0,0,0,0,0,2,1,2,2,2,2,0,0,0] [.code (az fn)]
def inv2(j9 kc gz:Nat)(dI en:List UInt32):St:=⟨[(0,(.row 7 0 j9 1)),(1,(.row 9 0 kc 1)),(5,(eI (gz:Int)))],[(7,(.pure ((dI:List UInt32).map ab).flatten)),(9,(.pure ((en:List UInt32).map ab).flatten))]⟩
@[reducible] def aM(j9 kc gz:Nat)(dI en:List UInt32)(r:PV):Prop:=L bh fn jt (inv2 j9 kc gz dI en) r
def Dr:List dB:=focus [0,2,0,2,0,0,2,1,2,0,0,2,1,2,0,2,0,0,0,0,0,0,2,1,2,2,2,2,0,0,0,0,0,0,2,0,2,0,0,0,0] [.code (az fn)]
def Ds(j9 kc gz:Nat)(dI en:List UInt32):St:=⟨[(0,(.row 7 0 j9 1)),(1,(.row 9 0 kc 1)),(5,(eI (gz:Int)))],[(7,(.pure ((dI:List UInt32).map ab).flatten)),(9,(.pure ((en:List UInt32).map ab).flatten))]⟩
@[reducible] def gg(j9 kc gz:Nat)(dI en:List UInt32)(r:PV):Prop:=L bh fn Dr (Ds j9 kc gz dI en) r
def Hr:List dB:=focus [0,2,0,2,0,0,2,1,2,0,0,2,1,2,0,2,0,0,0,0,0,0,2,1,2,2,2,2,0,0,0,0,0,0,2,1,2,2,2,2,0,0,2,0,0] [.code (az fn)]
def Hs(Lz:List UInt32)(Ht Hu:Nat):St:=⟨[(1,(.pv (aa Lz))),(64,(eI (Ht:Int))),(65,(eI (Hu:Int)))],[]⟩
@[reducible] def lv(Lz:List UInt32)(Ht Hu:Nat)(r:PV):Prop:=L bh fn Hr (Hs Lz Ht Hu) r
def Hv:List dB:=focus [0,2,0,2,0,0,2,1,2,0,0,2,1,2,0,2,0,0,0,0,0,0,2,1,2,2,2,2,0,0,0,0,0,0,2,0,2,0,0,0,0,0,0,0,2,1,2,2,2,2,0,0,0] [.code (az fn)]
def Hw(j9 kc gz:Nat)(dI en:List UInt32):St:=⟨[(0,(.row 7 0 j9 1)),(1,(.row 9 0 kc 1)),(5,(eI (gz:Int)))],[(7,(.pure ((dI:List UInt32).map ab).flatten)),(9,(.pure ((en:List UInt32).map ab).flatten))]⟩
@[reducible] def kM(j9 kc gz:Nat)(dI en:List UInt32)(r:PV):Prop:=L bh fn Hv (Hw j9 kc gz dI en) r
theorem e0(a b z:Ws)(n:Nat)(z1:Ws)(n1:Nat)(h1:aq bh 88 [.pv (aa a)] [] (.row 0 0 n 1) [(0,(.pure ((z:Ws).map ab).flatten))])(h2:aq bh 88 [.pv (aa b)] [] (.row 0 0 n1 1) [(0,(.pure ((z1:Ws).map ab).flatten))])(h3:n=0)(h4:n1=z1.length):Cp 92 [aa a,aa b] (aa z1) :=
 eD func92 90 [1,1,1,3] [.q,.aI [.o,(.bz [] (some (0,7)) (.row 0 0 n 1) [(0,(.pure ((z:Ws).map ab).flatten))]),.o,(.bz [] (some (0,9)) (.row 0 0 n1 1) [(0,(.pure ((z1:Ws).map ab).flatten))])],.q,.t,.q,.eQ 4 ((z1:Ws).map ab)] (y4 h1 h2 (aA h3) (cM aF (z1:Ws) h4))
theorem e1(a b z:Ws)(n:Nat)(z1:Ws)(n1:Nat)(h1:aq bh 88 [.pv (aa a)] [] (.row 0 0 n 1) [(0,(.pure ((z:Ws).map ab).flatten))])(h2:aq bh 88 [.pv (aa b)] [] (.row 0 0 n1 1) [(0,(.pure ((z1:Ws).map ab).flatten))])(h3:n≠0)(h4:n1=0)(h5:n=z.length):Cp 92 [aa a,aa b] (aa z) :=
 eD func92 105 [1,1,1,1,3] [.q,.aI [.o,(.bz [] (some (0,7)) (.row 0 0 n 1) [(0,(.pure ((z:Ws).map ab).flatten))]),.o,(.bz [] (some (0,9)) (.row 0 0 n1 1) [(0,(.pure ((z1:Ws).map ab).flatten))])],.q,.f,.q,.t,.q,.eQ 4 ((z:Ws).map ab)] (y5 h1 h2 (av h3) (aA h4) (cM aF (z:Ws) h5))
theorem e2(a b z:Ws)(n:Nat)(z1:Ws)(n1:Nat){r:PV}(h1:aq bh 88 [.pv (aa a)] [] (.row 0 0 n 1) [(0,(.pure ((z:Ws).map ab).flatten))])(h2:aq bh 88 [.pv (aa b)] [] (.row 0 0 n1 1) [(0,(.pure ((z1:Ws).map ab).flatten))])(h3:n≠0)(h4:n1≠0)(hL:ag n n1 0 z z1 r):Cp 92 [aa a,aa b] r :=
 eG func92 117 [1,1,1,1] [.q,.aI [.o,(.bz [] (some (0,7)) (.row 0 0 n 1) [(0,(.pure ((z:Ws).map ab).flatten))]),.o,(.bz [] (some (0,9)) (.row 0 0 n1 1) [(0,(.pure ((z1:Ws).map ab).flatten))])],.q,.f,.q,.f,.q,.aB [0,1,5],.ord [7,9]] (y4 h1 h2 (av h3) (av h4)) hL
theorem l10(b c d:Nat)(g i:Ws)(v z v1 z1:UInt32)(z2:Ws)(n:Nat)(z3:Ws)(n1:Nat){r:PV}(h1:0<b)(h2:g[0]? = some v)(h3:(v.toNat%4294967296) &&& (1%4294967296)=z.toNat)(h4:z.toNat=0)(h5:0<c)(h6:i[0]? = some v1)(h7:(v1.toNat%4294967296) &&& (1%4294967296)=z1.toNat)(h8:z1.toNat=0)(h9:aq bh 120 [.row 100000 0 b 1] [(100000,(.pure ((g:Ws).map ab).flatten))] (.row 100000 0 n 1) [(100000,(.pure ((z2:Ws).map ab).flatten))])(cL:aq bh 120 [.row 100000 0 c 1] [(100000,(.pure ((i:Ws).map ab).flatten))] (.row 100000 0 n1 1) [(100000,(.pure ((z3:Ws).map ab).flatten))])(ec:(d+1)<9223372036854775808)(hL:ag n n1 (d+1) z2 z3 r):ag b c d g i r :=
 lG 150 [2,1,1,1,1,2,1,1,1,1,1,1,1,1,1,1] [.a,.aI [.o,(.nat 0),(.ev (.pv (vW v))),iW z,.o,.o,.o,(.nat 0),(.ev (.pv (vW v1))),iW z1,.o,(.dec true)],.t,.aI [.o,(.bz [(7,100000)] none (.row 100000 0 n 1) [(100000,(.pure ((z2:Ws).map ab).flatten))]),.o,(.bz [(9,100000)] none (.row 100000 0 n1 1) [(100000,(.pure ((z3:Ws).map ab).flatten))])],.h 1 (iI (((d+1):Nat):Int)),.aB [0,1,5]] (Cg (cj (Eq.refl (0:Int)) h1) (eK (enc:=ab) (f:=fun a=>(vW a)) (fun _=>rfl) h2) (dh h3) (aA h4) (aA h4) (cj (Eq.refl (0:Int)) h5) (aA h4) (eK (enc:=ab) (f:=fun a=>(vW a)) (fun _=>rfl) h6) (aA h4) (dh h7) (aA h4) (aA h4) (aA h8) h9 cL (aH ec)) hL
theorem cW(b c d:Nat)(g i:Ws)(v z v1 z1:UInt32){r:PV}(h1:0<b)(h2:g[0]? = some v)(h3:(v.toNat%4294967296) &&& (1%4294967296)=z.toNat)(h4:z.toNat=0)(h5:0<c)(h6:i[0]? = some v1)(h7:(v1.toNat%4294967296) &&& (1%4294967296)=z1.toNat)(h8:z1.toNat≠0)(hL:aM b c d g i r):ag b c d g i r :=
 lG 153 [2,1,1,1,1,2,1,1,1,1,1,1,1] [.a,.aI [.o,(.nat 0),(.ev (.pv (vW v))),iW z,.o,.o,.o,(.nat 0),(.ev (.pv (vW v1))),iW z1,.o,(.dec true)],.f,.aB [0,1,5]] (Ew (cj (Eq.refl (0:Int)) h1) (eK (enc:=ab) (f:=fun a=>(vW a)) (fun _=>rfl) h2) (dh h3) (aA h4) (aA h4) (cj (Eq.refl (0:Int)) h5) (aA h4) (eK (enc:=ab) (f:=fun a=>(vW a)) (fun _=>rfl) h6) (aA h4) (dh h7) (aA h4) (aA h4) (av h8)) hL
theorem mD(b c d:Nat)(g i:Ws)(v z:UInt32){r:PV}(h1:0<b)(h2:g[0]? = some v)(h3:(v.toNat%4294967296) &&& (1%4294967296)=z.toNat)(h4:z.toNat≠0)(hL:aM b c d g i r):ag b c d g i r :=
 lG 153 [2,1,1,1,1,1,1,1,1] [.a,.aI [.o,(.nat 0),(.ev (.pv (vW v))),iW z,.o,.o,.skip,.skip,.skip,.skip,.skip,(.dec false)],.a,.aB [0,1,5]] (y9 (cj (Eq.refl (0:Int)) h1) (eK (enc:=ab) (f:=fun a=>(vW a)) (fun _=>rfl) h2) (dh h3) (av h4) (av h4) (av h4) (av h4) (av h4) (av h4)) hL
theorem tY(b c d:Nat)(g i:Ws){r:PV}(h1:0<b)(hL:gg b c d g i r):aM b c d g i r :=
 lG 183 [1] [.a,.q,.t,.aB [0,1,5]] (y1 (af h1)) hL
theorem sf(b c d:Nat)(g i:Ws){r:PV}(h1:b≤0)(h2:c=i.length)(hL:lv i d 0 r):aM b c d g i r :=
 lG 195 [1,3] [.a,.q,.f,.q,.eQ 1 ((i:Ws).map ab),.aB [1,64,65],.drop [7]] (y2 (an h1) (cM aF (i:Ws) h2)) hL
theorem Hq(b c d:Nat)(g i:Ws)(v z:UInt32)(z1:Ws)(n:Nat){r:PV}(h1:0<b)(h2:g[0]? = some v)(h3:(v.toNat%4294967296) &&& (1%4294967296)=z.toNat)(h4:z.toNat=0)(h5:aq bh 120 [.row 100000 0 b 1] [(100000,(.pure ((g:Ws).map ab).flatten))] (.row 100000 0 n 1) [(100000,(.pure ((z1:Ws).map ab).flatten))])(hL:gg n c d z1 i r):gg b c d g i r :=
 lG 210 [2,1,1,1,1] [.a,.aI [.o,(.nat 0),(.ev (.pv (vW v))),iW z],.t,.h 1 (.bz [(7,100000)] none (.row 100000 0 n 1) [(100000,(.pure ((z1:Ws).map ab).flatten))]),.aB [0,1,5]] (y5 (cj (Eq.refl (0:Int)) h1) (eK (enc:=ab) (f:=fun a=>(vW a)) (fun _=>rfl) h2) (dh h3) (aA h4) h5) hL
theorem LA(b c d:Nat)(g i:Ws)(v z:UInt32){r:PV}(h1:0<b)(h2:g[0]? = some v)(h3:(v.toNat%4294967296) &&& (1%4294967296)=z.toNat)(h4:z.toNat≠0)(hL:kM b c d g i r):gg b c d g i r :=
 lG 219 [2,1,1,1] [.a,.aI [.o,(.nat 0),(.ev (.pv (vW v))),iW z],.f,.aB [0,1,5]] (y4 (cj (Eq.refl (0:Int)) h1) (eK (enc:=ab) (f:=fun a=>(vW a)) (fun _=>rfl) h2) (dh h3) (av h4)) hL
theorem LB(b:Ws)(c d:Nat)(g:Ws){r:PV}(h1:d<c)(h2:Cp 100 [aa b,aa b] (aa g))(h3:(d+1)<9223372036854775808)(hL:lv g c (d+1) r):lv b c d r :=
 lG 228 [1,1,1] [.a,.q,.t,.h 2 (.pv (aa g)),.h 0 (iI (((d+1):Nat):Int)),.aB [1,64,65]] (y3 (af h1) h2 (aH h3)) hL
theorem Kc(b:Ws)(c d:Nat)(h1:c≤d):lv b c d (aa b) :=
 lD 228 [1] [.a,.q,.f,.q] (y1 (an h1))
theorem LC(b c d:Nat)(g i:Ws)(v z:UInt32)(z1:Ws)(n:Nat){r:PV}(h1:0<c)(h2:i[0]? = some v)(h3:(v.toNat%4294967296) &&& (1%4294967296)=z.toNat)(h4:z.toNat=0)(h5:aq bh 120 [.row 100000 0 c 1] [(100000,(.pure ((i:Ws).map ab).flatten))] (.row 100000 0 n 1) [(100000,(.pure ((z1:Ws).map ab).flatten))])(hL:kM b n d g z1 r):kM b c d g i r :=
 lG 246 [2,1,1,1,1] [.a,.aI [.o,(.nat 0),(.ev (.pv (vW v))),iW z],.t,.h 1 (.bz [(9,100000)] none (.row 100000 0 n 1) [(100000,(.pure ((z1:Ws).map ab).flatten))]),.aB [0,1,5]] (y5 (cj (Eq.refl (0:Int)) h1) (eK (enc:=ab) (f:=fun a=>(vW a)) (fun _=>rfl) h2) (dh h3) (aA h4) h5) hL
theorem Oy(b c d:Nat)(g i:Ws)(v z:UInt32)(z1 z2:Ws)(j:Int)(z3 z4 z5:Ws)(n:Nat){r:PV}(h1:0<c)(h2:i[0]? = some v)(h3:(v.toNat%4294967296) &&& (1%4294967296)=z.toNat)(h4:z.toNat≠0)(h5:aq bh 101 [.row 100000 0 b 1,.row 100001 0 c 1] [(100000,(.pure ((g:Ws).map ab).flatten)),(100001,(.pure ((i:Ws).map ab).flatten))] (.pv (vI j)) [(100000,(.pure ((z1:Ws).map ab).flatten)),(100001,(.pure ((z2:Ws).map ab).flatten))])(h6:j<0)(h7:aq bh 121 [.row 100000 0 c 1,.row 100001 0 b 1] [(100000,(.pure ((z2:Ws).map ab).flatten)),(100001,(.pure ((z1:Ws).map ab).flatten))] (.pv (.aY [])) [(100000,(.pure ((z3:Ws).map ab).flatten)),(100001,(.pure ((z4:Ws).map ab).flatten))])(h8:aq bh 122 [.row 100000 0 c 1] [(100000,(.pure ((z3:Ws).map ab).flatten))] (.row 100000 0 n 1) [(100000,(.pure ((z5:Ws).map ab).flatten))])(hL:aM n b d z5 z4 r):kM b c d g i r :=
 lG 273 [2,1,1,1,1,1,1,1] [.a,.aI [.o,(.nat 0),(.ev (.pv (vW v))),iW z],.f,.h 2 (.bz [(7,100000),(9,100001)] none (.pv (vI j)) [(100000,(.pure ((z1:Ws).map ab).flatten)),(100001,(.pure ((z2:Ws).map ab).flatten))]),.t,.q,.h 2 (.bz [(9,100000),(7,100001)] none (.pv (.aY [])) [(100000,(.pure ((z3:Ws).map ab).flatten)),(100001,(.pure ((z4:Ws).map ab).flatten))]),.h 1 (.bz [(9,100000)] none (.row 100000 0 n 1) [(100000,(.pure ((z5:Ws).map ab).flatten))]),.aB [0,1,5],.uR 9 71,.uR 7 9,.uR 71 7,.ord [7,9]] (y8 (cj (Eq.refl (0:Int)) h1) (eK (enc:=ab) (f:=fun a=>(vW a)) (fun _=>rfl) h2) (dh h3) (av h4) h5 (cA h6) h7 h8) hL
theorem Oz(b c d:Nat)(g i:Ws)(v z:UInt32)(z1 z2:Ws)(j:Int)(z3 z4 z5:Ws)(n:Nat){r:PV}(h1:0<c)(h2:i[0]? = some v)(h3:(v.toNat%4294967296) &&& (1%4294967296)=z.toNat)(h4:z.toNat≠0)(h5:aq bh 101 [.row 100000 0 b 1,.row 100001 0 c 1] [(100000,(.pure ((g:Ws).map ab).flatten)),(100001,(.pure ((i:Ws).map ab).flatten))] (.pv (vI j)) [(100000,(.pure ((z1:Ws).map ab).flatten)),(100001,(.pure ((z2:Ws).map ab).flatten))])(h6:0≤j)(h7:aq bh 121 [.row 100000 0 b 1,.row 100001 0 c 1] [(100000,(.pure ((z1:Ws).map ab).flatten)),(100001,(.pure ((z2:Ws).map ab).flatten))] (.pv (.aY [])) [(100000,(.pure ((z3:Ws).map ab).flatten)),(100001,(.pure ((z4:Ws).map ab).flatten))])(h8:aq bh 122 [.row 100000 0 b 1] [(100000,(.pure ((z3:Ws).map ab).flatten))] (.row 100000 0 n 1) [(100000,(.pure ((z5:Ws).map ab).flatten))])(hL:aM n c d z5 z4 r):kM b c d g i r :=
 lG 273 [2,1,1,1,1,1,1,1] [.a,.aI [.o,(.nat 0),(.ev (.pv (vW v))),iW z],.f,.h 2 (.bz [(7,100000),(9,100001)] none (.pv (vI j)) [(100000,(.pure ((z1:Ws).map ab).flatten)),(100001,(.pure ((z2:Ws).map ab).flatten))]),.f,.h 2 (.bz [(7,100000),(9,100001)] none (.pv (.aY [])) [(100000,(.pure ((z3:Ws).map ab).flatten)),(100001,(.pure ((z4:Ws).map ab).flatten))]),.h 1 (.bz [(7,100000)] none (.row 100000 0 n 1) [(100000,(.pure ((z5:Ws).map ab).flatten))]),.aB [0,1,5]] (y8 (cj (Eq.refl (0:Int)) h1) (eK (enc:=ab) (f:=fun a=>(vW a)) (fun _=>rfl) h2) (dh h3) (av h4) h5 (cY h6) h7 h8) hL
end aE
namespace kN
theorem e0(a:aj)(b:Bool)(c:Ws)(d:aj)(h1:Cp 86 [a.pv] (vB b))(h2:Cp 85 [a.pv] (aa c))(h3:Cp 91 [(vB (!b)),aa c] d.pv):Cp 98 [a.pv] d.pv :=
 eD func98 72 [1,1,1] [.q,dr 6 1 [.none,(.pv (vB b)),.none,.none,(.pv (aa c)),(.pv d.pv)]] (y3 h1 h2 h3)
end kN
namespace eY
@[reducible] def fn:Func:=Tryz.f99
theorem Fg(a b:aj)(bw div Jq:List UInt32)(neg:Bool)(MX Jr Js:List UInt32):BA bh uX fn.ntmps (eV (focus [0,2,0,0,2,1,2,0,2,0,0,2,0] [.code (az fn)])) (sa (eV (focus [0,2,0,0,2,1,2,0,2,0,0,2,0] [.code (az fn)])) [0,5]) (tJ (eV (focus [0,2,0,0,2,1,2,0,2,0,0,2,0] [.code (az fn)])) [0,5]) [.none,(.kV 0 0 (([(1:UInt32)]:List UInt32).map ab)),(.pv (aa MX)),.none,(.pv (aa Jr)),.none,(.pv (aa Js)),.none,.none] (Iv uX fn.ntmps (eV (focus [0,2,0,0,2,1,2,0,2,0,0,2,0] [.code (az fn)])) [0,5] ⟨[(2,(.ptr 2 0)),(3,(.ptr 3 0)),(4,(.ptr 4 0)),(5,(.ptr 5 0)),(7,(.pv (aa div))),(8,(.pv (aa Jq)))],[(5,(.lit [(eB false),(.pv (.list []))])),(4,(.lit [(eB false),(.pv (.list []))])),(3,(.lit [(eB b.neg),(.pv (aa b.bw))])),(2,(.lit [(eB a.neg),(.pv (aa a.bw))]))]⟩)=BB bh uX fn.ntmps (eV (focus [0,2,0,0,2,1,2,0,2,0,0,2,0] [.code (az fn)])) (sa (eV (focus [0,2,0,0,2,1,2,0,2,0,0,2,0] [.code (az fn)])) [0,5]) (tJ (eV (focus [0,2,0,0,2,1,2,0,2,0,0,2,0] [.code (az fn)])) [0,5]) [.none,(.kV 0 0 (([(1:UInt32)]:List UInt32).map ab)),(.pv (aa MX)),.none,(.pv (aa Jr)),.none,(.pv (aa Js)),.none,.none] (Iv uX fn.ntmps (eV (focus [0,2,0,0,2,1,2,0,2,0,0,2,0] [.code (az fn)])) [0,5] ⟨[(2,(.ptr 2 0)),(3,(.ptr 3 0)),(4,(.ptr 4 0)),(5,(.ptr 5 0)),(7,(.pv (aa div))),(8,(.pv (aa Jq)))],[(5,(.lit [(eB false),(.pv (.list []))])),(4,(.lit [(eB false),(.pv (.list []))])),(3,(.lit [(eB b.neg),(.pv (aa b.bw))])),(2,(.lit [(eB a.neg),(.pv (aa a.bw))]))]⟩):=by kernel_rfl
theorem e1(a b:aj)(c:Int)(d g i j:Ws)(k:Bool)(l m n:Ws)(p s:Bool)(u v:aj)(h1:Cp 56 [b.pv] (vI c))(h2:c≠0)(h3:Cp 85 [a.pv] (aa d))(h4:Cp 85 [b.pv] (aa g))(h5:Cp 124 [aa d,aa g] (.aY [aa i,aa j]))(h6:Cp 86 [a.pv] (vB k))(h7:k=true)(h8:0<j.length)(h9:Cp 100 [aa i,(aa [(1:UInt32)])] (aa l))(cL:Cp 85 [b.pv] (aa m))(ec:Cp 102 [aa m,aa j] (aa n))(gp:Cp 86 [a.pv] (vB p))(jz:Cp 86 [b.pv] (vB s))(mG:Cp 91 [(vB (!(p==s))),aa l] u.pv)(se:Cp 91 [vB false,aa n] v.pv):Cp 99 [a.pv,b.pv] (.aY [u.pv,v.pv,vI 0]) :=
 eD func99 108 [1,1,1,1,1,1,1,1,1,1,1,1,3,1,1,1,1,1,1,1,1] [.q,.h 1 (.pv (vI c)),.f,dr 9 1 [.none,(.pv (aa d)),.none,(.pv (aa g)),(.pv (.aY [aa i,aa j]))],.aI [.o,(.pv (vB k)),.o,.o,(iI (j.length:Int)),.o,(.dec true)],.t,.aB [2,3,4,5,7,8],.any [0,5] [.none,(.kV 0 0 (([(1:UInt32)]:Ws).map ab)),(.pv (aa l)),.none,(.pv (aa m)),.none,(.pv (aa n)),.none,.none],dr 9 3 [.none,(.pv (vB p)),.none,(.pv (vB s)),.none,.none,(.pv u.pv),.none,(.pv v.pv)]] (MO h1 (dE h2) h3 h4 h5 h6 h7 h7 (ak ab j) h7 h7 (af h8) (ln aF ([(1:UInt32)]:Ws)) h9 cL ec (Fg a b d i j k l m n) gp jz mG se)
theorem e2(a b:aj)(c:Int)(d g i j:Ws)(k l m:Bool)(n p:aj)(h1:Cp 56 [b.pv] (vI c))(h2:c≠0)(h3:Cp 85 [a.pv] (aa d))(h4:Cp 85 [b.pv] (aa g))(h5:Cp 124 [aa d,aa g] (.aY [aa i,aa j]))(h6:Cp 86 [a.pv] (vB k))(h7:k=true)(h8:j.length≤0)(h9:Cp 86 [a.pv] (vB l))(cL:Cp 86 [b.pv] (vB m))(ec:Cp 91 [(vB (!(l==m))),aa i] n.pv)(gp:Cp 91 [vB false,aa j] p.pv):Cp 99 [a.pv,b.pv] (.aY [n.pv,p.pv,vI 0]) :=
 eD func99 108 [1,1,1,1,1,1,1,1,1,1,1,1,1,1,1,1] [.q,.h 1 (.pv (vI c)),.f,dr 9 1 [.none,(.pv (aa d)),.none,(.pv (aa g)),(.pv (.aY [aa i,aa j]))],.aI [.o,(.pv (vB k)),.o,.o,(iI (j.length:Int)),.o,(.dec true)],.f,dr 9 3 [.none,(.pv (vB l)),.none,(.pv (vB m)),.none,.none,(.pv n.pv),.none,(.pv p.pv)]] (Cg h1 (dE h2) h3 h4 h5 h6 h7 h7 (ak ab j) h7 h7 (an h8) h9 cL ec gp)
theorem e3(a b:aj)(c:Int)(d g i j:Ws)(k l m:Bool)(n p:aj)(h1:Cp 56 [b.pv] (vI c))(h2:c≠0)(h3:Cp 85 [a.pv] (aa d))(h4:Cp 85 [b.pv] (aa g))(h5:Cp 124 [aa d,aa g] (.aY [aa i,aa j]))(h6:Cp 86 [a.pv] (vB k))(h7:k=false)(h8:Cp 86 [a.pv] (vB l))(h9:Cp 86 [b.pv] (vB m))(cL:Cp 91 [(vB (!(l==m))),aa i] n.pv)(ec:Cp 91 [vB false,aa j] p.pv):Cp 99 [a.pv,b.pv] (.aY [n.pv,p.pv,vI 0]) :=
 eD func99 108 [1,1,1,1,1,1,1,1,1,1,1,1,1,1] [.q,.h 1 (.pv (vI c)),.f,dr 9 1 [.none,(.pv (aa d)),.none,(.pv (aa g)),(.pv (.aY [aa i,aa j]))],.aI [.o,(.pv (vB k)),.o,.skip,.skip,.skip,(.dec false)],.a,dr 9 3 [.none,(.pv (vB l)),.none,(.pv (vB m)),.none,.none,(.pv n.pv),.none,(.pv p.pv)]] (Ff h1 (dE h2) h3 h4 h5 h6 h7 h7 h7 h7 h8 h9 cL ec)
end eY
namespace dk
@[reducible] def fn:Func:=Tryz.f100
def bg:List dB:=focus [0,2,0,2,0,2,0,0,2,0,0] [.code (az fn)]
def inv1(a b sA:List UInt32)(l9 tZ:Nat):St:=⟨[(0,(.pv (aa a))),(1,(.pv (aa b))),(5,(.row 31 0 sA.length 1)),(6,(eU l9)),(14,(eI ((((max a.length b.length)+1):Nat):Int))),(15,(eI (tZ:Int)))],[(31,(.pure ((sA:List UInt32).map ab).flatten))]⟩
@[reducible] def ag(a b sA:List UInt32)(l9 tZ:Nat)(r:PV):Prop:=L bh fn bg (inv1 a b sA l9 tZ) r
theorem e0(a b:Ws){r:PV}(h1:((max a.length b.length)+1)<9223372036854775808)(hL:ag a b [] 0 0 r):Cp 100 [aa a,aa b] r :=
 eG func100 93 [1,1,1,1] [.q,.h 0 .nil,.mY 5 31 1,.q,.aI [.o,(iI (a.length:Int)),.o,(iI (b.length:Int)),(iI (((max a.length b.length):Nat):Int)),(iI ((((max a.length b.length)+1):Nat):Int))],.aB [0,1,5,6,14,15]] (y4 (ak ab a) (ak ab b) (qU a.length b.length) (aH h1)) hL
theorem l10(a b c:Ws)(d g i j s s1:Nat)(w:UInt32)(z:Nat){r:PV}(h1:g<((max a.length b.length)+1))(h2:Cp 125 [aa a,(vI (g:Int))] (vU i))(h3:Cp 125 [aa b,(vI (g:Int))] (vU j))(h4:(i+j)%18446744073709551616=s)(h5:(s+d)%18446744073709551616=s1)(h6:s1%4294967296=w.toNat)(h7:((c++[w]):Ws).length*4≤140737488355328)(h8:s1/2^(min 32 64)=z)(h9:(g+1)<9223372036854775808)(hL:ag a b (c++[w]) z (g+1) r):ag a b c d g r :=
 lG 138 [1,1,1,1,1,1,6,1,1] [.a,.q,.t,.q,.aI [.o,.o,(.pv (vU i)),.o,.o,(.pv (vU j)),iU s,.o,iU s1],.aI [.o,.o,iW w,.o,(.app ((c++[w]):Ws).length (((c++[w]):Ws).map ab).flatten),.o,iU z],.h 0 (iI (((g+1):Nat):Int)),.aB [0,1,5,6,14,15],.drop [30]] (y9 (af h1) h2 h3 (bM h4) (bM h5) (bp h6) (k4 aF (c:Ws) ([w]:Ws) 4 (Eq.refl (c:Ws).length) (Eq.refl ([w]:Ws).length) h7 rfl) (bA (k := .u64) h8) (aH h9)) hL
theorem cW(a b c:Ws)(d g:Nat)(i:Ws)(h1:((max a.length b.length)+1)≤g)(h2:Cp 88 [aa c] (aa i)):ag a b c d g (aa i) :=
 lD 126 [1,3,1] [.a,.q,.f,.eQ 5 ((c:Ws).map ab),.h 1 (.pv (aa i))] (y3 (an h1) (cM aF (c:Ws) (Eq.refl (c:Ws).length)) h2)
end dk
namespace bH
@[reducible] def fn:Func:=Tryz.f101
def bg:List dB:=focus [0,2,0,0,2,0,0] [.code (az fn)]
def inv1(a b:List UInt32)(tW:Int):St:=⟨[(0,(.pv (aa a))),(1,(.pv (aa b))),(5,(eI tW))],[]⟩
@[reducible] def ag(a b:List UInt32)(tW:Int)(r:PV):Prop:=L bh fn bg (inv1 a b tW) r
theorem e0(a b:Ws){r:PV}(h1:ar ((((max a.length b.length):Nat):Int)-1))(hL:ag a b ((((max a.length b.length):Nat):Int)-1) r):Cp 101 [aa a,aa b] r :=
 eG func101 81 [1,1,1,1] [.q,.aI [.o,(iI (a.length:Int)),.o,(iI (b.length:Int)),(iI (((max a.length b.length):Nat):Int)),(iI ((((max a.length b.length):Nat):Int)-1))],.aB [0,1,5]] (y4 (ak ab a) (ak ab b) (qU a.length b.length) (aG h1)) hL
theorem l10(a b:Ws)(c:Int)(d g i j:Nat)(h1:0≤c)(h2:Cp 125 [aa a,vI c] (vU d))(h3:Cp 125 [aa b,vI c] (vU g))(h4:d≠g)(h5:Cp 125 [aa a,vI c] (vU i))(h6:Cp 125 [aa b,vI c] (vU j))(h7:i<j):ag a b c (vI (-1)) :=
 lD 132 [1,1,1,1,1,1,1] [.a,.q,.t,.aI [.o,.o,(.pv (vU d)),.o,.o,(.pv (vU g))],.t,.aI [.o,.o,(.pv (vU i)),.o,.o,(.pv (vU j))],.t,.q] (y7 (di h1) h2 h3 (iB h4) h5 h6 (af h7))
theorem cW(a b:Ws)(c:Int)(d g i j:Nat)(h1:0≤c)(h2:Cp 125 [aa a,vI c] (vU d))(h3:Cp 125 [aa b,vI c] (vU g))(h4:d≠g)(h5:Cp 125 [aa a,vI c] (vU i))(h6:Cp 125 [aa b,vI c] (vU j))(h7:j≤i):ag a b c (vI 1) :=
 lD 135 [1,1,1,1,1,1,1] [.a,.q,.t,.aI [.o,.o,(.pv (vU d)),.o,.o,(.pv (vU g))],.t,.aI [.o,.o,(.pv (vU i)),.o,.o,(.pv (vU j))],.f,.q] (y7 (di h1) h2 h3 (iB h4) h5 h6 (an h7))
theorem mD(a b:Ws)(c:Int)(d g:Nat){r:PV}(h1:0≤c)(h2:Cp 125 [aa a,vI c] (vU d))(h3:Cp 125 [aa b,vI c] (vU g))(h4:d=g)(h5:ar (c-1))(hL:ag a b (c-1) r):ag a b c r :=
 lG 123 [1,1,1,1,1] [.a,.q,.t,.aI [.o,.o,(.pv (vU d)),.o,.o,(.pv (vU g))],.f,.h 1 (iI (c-1)),.aB [0,1,5]] (y5 (di h1) h2 h3 (lY h4) (aG h5)) hL
theorem zE(a b:Ws)(c:Int)(h1:c<0):ag a b c (vI 0) :=
 lD 114 [1] [.a,.q,.f,.q] (y1 (jx h1))
end bH
namespace bB
@[reducible] def fn:Func:=Tryz.f101
def bg:List dB:=focus [0,2,0,0,2,0,0] [.code (az fn)]
def inv1(len:Nat)(b:List UInt32)(tW:Int)(aR:List UInt32):St:=⟨[(0,(.row 100000 0 len 1)),(1,(.pv (aa b))),(5,(eI tW))],[(100000,(.pure ((aR:List UInt32).map ab).flatten))]⟩
@[reducible] def ag(len:Nat)(b:List UInt32)(tW:Int)(aR:List UInt32)(sin:aD)(r:EV)(sout:aD):Prop:=LX bh fn bg (inv1 len b tW aR) sin r sout
theorem e0(a:Ws)(c:Nat)(b:Ws){r:EV}{sout:aD}(h1:ar ((((max c b.length):Nat):Int)-1))(hL:ag c b ((((max c b.length):Nat):Int)-1) a [(100000,(.pure ((a:Ws).map ab).flatten))] r sout):aq bh 101 [(.row 100000 0 c 1),(.pv (aa b))] [(100000,(.pure ((a:Ws).map ab).flatten))] r sout :=
 Dl func101 81 [1,1,1] [.q,.aI [.o,.o,.o,(iI (b.length:Int)),(iI (((max c b.length):Nat):Int)),(iI ((((max c b.length):Nat):Int)-1))],.aB [0,1,5]] (y3 (ak ab b) (qU c b.length) (aG h1)) hL
theorem l10(c:Nat)(b:Ws)(d:Int)(g z:Ws)(i j:Nat)(z1:Ws)(k l:Nat){sin:aD}(hs:sin.all (fun p=>Nat.ble fn.ntmps p.1)=true)(hi:sin.all (fun p=>o5 p.1||(aD.get [(100000,(.pure ((z1:Ws).map ab).flatten))] p.1).isSome)=true)(h1:0≤d)(h2:aq bh 125 [.row 100000 0 c 1,.pv (vI d)] [(100000,(.pure ((g:Ws).map ab).flatten))] (.pv (vU i)) [(100000,(.pure ((z:Ws).map ab).flatten))])(h3:Cp 125 [aa b,vI d] (vU j))(h4:i≠j)(h5:aq bh 125 [.row 100000 0 c 1,.pv (vI d)] [(100000,(.pure ((z:Ws).map ab).flatten))] (.pv (vU k)) [(100000,(.pure ((z1:Ws).map ab).flatten))])(h6:Cp 125 [aa b,vI d] (vU l))(h7:k<l):ag c b d g sin (.pv (vI (-1))) [(100000,(.pure ((z1:Ws).map ab).flatten))] :=
 xe 132 [1,1,1,1,1,1,1] [.a,.q,.t,.aI [.o,.o,(.bz [(100000,100000)] none (.pv (vU i)) [(100000,(.pure ((z:Ws).map ab).flatten))]),.o,.o,(.pv (vU j))],.t,.aI [.o,.o,(.bz [(100000,100000)] none (.pv (vU k)) [(100000,(.pure ((z1:Ws).map ab).flatten))]),.o,.o,(.pv (vU l))],.t,.q,.ord [100000]] hs hi (y7 (di h1) h2 h3 (iB h4) h5 h6 (af h7))
theorem cW(c:Nat)(b:Ws)(d:Int)(g z:Ws)(i j:Nat)(z1:Ws)(k l:Nat){sin:aD}(hs:sin.all (fun p=>Nat.ble fn.ntmps p.1)=true)(hi:sin.all (fun p=>o5 p.1||(aD.get [(100000,(.pure ((z1:Ws).map ab).flatten))] p.1).isSome)=true)(h1:0≤d)(h2:aq bh 125 [.row 100000 0 c 1,.pv (vI d)] [(100000,(.pure ((g:Ws).map ab).flatten))] (.pv (vU i)) [(100000,(.pure ((z:Ws).map ab).flatten))])(h3:Cp 125 [aa b,vI d] (vU j))(h4:i≠j)(h5:aq bh 125 [.row 100000 0 c 1,.pv (vI d)] [(100000,(.pure ((z:Ws).map ab).flatten))] (.pv (vU k)) [(100000,(.pure ((z1:Ws).map ab).flatten))])(h6:Cp 125 [aa b,vI d] (vU l))(h7:l≤k):ag c b d g sin (.pv (vI 1)) [(100000,(.pure ((z1:Ws).map ab).flatten))] :=
 xe 135 [1,1,1,1,1,1,1] [.a,.q,.t,.aI [.o,.o,(.bz [(100000,100000)] none (.pv (vU i)) [(100000,(.pure ((z:Ws).map ab).flatten))]),.o,.o,(.pv (vU j))],.t,.aI [.o,.o,(.bz [(100000,100000)] none (.pv (vU k)) [(100000,(.pure ((z1:Ws).map ab).flatten))]),.o,.o,(.pv (vU l))],.f,.q,.ord [100000]] hs hi (y7 (di h1) h2 h3 (iB h4) h5 h6 (an h7))
theorem mD(c:Nat)(b:Ws)(d:Int)(g z:Ws)(i j:Nat){r:EV}{sout:aD}{sin:aD}(hs:sin.all (fun p=>Nat.ble fn.ntmps p.1)=true)(h1:0≤d)(h2:aq bh 125 [.row 100000 0 c 1,.pv (vI d)] [(100000,(.pure ((g:Ws).map ab).flatten))] (.pv (vU i)) [(100000,(.pure ((z:Ws).map ab).flatten))])(h3:Cp 125 [aa b,vI d] (vU j))(h4:i=j)(h5:ar (d-1))(hL:ag c b (d-1) z sin r sout):ag c b d g sin r sout :=
 BH 123 [1,1,1,1,1] [.a,.q,.t,.aI [.o,.o,(.bz [(100000,100000)] none (.pv (vU i)) [(100000,(.pure ((z:Ws).map ab).flatten))]),.o,.o,(.pv (vU j))],.f,.h 1 (iI (d-1)),.aB [0,1,5]] hs (y5 (di h1) h2 h3 (lY h4) (aG h5)) hL
theorem zE(c:Nat)(b:Ws)(d:Int)(g:Ws){sin:aD}(hs:sin.all (fun p=>Nat.ble fn.ntmps p.1)=true)(hi:sin.all (fun p=>o5 p.1||(aD.get [(100000,(.pure ((g:Ws).map ab).flatten))] p.1).isSome)=true)(h1:d<0):ag c b d g sin (.pv (vI 0)) [(100000,(.pure ((g:Ws).map ab).flatten))] :=
 xe 114 [1] [.a,.q,.f,.q,.ord [100000]] hs hi (y1 (jx h1))
end bB
namespace bx
@[reducible] def fn:Func:=Tryz.f101
def bg:List dB:=focus [0,2,0,0,2,0,0] [.code (az fn)]
def inv1(len kd:Nat)(tW:Int)(aR fh:List UInt32):St:=⟨[(0,(.row 100000 0 len 1)),(1,(.row 100001 0 kd 1)),(5,(eI tW))],[(100000,(.pure ((aR:List UInt32).map ab).flatten)),(100001,(.pure ((fh:List UInt32).map ab).flatten))]⟩
@[reducible] def ag(len kd:Nat)(tW:Int)(aR fh:List UInt32)(sin:aD)(r:EV)(sout:aD):Prop:=LX bh fn bg (inv1 len kd tW aR fh) sin r sout
theorem e0(a:Ws)(c:Nat)(b:Ws)(d:Nat){r:EV}{sout:aD}(h1:ar ((((max c d):Nat):Int)-1))(hL:ag c d ((((max c d):Nat):Int)-1) a b [(100000,(.pure ((a:Ws).map ab).flatten)),(100001,(.pure ((b:Ws).map ab).flatten))] r sout):aq bh 101 [(.row 100000 0 c 1),(.row 100001 0 d 1)] [(100000,(.pure ((a:Ws).map ab).flatten)),(100001,(.pure ((b:Ws).map ab).flatten))] r sout :=
 Dl func101 81 [1,1] [.q,.aI [.o,.o,.o,.o,(iI (((max c d):Nat):Int)),(iI ((((max c d):Nat):Int)-1))],.aB [0,1,5]] (y2 (qU c d) (aG h1)) hL
theorem l10(b c:Nat)(d:Int)(g i z:Ws)(j:Nat)(z1:Ws)(k:Nat)(z2:Ws)(l:Nat)(z3:Ws)(m:Nat){sin:aD}(hs:sin.all (fun p=>Nat.ble fn.ntmps p.1)=true)(hi:sin.all (fun p=>o5 p.1||(aD.get [(100000,(.pure ((z2:Ws).map ab).flatten)),(100001,(.pure ((z3:Ws).map ab).flatten))] p.1).isSome)=true)(h1:0≤d)(h2:aq bh 125 [.row 100000 0 b 1,.pv (vI d)] [(100000,(.pure ((g:Ws).map ab).flatten))] (.pv (vU j)) [(100000,(.pure ((z:Ws).map ab).flatten))])(h3:aq bh 125 [.row 100000 0 c 1,.pv (vI d)] [(100000,(.pure ((i:Ws).map ab).flatten))] (.pv (vU k)) [(100000,(.pure ((z1:Ws).map ab).flatten))])(h4:j≠k)(h5:aq bh 125 [.row 100000 0 b 1,.pv (vI d)] [(100000,(.pure ((z:Ws).map ab).flatten))] (.pv (vU l)) [(100000,(.pure ((z2:Ws).map ab).flatten))])(h6:aq bh 125 [.row 100000 0 c 1,.pv (vI d)] [(100000,(.pure ((z1:Ws).map ab).flatten))] (.pv (vU m)) [(100000,(.pure ((z3:Ws).map ab).flatten))])(h7:l<m):ag b c d g i sin (.pv (vI (-1))) [(100000,(.pure ((z2:Ws).map ab).flatten)),(100001,(.pure ((z3:Ws).map ab).flatten))] :=
 xe 132 [1,1,1,1,1,1,1] [.a,.q,.t,.aI [.o,.o,(.bz [(100000,100000)] none (.pv (vU j)) [(100000,(.pure ((z:Ws).map ab).flatten))]),.o,.o,(.bz [(100001,100000)] none (.pv (vU k)) [(100000,(.pure ((z1:Ws).map ab).flatten))])],.t,.aI [.o,.o,(.bz [(100000,100000)] none (.pv (vU l)) [(100000,(.pure ((z2:Ws).map ab).flatten))]),.o,.o,(.bz [(100001,100000)] none (.pv (vU m)) [(100000,(.pure ((z3:Ws).map ab).flatten))])],.t,.q,.ord [100000,100001]] hs hi (y7 (di h1) h2 h3 (iB h4) h5 h6 (af h7))
theorem cW(b c:Nat)(d:Int)(g i z:Ws)(j:Nat)(z1:Ws)(k:Nat)(z2:Ws)(l:Nat)(z3:Ws)(m:Nat){sin:aD}(hs:sin.all (fun p=>Nat.ble fn.ntmps p.1)=true)(hi:sin.all (fun p=>o5 p.1||(aD.get [(100000,(.pure ((z2:Ws).map ab).flatten)),(100001,(.pure ((z3:Ws).map ab).flatten))] p.1).isSome)=true)(h1:0≤d)(h2:aq bh 125 [.row 100000 0 b 1,.pv (vI d)] [(100000,(.pure ((g:Ws).map ab).flatten))] (.pv (vU j)) [(100000,(.pure ((z:Ws).map ab).flatten))])(h3:aq bh 125 [.row 100000 0 c 1,.pv (vI d)] [(100000,(.pure ((i:Ws).map ab).flatten))] (.pv (vU k)) [(100000,(.pure ((z1:Ws).map ab).flatten))])(h4:j≠k)(h5:aq bh 125 [.row 100000 0 b 1,.pv (vI d)] [(100000,(.pure ((z:Ws).map ab).flatten))] (.pv (vU l)) [(100000,(.pure ((z2:Ws).map ab).flatten))])(h6:aq bh 125 [.row 100000 0 c 1,.pv (vI d)] [(100000,(.pure ((z1:Ws).map ab).flatten))] (.pv (vU m)) [(100000,(.pure ((z3:Ws).map ab).flatten))])(h7:m≤l):ag b c d g i sin (.pv (vI 1)) [(100000,(.pure ((z2:Ws).map ab).flatten)),(100001,(.pure ((z3:Ws).map ab).flatten))] :=
 xe 135 [1,1,1,1,1,1,1] [.a,.q,.t,.aI [.o,.o,(.bz [(100000,100000)] none (.pv (vU j)) [(100000,(.pure ((z:Ws).map ab).flatten))]),.o,.o,(.bz [(100001,100000)] none (.pv (vU k)) [(100000,(.pure ((z1:Ws).map ab).flatten))])],.t,.aI [.o,.o,(.bz [(100000,100000)] none (.pv (vU l)) [(100000,(.pure ((z2:Ws).map ab).flatten))]),.o,.o,(.bz [(100001,100000)] none (.pv (vU m)) [(100000,(.pure ((z3:Ws).map ab).flatten))])],.f,.q,.ord [100000,100001]] hs hi (y7 (di h1) h2 h3 (iB h4) h5 h6 (an h7))
theorem mD(b c:Nat)(d:Int)(g i z:Ws)(j:Nat)(z1:Ws)(k:Nat){r:EV}{sout:aD}{sin:aD}(hs:sin.all (fun p=>Nat.ble fn.ntmps p.1)=true)(h1:0≤d)(h2:aq bh 125 [.row 100000 0 b 1,.pv (vI d)] [(100000,(.pure ((g:Ws).map ab).flatten))] (.pv (vU j)) [(100000,(.pure ((z:Ws).map ab).flatten))])(h3:aq bh 125 [.row 100000 0 c 1,.pv (vI d)] [(100000,(.pure ((i:Ws).map ab).flatten))] (.pv (vU k)) [(100000,(.pure ((z1:Ws).map ab).flatten))])(h4:j=k)(h5:ar (d-1))(hL:ag b c (d-1) z z1 sin r sout):ag b c d g i sin r sout :=
 BH 123 [1,1,1,1,1] [.a,.q,.t,.aI [.o,.o,(.bz [(100000,100000)] none (.pv (vU j)) [(100000,(.pure ((z:Ws).map ab).flatten))]),.o,.o,(.bz [(100001,100000)] none (.pv (vU k)) [(100000,(.pure ((z1:Ws).map ab).flatten))])],.f,.h 1 (iI (d-1)),.aB [0,1,5]] hs (y5 (di h1) h2 h3 (lY h4) (aG h5)) hL
theorem zE(b c:Nat)(d:Int)(g i:Ws){sin:aD}(hs:sin.all (fun p=>Nat.ble fn.ntmps p.1)=true)(hi:sin.all (fun p=>o5 p.1||(aD.get [(100000,(.pure ((g:Ws).map ab).flatten)),(100001,(.pure ((i:Ws).map ab).flatten))] p.1).isSome)=true)(h1:d<0):ag b c d g i sin (.pv (vI 0)) [(100000,(.pure ((g:Ws).map ab).flatten)),(100001,(.pure ((i:Ws).map ab).flatten))] :=
 xe 114 [1] [.a,.q,.f,.q,.ord [100000,100001]] hs hi (y1 (jx h1))
end bx
namespace cZ
@[reducible] def fn:Func:=Tryz.f102
def bg:List dB:=focus [0,2,0,2,0,2,0,0,2,0,0] [.code (az fn)]
def inv1(a b sB:List UInt32)(j7 zM:Nat):St:=⟨[(0,(.pv (aa a))),(1,(.pv (aa b))),(5,(.row 28 0 sB.length 1)),(6,(eU j7)),(10,(eI (a.length:Int))),(11,(eI (zM:Int)))],[(28,(.pure ((sB:List UInt32).map ab).flatten))]⟩
@[reducible] def ag(a b sB:List UInt32)(j7 zM:Nat)(r:PV):Prop:=L bh fn bg (inv1 a b sB j7 zM) r
theorem e0 (a b : Ws) {r : PV}  (hL : ag a b [] 0 0 r) : Cp 102 [aa a, aa b] r :=
 eG func102 93 [1] [.q,.h 0 .nil,.mY 5 28 1,.q,.h 1 (iI (a.length:Int)),.aB [0,1,5,6,10,11]] (y1 (ak ab a)) hL
theorem l10(a b c:Ws)(g i j s l d d1:Nat)(w:UInt32)(z d2:Nat){r:PV}(h1:i<a.length)(h2:Cp 125 [aa a,(vI (i:Int))] (vU j))(h3:(4294967296+j)%18446744073709551616=s)(h4:Cp 125 [aa b,(vI (i:Int))] (vU l))(h5:((s:Nat)-(l:Nat):Int)%18446744073709551616=(d:Int))(h6:((d:Nat)-(g:Nat):Int)%18446744073709551616=(d1:Int))(h7:d1%4294967296=w.toNat)(h8:((c++[w]):Ws).length*4≤140737488355328)(h9:d1/2^(min 32 64)=z)(cL:((1:Nat)-(z:Nat):Int)%18446744073709551616=(d2:Int))(ec:(i+1)<9223372036854775808)(hL:ag a b (c++[w]) d2 (i+1) r):ag a b c g i r :=
 lG 138 [1,1,1,1,1,1,1,6,1,1,1] [.a,.q,.t,.q,.aI [.o,.o,(.pv (vU j)),iU s,.o,.o,(.pv (vU l)),iU d,.o,iU d1],.aI [.o,.o,iW w,.o,(.app ((c++[w]):Ws).length (((c++[w]):Ws).map ab).flatten),.o,iU z,iU d2],.h 0 (iI (((i+1):Nat):Int)),.aB [0,1,5,6,10,11],.drop [27]] (xZ (af h1) h2 (bM h3) h4 (bN h5) (bN h6) (bp h7) (k4 aF (c:Ws) ([w]:Ws) 4 (Eq.refl (c:Ws).length) (Eq.refl ([w]:Ws).length) h8 rfl) (bA (k := .u64) h9) (bN cL) (aH ec)) hL
theorem cW(a b c:Ws)(d g:Nat)(i:Ws)(h1:a.length≤g)(h2:Cp 88 [aa c] (aa i)):ag a b c d g (aa i) :=
 lD 126 [1,3,1] [.a,.q,.f,.eQ 5 ((c:Ws).map ab),.h 1 (.pv (aa i))] (y3 (an h1) (cM aF (c:Ws) (Eq.refl (c:Ws).length)) h2)
end cZ
namespace bu
@[reducible] def fn:Func:=Tryz.f103
def bg:List dB:=focus [0,2,0,2,0,0,2,0,0] [.code (az fn)]
def inv1(a b:List UInt32)(zN:Nat)(er:List UInt32):St:=⟨[(0,(.pv (aa a))),(1,(.pv (aa b))),(5,(.row 15 0 (a.length+b.length) 1)),(17,(eI (a.length:Int))),(18,(eI (zN:Int)))],[(15,(.pure ((er:List UInt32).map ab).flatten))]⟩
@[reducible] def ag(a b:List UInt32)(zN:Nat)(er:List UInt32)(r:PV):Prop:=L bh fn bg (inv1 a b zN er) r
def jt:List dB:=focus [0,2,0,2,0,0,2,0,0,0,0,2,0,0,2,0,0,0,2,0,2,0,0,2,0,0] [.code (az fn)]
def inv2(a b:List UInt32)(wF mc zN Hx:Nat)(er:List UInt32):St:=⟨[(0,(.pv (aa a))),(1,(.pv (aa b))),(5,(.row 15 0 (a.length+b.length) 1)),(6,(eI (wF:Int))),(7,(eU mc)),(17,(eI (a.length:Int))),(18,(eI (zN:Int))),(22,(eI (b.length:Int))),(23,(eI (Hx:Int)))],[(15,(.pure ((er:List UInt32).map ab).flatten))]⟩
@[reducible] def aM(a b:List UInt32)(wF mc zN Hx:Nat)(er:List UInt32)(r:PV):Prop:=L bh fn jt (inv2 a b wF mc zN Hx er) r
theorem e0(a b:Ws){r:PV}(h1:(a.length+b.length)<9223372036854775808)(h2:4*(a.length+b.length)≤140737488355328)(hL:ag a b 0 (List.replicate (a.length+b.length) (0:UInt32)) r):Cp 103 [aa a,aa b] r :=
 eG func103 87 [1,1,1,5,1] [.q,.aI [.o,(iI (a.length:Int)),.o,(iI (b.length:Int)),(iI (((a.length+b.length):Nat):Int)),(.app (a.length+b.length) ((List.replicate (a.length+b.length) (0:UInt32):Ws).map ab).flatten)],.h 1 (iI (a.length:Int)),.aB [0,1,5,17,18]] (y5 (ak ab a) (ak ab b) (aH h1) (oK ab 0 4 (a.length+b.length) (Eq.refl ((((a.length+b.length):Nat):Int):Int)) h2 rfl) (ak ab a)) hL
theorem l10(a b:Ws)(c:Nat)(d:Ws){r:PV}(h1:c<a.length)(hL:aM a b c 0 c 0 d r):ag a b c d r :=
 lG 138 [1,1] [.a,.q,.t,.q,.q,.h 1 (iI (b.length:Int)),.aB [0,1,5,6,7,17,18,22,23]] (y2 (af h1) (ak ab b)) hL
theorem cW(a b:Ws)(c:Nat)(d g:Ws)(h1:a.length≤c)(h2:(a.length+b.length)=d.length)(h3:Cp 88 [aa d] (aa g)):ag a b c d (aa g) :=
 lD 120 [1,3,1] [.a,.q,.f,.eQ 5 ((d:Ws).map ab),.h 1 (.pv (aa g))] (y3 (an h1) (cM aF (d:Ws) h2) h3)
theorem tY(a b:Ws)(c d g i:Nat)(j:Ws)(v v1:UInt32)(p:Nat)(v2:UInt32)(s s1:Nat)(w:UInt32)(z:Nat){r:PV}(h1:i<b.length)(h2:a[c]? = some v)(h3:b[i]? = some v1)(h4:(v.toNat*v1.toNat)%18446744073709551616=p)(h5:(c+i)<9223372036854775808)(h6:(c+i)<(a.length+b.length))(h7:j[(c+i)]? = some v2)(h8:(p+v2.toNat)%18446744073709551616=s)(h9:(s+d)%18446744073709551616=s1)(cL:s1%4294967296=w.toNat)(ec:s1/2^(min 32 64)=z)(gp:(c+i)<j.length)(jz:(i+1)<9223372036854775808)(hL:aM a b c z g (i+1) (j.set (c+i) w) r):aM a b c d g i j r :=
 lG 183 [1,3,1,3,1,1,1,2,1,1,1,1,1,1,1,2,2,1] [.a,.q,.t,.q,dr 21 1 [.none,.none,(.row c (ab v)),.none,iU v.toNat,.none,.none,(.row i (ab v1)),.none,iU v1.toNat,iU p,.none,.none,.none,(iI (((c+i):Nat):Int)),(.nat (c+i)),(.ev (.pv (vW v2))),iU v2.toNat,iU s,.none,iU s1],.aI [.o,.o,.o,(iI (((c+i):Nat):Int)),.o,iW w,.o,iU z,(.nat (c+i)),(.cells (.pure (((j.set (c+i) w):Ws).map ab).flatten))],.h 0 (iI (((i+1):Nat):Int)),.aB [0,1,5,6,7,17,18,22,23]] (Lq (af h1) (bd ab (Eq.refl (((c:Nat):Int):Int)) h2) (iA v) (bd ab (Eq.refl (((i:Nat):Int):Int)) h3) (iA v1) (iz h4) (aH h5) (cj (Eq.refl ((((c+i):Nat):Int):Int)) h6) (eK (enc:=ab) (f:=fun a=>(vW a)) (fun _=>rfl) h7) (iA v2) (bM h8) (bM h9) (aH h5) (bp cL) (bA (k := .u64) ec) (cj (Eq.refl ((((c+i):Nat):Int):Int)) h6) (ee aF (j:Ws) w gp) (aH jz)) hL
theorem sf(a b:Ws)(c d g i:Nat)(j:Ws)(w:UInt32){r:PV}(h1:b.length≤i)(h2:(c+b.length)<9223372036854775808)(h3:d%4294967296=w.toNat)(h4:(c+b.length)<(a.length+b.length))(h5:(c+b.length)<j.length)(h6:(g+1)<9223372036854775808)(hL:ag a b (g+1) (j.set (c+b.length) w) r):aM a b c d g i j r :=
 lG 174 [1,1,1,1,2,2,1] [.a,.q,.f,.aI [.o,.o,.o,(iI (b.length:Int)),(iI (((c+b.length):Nat):Int)),.o,iW w,(.nat (c+b.length)),(.cells (.pure (((j.set (c+b.length) w):Ws).map ab).flatten))],.h 0 (iI (((g+1):Nat):Int)),.aB [0,1,5,17,18]] (y7 (an h1) (ak ab b) (aH h2) (bp h3) (cj (Eq.refl ((((c+b.length):Nat):Int):Int)) h4) (ee aF (j:Ws) w h5) (aH h6)) hL
end bu
namespace fU
theorem e0(a:aj)(h1:a.bw.length=0):Cp 114 [a.pv] (vB (!a.neg)) :=
 eD func114 84 [1,1] [.q,.h 2 (iI (a.bw.length:Int)),.t,.q] (y2 (ak ab a.bw) (aA h1))
theorem e1(a:aj)(k:Nat)(v:UInt32)(h1:a.bw.length≠0)(h2:ar ((a.bw.length:Int)-1))(h3:((a.bw.length:Int)-1)=(k:Int))(h4:a.bw[k]? = some v):Cp 114 [a.pv] (vB ((v.toNat:Int) != 0)) :=
 eD func114 87 [1,1,1,1,3] [.q,.h 2 (iI (a.bw.length:Int)),.f,.aI [.o,.o,.o,.o,(iI (a.bw.length:Int)),(iI ((a.bw.length:Int)-1)),(.row k (ab v))]] (y5 (ak ab a.bw) (av h1) (ak ab a.bw) (aG h2) (bd ab h3 h4))
end fU
namespace c9
@[reducible] def fn:Func:=Tryz.f120
def bg:List dB:=focus [0,2,0,0,2,0,0] [.code (az fn)]
def inv1(len LD:Nat)(aR:List UInt32):St:=⟨[(0,(.row 100000 0 len 1)),(5,(eI (len:Int))),(6,(eI (LD:Int)))],[(100000,(.pure ((aR:List UInt32).map ab).flatten))]⟩
@[reducible] def ag(len LD:Nat)(aR:List UInt32)(sin:aD)(r:EV)(sout:aD):Prop:=LX bh fn bg (inv1 len LD aR) sin r sout
theorem e0 (a : Ws) (b : Nat) {r : EV} {sout : aD}  (hL : ag b 0 a [(100000, (.pure ((a : Ws).map ab).flatten))] r sout) : aq bh 120 [(.row 100000 0 b 1)] [(100000, (.pure ((a : Ws).map ab).flatten))] r sout :=
 Dl func120 81 [] [.q,.q,.aB [0,5,6]] True.intro hL
theorem l10(b c:Nat)(d z:Ws)(g z1:Nat)(z2:Ws)(i z3 z4:Nat)(w:UInt32){r:EV}{sout:aD}{sin:aD}(hs:sin.all (fun p=>Nat.ble fn.ntmps p.1)=true)(h1:c<b)(h2:aq bh 125 [.row 100000 0 b 1,.pv (vI (c:Int))] [(100000,(.pure ((d:Ws).map ab).flatten))] (.pv (vU g)) [(100000,(.pure ((z:Ws).map ab).flatten))])(h3:g/2^(min 1 64)=z1)(h4:(c+1)<9223372036854775808)(h5:aq bh 125 [.row 100000 0 b 1,.pv (vI (((c+1):Nat):Int))] [(100000,(.pure ((z:Ws).map ab).flatten))] (.pv (vU i)) [(100000,(.pure ((z2:Ws).map ab).flatten))])(h6:(i*2^(min 31 64))%18446744073709551616=z3)(h7:(z1%18446744073709551616) ||| (z3%18446744073709551616)=z4)(h8:z4%4294967296=w.toNat)(h9:c<z2.length)(hL:ag b (c+1) (z2.set c w) sin r sout):ag b c d sin r sout :=
 BH 120 [1,1,1,1,1,1,1,1,2,2,1] [.a,.q,.t,.q,.aI [.o,.o,.o,.o,(.bz [(100000,100000)] none (.pv (vU g)) [(100000,(.pure ((z:Ws).map ab).flatten))]),iU z1,.o,.o,(iI (((c+1):Nat):Int)),(.bz [(100000,100000)] none (.pv (vU i)) [(100000,(.pure ((z2:Ws).map ab).flatten))]),iU z3,iU z4,iW w,(.nat c),(.cells (.pure (((z2.set c w):Ws).map ab).flatten))],.h 0 (iI (((c+1):Nat):Int)),.aB [0,5,6]] hs (xZ (af h1) h2 (bA (k := .u64) h3) (aH h4) h5 (dG (k := .u64) h6) (gH h7) (bp h8) (cj (Eq.refl (((c:Nat):Int):Int)) h1) (ee aF (z2:Ws) w h9) (aH h4)) hL
theorem cW(b c:Nat)(d z:Ws)(n:Nat){sin:aD}(hs:sin.all (fun p=>Nat.ble fn.ntmps p.1)=true)(hi:sin.all (fun p=>o5 p.1||(aD.get [(100000,(.pure (((z.take n):Ws).map ab).flatten))] p.1).isSome)=true)(h1:b≤c)(h2:aq bh 122 [.row 100000 0 b 1] [(100000,(.pure ((d:Ws).map ab).flatten))] (.row 100000 0 n 1) [(100000,(.pure ((z:Ws).map ab).flatten))]):ag b c d sin (.row 100000 0 n 1) [(100000,(.pure (((z.take n):Ws).map ab).flatten))] :=
 xe 114 [1,1,1] [.a,.q,.f,.h 1 (.bz [(100000,100000)] none (.row 100000 0 n 1) [(100000,(.pure ((z:Ws).map ab).flatten))]),.cut 100000 (n*1) (((z.take n):Ws).map ab).flatten,.ord [100000]] hs hi (y3 (an h1) h2 (pJ aF (z:Ws) n))
end c9
namespace dm
@[reducible] def fn:Func:=Tryz.f121
def bg:List dB:=focus [0,2,0,2,0,0] [.code (az fn)]
def inv1(len:Nat)(b:List UInt32)(ke zO:Nat)(aR:List UInt32):St:=⟨[(0,(.row 100000 0 len 1)),(1,(.pv (aa b))),(4,(eU ke)),(8,(eI (len:Int))),(9,(eI (zO:Int)))],[(100000,(.pure ((aR:List UInt32).map ab).flatten))]⟩
@[reducible] def ag(len:Nat)(b:List UInt32)(ke zO:Nat)(aR:List UInt32)(sin:aD)(r:EV)(sout:aD):Prop:=LX bh fn bg (inv1 len b ke zO aR) sin r sout
theorem e0 (a : Ws) (c : Nat) (b : Ws) {r : EV} {sout : aD}  (hL : ag c b 0 0 a [(100000, (.pure ((a : Ws).map ab).flatten))] r sout) : aq bh 121 [(.row 100000 0 c 1), (.pv (aa b))] [(100000, (.pure ((a : Ws).map ab).flatten))] r sout :=
 Dl func121 78 [] [.q,.q,.aB [0,1,4,8,9]] True.intro hL
theorem l10(c:Nat)(b:Ws)(g i:Nat)(j z:Ws)(l s m d d1:Nat)(w:UInt32)(z1 d2:Nat){r:EV}{sout:aD}{sin:aD}(hs:sin.all (fun p=>Nat.ble fn.ntmps p.1)=true)(h1:i<c)(h2:aq bh 125 [.row 100000 0 c 1,.pv (vI (i:Int))] [(100000,(.pure ((j:Ws).map ab).flatten))] (.pv (vU l)) [(100000,(.pure ((z:Ws).map ab).flatten))])(h3:(4294967296+l)%18446744073709551616=s)(h4:Cp 125 [aa b,(vI (i:Int))] (vU m))(h5:((s:Nat)-(m:Nat):Int)%18446744073709551616=(d:Int))(h6:((d:Nat)-(g:Nat):Int)%18446744073709551616=(d1:Int))(h7:d1%4294967296=w.toNat)(h8:d1/2^(min 32 64)=z1)(h9:((1:Nat)-(z1:Nat):Int)%18446744073709551616=(d2:Int))(cL:i<z.length)(ec:(i+1)<9223372036854775808)(hL:ag c b d2 (i+1) (z.set i w) sin r sout):ag c b g i j sin r sout :=
 BH 123 [1,1,1,1,1,1,1,1,1,2,2,1] [.a,.q,.t,.q,.aI [.o,.o,(.bz [(100000,100000)] none (.pv (vU l)) [(100000,(.pure ((z:Ws).map ab).flatten))]),iU s,.o,.o,(.pv (vU m)),iU d,.o,iU d1],.aI [.o,.o,.o,iW w,.o,iU z1,iU d2,(.nat i),(.cells (.pure (((z.set i w):Ws).map ab).flatten))],.h 0 (iI (((i+1):Nat):Int)),.aB [0,1,4,8,9]] hs (Ev (af h1) h2 (bM h3) h4 (bN h5) (bN h6) (bp h7) (bA (k := .u64) h8) (bN h9) (cj (Eq.refl (((i:Nat):Int):Int)) h1) (ee aF (z:Ws) w cL) (aH ec)) hL
theorem cW(c:Nat)(b:Ws)(d g:Nat)(i:Ws){sin:aD}(hs:sin.all (fun p=>Nat.ble fn.ntmps p.1)=true)(hi:sin.all (fun p=>o5 p.1||(aD.get [(100000,(.pure ((i:Ws).map ab).flatten))] p.1).isSome)=true)(h1:c≤g):ag c b d g i sin (.pv (.aY [])) [(100000,(.pure ((i:Ws).map ab).flatten))] :=
 xe 105 [1] [.a,.q,.f,.ord [100000]] hs hi (y1 (an h1))
end dm
namespace da
@[reducible] def fn:Func:=Tryz.f121
def bg:List dB:=focus [0,2,0,2,0,0] [.code (az fn)]
def inv1(len kd ke zO:Nat)(aR fh:List UInt32):St:=⟨[(0,(.row 100000 0 len 1)),(1,(.row 100001 0 kd 1)),(4,(eU ke)),(8,(eI (len:Int))),(9,(eI (zO:Int)))],[(100000,(.pure ((aR:List UInt32).map ab).flatten)),(100001,(.pure ((fh:List UInt32).map ab).flatten))]⟩
@[reducible] def ag(len kd ke zO:Nat)(aR fh:List UInt32)(sin:aD)(r:EV)(sout:aD):Prop:=LX bh fn bg (inv1 len kd ke zO aR fh) sin r sout
theorem e0 (a : Ws) (c : Nat) (b : Ws) (d : Nat) {r : EV} {sout : aD}  (hL : ag c d 0 0 a b [(100000, (.pure ((a : Ws).map ab).flatten)), (100001, (.pure ((b : Ws).map ab).flatten))] r sout) : aq bh 121 [(.row 100000 0 c 1), (.row 100001 0 d 1)] [(100000, (.pure ((a : Ws).map ab).flatten)), (100001, (.pure ((b : Ws).map ab).flatten))] r sout :=
 Dl func121 78 [] [.q,.q,.aB [0,1,4,8,9]] True.intro hL
theorem l10(b c g i:Nat)(j l z:Ws)(m s:Nat)(z1:Ws)(n d d1:Nat)(w:UInt32)(z2 d2:Nat){r:EV}{sout:aD}{sin:aD}(hs:sin.all (fun p=>Nat.ble fn.ntmps p.1)=true)(h1:i<b)(h2:aq bh 125 [.row 100000 0 b 1,.pv (vI (i:Int))] [(100000,(.pure ((j:Ws).map ab).flatten))] (.pv (vU m)) [(100000,(.pure ((z:Ws).map ab).flatten))])(h3:(4294967296+m)%18446744073709551616=s)(h4:aq bh 125 [.row 100000 0 c 1,.pv (vI (i:Int))] [(100000,(.pure ((l:Ws).map ab).flatten))] (.pv (vU n)) [(100000,(.pure ((z1:Ws).map ab).flatten))])(h5:((s:Nat)-(n:Nat):Int)%18446744073709551616=(d:Int))(h6:((d:Nat)-(g:Nat):Int)%18446744073709551616=(d1:Int))(h7:d1%4294967296=w.toNat)(h8:d1/2^(min 32 64)=z2)(h9:((1:Nat)-(z2:Nat):Int)%18446744073709551616=(d2:Int))(cL:i<z.length)(ec:(i+1)<9223372036854775808)(hL:ag b c d2 (i+1) (z.set i w) z1 sin r sout):ag b c g i j l sin r sout :=
 BH 123 [1,1,1,1,1,1,1,1,1,2,2,1] [.a,.q,.t,.q,.aI [.o,.o,(.bz [(100000,100000)] none (.pv (vU m)) [(100000,(.pure ((z:Ws).map ab).flatten))]),iU s,.o,.o,(.bz [(100001,100000)] none (.pv (vU n)) [(100000,(.pure ((z1:Ws).map ab).flatten))]),iU d,.o,iU d1],.aI [.o,.o,.o,iW w,.o,iU z2,iU d2,(.nat i),(.cells (.pure (((z.set i w):Ws).map ab).flatten))],.h 0 (iI (((i+1):Nat):Int)),.aB [0,1,4,8,9]] hs (Ev (af h1) h2 (bM h3) h4 (bN h5) (bN h6) (bp h7) (bA (k := .u64) h8) (bN h9) (cj (Eq.refl (((i:Nat):Int):Int)) h1) (ee aF (z:Ws) w cL) (aH ec)) hL
theorem cW(b c d g:Nat)(i j:Ws){sin:aD}(hs:sin.all (fun p=>Nat.ble fn.ntmps p.1)=true)(hi:sin.all (fun p=>o5 p.1||(aD.get [(100000,(.pure ((i:Ws).map ab).flatten)),(100001,(.pure ((j:Ws).map ab).flatten))] p.1).isSome)=true)(h1:b≤g):ag b c d g i j sin (.pv (.aY [])) [(100000,(.pure ((i:Ws).map ab).flatten)),(100001,(.pure ((j:Ws).map ab).flatten))] :=
 xe 105 [1] [.a,.q,.f,.ord [100000,100001]] hs hi (y1 (an h1))
end da
namespace cU
@[reducible] def fn:Func:=Tryz.f122
def bg:List dB:=focus [0,2,0,0,0] [.code (az fn)]
def inv1(oR:Nat)(a:List UInt32):St:=⟨[(0,(.row 100000 0 oR 1))],[(100000,(.pure ((a:List UInt32).map ab).flatten))]⟩
@[reducible] def ag(oR:Nat)(a:List UInt32)(sin:aD)(r:EV)(sout:aD):Prop:=LX bh fn bg (inv1 oR a) sin r sout
theorem e0 (a : Ws) (b : Nat) {r : EV} {sout : aD}  (hL : ag b a [(100000, (.pure ((a : Ws).map ab).flatten))] r sout) : aq bh 122 [(.row 100000 0 b 1)] [(100000, (.pure ((a : Ws).map ab).flatten))] r sout :=
 Dl func122 75 [] [.q,.aB [0]] True.intro hL
theorem l10(b:Nat)(a:Ws)(k:Nat)(v:UInt32)(u:Nat){r:EV}{sout:aD}{sin:aD}(hs:sin.all (fun p=>Nat.ble fn.ntmps p.1)=true)(h1:0<b)(h2:ar ((b:Int)-1))(h3:((b:Int)-1)=(k:Int))(h4:k<b)(h5:a[k]? = some v)(h6:v.toNat=0)(h7:((b:Int)-1)=(u:Int))(h8:u≤b)(hL:ag u a sin r sout):ag b a sin r sout :=
 BH 102 [1,1,1,1,1,1,2,1,1,1,1,1,1,5] [.a,.aI [.o,.o,.o,.o,.o,.o,.o,(iI ((b:Int)-1)),(.nat k),(.ev (.pv (vW v))),.o,(.dec true)],.t,.aI [.o,.o,.o,(iI ((b:Int)-1)),(.kV 0 u [])],.aB [0]] hs (Ff (af h1) (af h1) (af h1) (af h1) (aG h2) (af h1) (cj h3 h4) (af h1) (eK (enc:=ab) (f:=fun a=>(vW a)) (fun _=>rfl) h5) (af h1) (af h1) (aA h6) (aG h2) (Jm (Eq.refl (0:Int)) h7 (Or.inl (Eq.refl 0)) (Nat.zero_le u) h8)) hL
theorem cW(b:Nat)(a:Ws)(k:Nat)(v:UInt32){sin:aD}(hs:sin.all (fun p=>Nat.ble fn.ntmps p.1)=true)(hi:sin.all (fun p=>o5 p.1||(aD.get [(100000,(.pure (((a.take b):Ws).map ab).flatten))] p.1).isSome)=true)(h1:0<b)(h2:ar ((b:Int)-1))(h3:((b:Int)-1)=(k:Int))(h4:k<b)(h5:a[k]? = some v)(h6:v.toNat≠0):ag b a sin (.row 100000 0 b 1) [(100000,(.pure (((a.take b):Ws).map ab).flatten))] :=
 xe 108 [1,1,1,1,1,1,2,1,1,1,1,1,1] [.a,.aI [.o,.o,.o,.o,.o,.o,.o,(iI ((b:Int)-1)),(.nat k),(.ev (.pv (vW v))),.o,(.dec true)],.f,.q,.cut 100000 (b*1) (((a.take b):Ws).map ab).flatten,.ord [100000]] hs hi (Ew (af h1) (af h1) (af h1) (af h1) (aG h2) (af h1) (cj h3 h4) (af h1) (eK (enc:=ab) (f:=fun a=>(vW a)) (fun _=>rfl) h5) (af h1) (af h1) (av h6) (pJ aF (a:Ws) b))
theorem mD(b:Nat)(a:Ws){sin:aD}(hs:sin.all (fun p=>Nat.ble fn.ntmps p.1)=true)(hi:sin.all (fun p=>o5 p.1||(aD.get [(100000,(.pure (((a.take b):Ws).map ab).flatten))] p.1).isSome)=true)(h1:b≤0):ag b a sin (.row 100000 0 b 1) [(100000,(.pure (((a.take b):Ws).map ab).flatten))] :=
 xe 108 [1,1,1,1,1,1,1,1,1] [.a,.aI [.o,.o,.o,.o,.skip,.skip,.skip,.skip,.skip,.skip,.skip,(.dec false)],.a,.q,.cut 100000 (b*1) (((a.take b):Ws).map ab).flatten,.ord [100000]] hs hi (y9 (an h1) (an h1) (an h1) (an h1) (an h1) (an h1) (an h1) (an h1) (pJ aF (a:Ws) b))
end cU
namespace bf
@[reducible] def fn:Func:=Tryz.f124
def bg:List dB:=focus [0,2,0,2,0,2,0,0,2,0,0] [.code (az fn)]
def inv1(a b:List UInt32)(zG:Int)(mg bl:List UInt32):St:=⟨[(0,(.pv (aa a))),(1,(.pv (aa b))),(6,(.row 13 0 a.length 1)),(7,(.row 17 0 (b.length+1) 1)),(8,(eI zG))],[(13,(.pure ((mg:List UInt32).map ab).flatten)),(17,(.pure ((bl:List UInt32).map ab).flatten))]⟩
@[reducible] def ag(a b:List UInt32)(zG:Int)(mg bl:List UInt32)(r:PV):Prop:=L bh fn bg (inv1 a b zG mg bl) r
def jt:List dB:=focus [0,2,0,2,0,2,0,0,2,0,0,0,0,0,2,0,2,0,0,0,2,0,0,2,0,0] [.code (az fn)]
def inv2(a b:List UInt32)(zG:Int)(wJ:UInt32)(Hy:Nat)(mg bl:List UInt32):St:=⟨[(0,(.pv (aa a))),(1,(.pv (aa b))),(6,(.row 13 0 a.length 1)),(7,(.row 17 0 (b.length+1) 1)),(8,(eI zG)),(9,(eW wJ)),(35,(eI (((b.length+1):Nat):Int))),(36,(eI (Hy:Int)))],[(13,(.pure ((mg:List UInt32).map ab).flatten)),(17,(.pure ((bl:List UInt32).map ab).flatten))]⟩
@[reducible] def aM(a b:List UInt32)(zG:Int)(wJ:UInt32)(Hy:Nat)(mg bl:List UInt32)(r:PV):Prop:=L bh fn jt (inv2 a b zG wJ Hy mg bl) r
theorem e0(a b:Ws)(c:Int){r:PV}(h1:4*a.length≤140737488355328)(h2:(b.length+1)<9223372036854775808)(h3:4*(b.length+1)≤140737488355328)(h4:Cp 135 [aa a] (vI c))(h5:ar (c-1))(hL:ag a b (c-1) (List.replicate a.length (0:UInt32)) (List.replicate (b.length+1) (0:UInt32)) r):Cp 124 [aa a,aa b] r :=
 eG func124 93 [1,5,1,1,5,1,1] [.q,.aI [.o,(iI (a.length:Int)),(.app a.length ((List.replicate a.length (0:UInt32):Ws).map ab).flatten)],.aI [.o,(iI (b.length:Int)),(iI (((b.length+1):Nat):Int)),(.app (b.length+1) ((List.replicate (b.length+1) (0:UInt32):Ws).map ab).flatten)],.aI [.o,(.pv (vI c)),(iI (c-1))],.aB [0,1,6,7,8],.ord [13,17]] (y7 (ak ab a) (oK ab 0 4 a.length (Eq.refl (((a.length:Nat):Int):Int)) h1 rfl) (ak ab b) (aH h2) (oK ab 0 4 (b.length+1) (Eq.refl ((((b.length+1):Nat):Int):Int)) h3 rfl) h4 (aG h5)) hL
theorem l10(a b:Ws)(c:Int)(d g:Ws)(k:Nat)(v:UInt32)(k1:Nat)(z z1:UInt32){r:PV}(h1:0≤c)(h2:c=(k:Int))(h3:k<9223372036854775808)(h4:a[(k/32)]? = some v)(h5:c=(k1:Int))(h6:v.toNat/2^(min (k1%32) 32)=z.toNat)(h7:(z.toNat%4294967296) &&& (1%4294967296)=z1.toNat)(hL:aM a b c z1 0 d g r):ag a b c d g r :=
 lG 138 [1,1,3,1,1,1] [.a,.q,.t,.aI [.o,.o,(iI (((k/32):Nat):Int)),(.row (k/32) (ab v)),.o,.o,(iI (((k1%32):Nat):Int)),iW z,iW z1],.q,.aB [0,1,6,7,8,9,35,36]] (y6 (di h1) (BF h2 (wy (y:=32) (by decide) h3)) (bd ab (Eq.refl ((((k/32):Nat):Int):Int)) h4) (BF h5 (wz (x:=k1) (y:=32) (by decide))) (gu (k := .i64) h6) (dh h7)) hL
theorem cW(a b:Ws)(c:Int)(d g i j:Ws)(h1:c<0)(h2:a.length=d.length)(h3:(b.length+1)=g.length)(h4:Cp 88 [aa d] (aa i))(h5:Cp 88 [aa g] (aa j)):ag a b c d g (.aY [aa i,aa j]) :=
 lD 126 [1,3,3,1,1] [.a,.q,.f,.eQ 6 ((d:Ws).map ab),.eQ 7 ((g:Ws).map ab),.aI [.o,(.pv (aa i)),.o,(.pv (aa j))]] (y5 (jx h1) (cM aF (d:Ws) h2) (cM aF (g:Ws) h3) h4 h5)
theorem tY(a b:Ws)(c:Int)(d:UInt32)(g:Nat)(i j:Ws)(v z z1 z2:UInt32){r:PV}(h1:g<(b.length+1))(h2:j[g]? = some v)(h3:(v.toNat*2^(min 1 32))%4294967296=z.toNat)(h4:(z.toNat%4294967296) ||| (d.toNat%4294967296)=z1.toNat)(h5:v.toNat/2^(min 31 32)=z2.toNat)(h6:g<j.length)(h7:(g+1)<9223372036854775808)(hL:aM a b c z2 (g+1) i (j.set g z1) r):aM a b c d g i j r :=
 lG 177 [1,2,1,1,1,2,1,1,2,2,1] [.a,.q,.t,.q,dr 16 1 [.none,.none,.none,.none,(.nat g),(.ev (.pv (vW v))),iW z,.none,iW z1,.none,.none,(.nat g),(.ev (.pv (vW v))),iW z2,(.nat g),(.cells (.pure (((j.set g z1):Ws).map ab).flatten))],.h 0 (iI (((g+1):Nat):Int)),.aB [0,1,6,7,8,9,35,36]] (xZ (af h1) (cj (Eq.refl (((g:Nat):Int):Int)) h1) (eK (enc:=ab) (f:=fun a=>(vW a)) (fun _=>rfl) h2) (tL (k := .u64) h3) (nJ h4) (cj (Eq.refl (((g:Nat):Int):Int)) h1) (eK (enc:=ab) (f:=fun a=>(vW a)) (fun _=>rfl) h2) (gu (k := .u64) h5) (cj (Eq.refl (((g:Nat):Int):Int)) h1) (ee aF (j:Ws) z1 h6) (aH h7)) hL
theorem sf(a b:Ws)(c:Int)(d:UInt32)(g:Nat)(i j z:Ws)(l:Int)(z1:Ws)(k:Nat)(v:UInt32)(k1:Nat)(z2 z3:UInt32){r:PV}(h1:(b.length+1)≤g)(h2:aq bh 101 [.row 100000 0 (b.length+1) 1,.pv (aa b)] [(100000,(.pure ((j:Ws).map ab).flatten))] (.pv (vI l)) [(100000,(.pure ((z:Ws).map ab).flatten))])(h3:0≤l)(h4:aq bh 121 [.row 100000 0 (b.length+1) 1,.pv (aa b)] [(100000,(.pure ((z:Ws).map ab).flatten))] (.pv (.aY [])) [(100000,(.pure ((z1:Ws).map ab).flatten))])(h5:c=(k:Int))(h6:k<9223372036854775808)(h7:(k/32)<a.length)(h8:i[(k/32)]? = some v)(h9:c=(k1:Int))(cL:(1*2^(min (k1%32) 32))%4294967296=z2.toNat)(ec:(v.toNat%4294967296) ||| (z2.toNat%4294967296)=z3.toNat)(gp:(k/32)<i.length)(jz:ar (c-1))(hL:ag a b (c-1) (i.set (k/32) z3) z1 r):aM a b c d g i j r :=
 lG 189 [1,1,1,1,1,2,1,1,1,1,2,2,1] [.a,.q,.f,.h 2 (.bz [(17,100000)] none (.pv (vI l)) [(100000,(.pure ((z:Ws).map ab).flatten))]),.t,.h 2 (.bz [(17,100000)] none (.pv (.aY [])) [(100000,(.pure ((z1:Ws).map ab).flatten))]),dr 10 1 [.none,.none,(iI (((k/32):Nat):Int)),(.nat (k/32)),(.ev (.pv (vW v))),.none,(iI (((k1%32):Nat):Int)),iW z2,iW z3,(.nat (k/32)),(.cells (.pure (((i.set (k/32) z3):Ws).map ab).flatten))],.h 1 (iI (c-1)),.aB [0,1,6,7,8]] (Ew (an h1) h2 (di h3) h4 (BF h5 (wy (y:=32) (by decide) h6)) (cj (Eq.refl ((((k/32):Nat):Int):Int)) h7) (eK (enc:=ab) (f:=fun a=>(vW a)) (fun _=>rfl) h8) (BF h9 (wz (x:=k1) (y:=32) (by decide))) (tL (k := .i64) cL) (nJ ec) (cj (Eq.refl ((((k/32):Nat):Int):Int)) h7) (ee aF (i:Ws) z3 gp) (aG jz)) hL
theorem BI(a b:Ws)(c:Int)(d:UInt32)(g:Nat)(i j z:Ws)(k:Int){r:PV}(h1:(b.length+1)≤g)(h2:aq bh 101 [.row 100000 0 (b.length+1) 1,.pv (aa b)] [(100000,(.pure ((j:Ws).map ab).flatten))] (.pv (vI k)) [(100000,(.pure ((z:Ws).map ab).flatten))])(h3:k<0)(h4:ar (c-1))(hL:ag a b (c-1) i z r):aM a b c d g i j r :=
 lG 183 [1,1,1,1] [.a,.q,.f,.h 2 (.bz [(17,100000)] none (.pv (vI k)) [(100000,(.pure ((z:Ws).map ab).flatten))]),.f,.h 1 (iI (c-1)),.aB [0,1,6,7,8]] (y4 (an h1) h2 (jx h3) (aG h4)) hL
end bf
namespace iF
theorem e0(a:Ws)(i:Int)(k:Nat)(v:UInt32)(h1:i<(a.length:Int))(h2:i=(k:Int))(h3:a[k]? = some v):Cp 125 [aa a,vI i] (vU v.toNat) :=
 eD func125 84 [1,1,3,1] [.q,.h 2 (iI (a.length:Int)),.t,.aI [.o,.o,(.row k (ab v)),.o,iU v.toNat]] (y4 (ak ab a) (cA h1) (bd ab h2 h3) (iA v))
theorem e1(a:Ws)(i:Int)(h1:(a.length:Int)≤i):Cp 125 [aa a,vI i] (vU 0) :=
 eD func125 87 [1,1] [.q,.h 2 (iI (a.length:Int)),.f,.q] (y2 (ak ab a) (cY h1))
end iF
namespace ig
theorem e0(a:Ws)(b:Nat)(i:Int)(k:Nat)(v:UInt32)(h1:i<(b:Int))(h2:i=(k:Int))(h3:k<b)(h4:a[k]? = some v):aq bh 125 [(.row 100000 0 b 1),eI i] [(100000,(.pure ((a:Ws).map ab).flatten))] (.pv (vU v.toNat)) [(100000,(.pure ((a:Ws).map ab).flatten))] :=
 MN func125 84 [1,2,1,1] [.q,.q,.t,.aI [.o,.o,(.nat k),(.ev (.pv (vW v))),iU v.toNat],.ord [100000]] (y4 (cA h1) (cj h2 h3) (eK (enc:=ab) (f:=fun a=>(vW a)) (fun _=>rfl) h4) (iA v))
theorem e1(a:Ws)(b:Nat)(i:Int)(h1:(b:Int)≤i):aq bh 125 [(.row 100000 0 b 1),eI i] [(100000,(.pure ((a:Ws).map ab).flatten))] (.pv (vU 0)) [(100000,(.pure ((a:Ws).map ab).flatten))] :=
 MN func125 87 [1] [.q,.q,.f,.q,.ord [100000]] (y1 (cY h1))
end ig
namespace b7
@[reducible] def fn:Func:=Tryz.f135
def bg:List dB:=focus [0,2,0,0,2,1,2,0,2,0,0,2,0,0] [.code (az fn)]
def inv1(Hn:Int)(LF:UInt32):St:=⟨[(3,(eI Hn)),(4,(eW LF))],[]⟩
@[reducible] def ag(Hn:Int)(LF:UInt32)(r:PV):Prop:=L bh fn bg (inv1 Hn LF) r
theorem e0(a:Ws)(h1:a.length=0):Cp 135 [aa a] (vI 0) :=
 eD func135 84 [1,1] [.q,.h 1 (iI (a.length:Int)),.t,.q] (y2 (ak ab a) (aA h1))
theorem e1(a:Ws)(k:Nat)(v:UInt32){r:PV}(h1:a.length≠0)(h2:ar ((a.length:Int)-1))(h3:ar (32*((a.length:Int)-1)))(h4:((a.length:Int)-1)=(k:Int))(h5:a[k]? = some v)(hL:ag (32*((a.length:Int)-1)) v r):Cp 135 [aa a] r :=
 eG func135 102 [1,1,1,1,1,1,1,3] [.q,.h 1 (iI (a.length:Int)),.f,.aI [.o,(iI (a.length:Int)),(iI ((a.length:Int)-1)),(iI (32*((a.length:Int)-1)))],.aI [.o,.o,(iI (a.length:Int)),(iI ((a.length:Int)-1)),(.row k (ab v))],.aB [3,4]] (y8 (ak ab a) (av h1) (ak ab a) (aG h2) (Hc h3) (ak ab a) (aG h2) (bd ab h4 h5)) hL
theorem l10(b:Int)(c z:UInt32){r:PV}(h1:0<c.toNat)(h2:ar (b+1))(h3:c.toNat/2^(min 1 32)=z.toNat)(hL:ag (b+1) z r):ag b c r :=
 lG 135 [1,1,1] [.a,.q,.t,.h 1 (iI (b+1)),.h 1 (iW z),.aB [3,4]] (y3 (af h1) (ng h2) (gu (k := .u64) h3)) hL
theorem cW(b:Int)(c:UInt32)(h1:c.toNat≤0):ag b c (vI b) :=
 lD 135 [1] [.a,.q,.f,.q] (y1 (an h1))
end b7
end Go.Proofs.YtnjhplhbmapclaaGreatDoor.Sym.Path
end
