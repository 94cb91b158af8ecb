/- Lemmas for the statements of this seat. -/
import Derived.Test.YtnjhplhbmapclaaGreatDoorT0
noncomputable section
namespace Go.Proofs.YtnjhplhbmapclaaGreatDoor.Sym.Path
open Go Tryz
set_option maxRecDepth 20000
set_option linter.unusedVariables false
namespace aX
@[reducible] def fn:Func:=Tryz.f7
def bg:List dB:=focus [0,2,0,0,2,0,2,1,2,0,2,0,0,2,0,0] [.code (az fn)]
def inv1(p:List ae)(LJ:ByteArray)(wF:Int):St:=⟨[(0,(.pv (ah p))),(5,(.pv (.str LJ))),(6,(eI wF))],[]⟩
@[reducible] def ag(p:List ae)(LJ:ByteArray)(wF:Int)(r:PV):Prop:=L bh fn bg (inv1 p LJ wF) r
theorem e0(p:Rs)(a:Int)(h1:Cp 10 [ah p] (vI a))(h2:a≠0):Cp 7 [ah p] (.aY [(.str (ByteArray.mk #[])),vI a]) :=
 eD func7 90 [1,1] [.q,.h 1 (.pv (vI a)),.q,.t,.q] (y2 h1 (AP h2))
theorem e1(p:Rs)(a:Int){r:PV}(h1:Cp 10 [ah p] (vI a))(h2:a=0)(h3:ar ((p.length:Int)-1))(hL:ag p (ByteArray.mk #[]) ((p.length:Int)-1) r):Cp 7 [ah p] r :=
 eG func7 108 [1,1,1,1] [.q,.h 1 (.pv (vI a)),.q,.f,.q,.aI [.o,(iI (p.length:Int)),(iI ((p.length:Int)-1))],.aB [0,5,6]] (y4 h1 (Dg h2) (ak ae.cells p) (aG h3)) hL
theorem l10(p:Rs)(b:ByteArray)(c:Int)(k:Nat)(v:ae)(d:Int){r:PV}(h1:0≤c)(h2:c=(k:Int))(h3:p[k]? = some v)(h4:Cp 24 [v.pv] (vI d))(h5:d=0)(h6:ar (c-1))(hL:ag p b (c-1) r):ag p b c r :=
 lG 156 [1,3,1,1,1] [.a,.q,.t,.aI [.o,.o,(.row k (ae.cells v)),.o,(.pv (vI d))],.t,.h 1 (iI (c-1)),.aB [0,5,6]] (y5 (di h1) (bd ae.cells h2 h3) h4 (dO h5) (aG h6)) hL
theorem cW(p:Rs)(b:ByteArray)(c:Int)(k:Nat)(v:ae)(d:Int)(k1:Nat)(v1:ae)(g i:ByteArray){r:PV}(h1:0≤c)(h2:c=(k:Int))(h3:p[k]? = some v)(h4:Cp 24 [v.pv] (vI d))(h5:d≠0)(h6:b≠(ByteArray.mk #[]))(h7:b.size+(ByteArray.mk #[32,43,32]).size<9223372036854775808)(h8:c=(k1:Int))(h9:p[k1]? = some v1)(cL:Cp 25 [v1.pv] (.str g))(ec:(b++(ByteArray.mk #[32,43,32])).size+g.size<9223372036854775808)(gp:0<c)(jz:((b++(ByteArray.mk #[32,43,32]))++g).size+(ByteArray.mk #[32,120]).size<9223372036854775808)(mG:1<c)(se:Cp 26 [vI c] (.str i))(vY:(ByteArray.mk #[94]).size+i.size<9223372036854775808)(vr:(((b++(ByteArray.mk #[32,43,32]))++g)++(ByteArray.mk #[32,120])).size+((ByteArray.mk #[94])++i).size<9223372036854775808)(zI:ar (c-1))(hL:ag p ((((b++(ByteArray.mk #[32,43,32]))++g)++(ByteArray.mk #[32,120]))++((ByteArray.mk #[94])++i)) (c-1) r):ag p b c r :=
 lG 201 [1,3,1,1,1,1,3,1,1,1,1,1,1,1,1,1] [.a,.q,.t,.aI [.o,.o,(.row k (ae.cells v)),.o,(.pv (vI d))],.f,.q,.t,.h 1 (.pv (.str (b++(ByteArray.mk #[32,43,32])))),.aI [.o,.o,.o,(.row k1 (ae.cells v1)),.o,(.pv (.str g)),(.pv (.str ((b++(ByteArray.mk #[32,43,32]))++g)))],.q,.t,.h 1 (.pv (.str (((b++(ByteArray.mk #[32,43,32]))++g)++(ByteArray.mk #[32,120])))),.q,.t,.aI [.o,.o,(.pv (.str i)),(.pv (.str ((ByteArray.mk #[94])++i))),(.pv (.str ((((b++(ByteArray.mk #[32,43,32]))++g)++(ByteArray.mk #[32,120]))++((ByteArray.mk #[94])++i))))],.h 1 (iI (c-1)),.aB [0,5,6]] (Cg (di h1) (bd ae.cells h2 h3) h4 (dE h5) (cF (wx h6)) (bI h7) (bd ae.cells h8 h9) cL (bI ec) (cA gp) (bI jz) (cA mG) se (bI vY) (bI vr) (aG zI)) hL
theorem mD(p:Rs)(b:ByteArray)(c:Int)(k:Nat)(v:ae)(d:Int)(k1:Nat)(v1:ae)(g:ByteArray){r:PV}(h1:0≤c)(h2:c=(k:Int))(h3:p[k]? = some v)(h4:Cp 24 [v.pv] (vI d))(h5:d≠0)(h6:b≠(ByteArray.mk #[]))(h7:b.size+(ByteArray.mk #[32,43,32]).size<9223372036854775808)(h8:c=(k1:Int))(h9:p[k1]? = some v1)(cL:Cp 25 [v1.pv] (.str g))(ec:(b++(ByteArray.mk #[32,43,32])).size+g.size<9223372036854775808)(gp:0<c)(jz:((b++(ByteArray.mk #[32,43,32]))++g).size+(ByteArray.mk #[32,120]).size<9223372036854775808)(mG:c≤1)(se:ar (c-1))(hL:ag p (((b++(ByteArray.mk #[32,43,32]))++g)++(ByteArray.mk #[32,120])) (c-1) r):ag p b c r :=
 lG 201 [1,3,1,1,1,1,3,1,1,1,1,1,1] [.a,.q,.t,.aI [.o,.o,(.row k (ae.cells v)),.o,(.pv (vI d))],.f,.q,.t,.h 1 (.pv (.str (b++(ByteArray.mk #[32,43,32])))),.aI [.o,.o,.o,(.row k1 (ae.cells v1)),.o,(.pv (.str g)),(.pv (.str ((b++(ByteArray.mk #[32,43,32]))++g)))],.q,.t,.h 1 (.pv (.str (((b++(ByteArray.mk #[32,43,32]))++g)++(ByteArray.mk #[32,120])))),.q,.f,.h 1 (iI (c-1)),.aB [0,5,6]] (Ew (di h1) (bd ae.cells h2 h3) h4 (dE h5) (cF (wx h6)) (bI h7) (bd ae.cells h8 h9) cL (bI ec) (cA gp) (bI jz) (cY mG) (aG se)) hL
theorem Ex(p:Rs)(b:ByteArray)(c:Int)(k:Nat)(v:ae)(d:Int)(k1:Nat)(v1:ae)(g:ByteArray){r:PV}(h1:0≤c)(h2:c=(k:Int))(h3:p[k]? = some v)(h4:Cp 24 [v.pv] (vI d))(h5:d≠0)(h6:b≠(ByteArray.mk #[]))(h7:b.size+(ByteArray.mk #[32,43,32]).size<9223372036854775808)(h8:c=(k1:Int))(h9:p[k1]? = some v1)(cL:Cp 25 [v1.pv] (.str g))(ec:(b++(ByteArray.mk #[32,43,32])).size+g.size<9223372036854775808)(gp:c≤0)(jz:c≤1)(mG:ar (c-1))(hL:ag p ((b++(ByteArray.mk #[32,43,32]))++g) (c-1) r):ag p b c r :=
 lG 201 [1,3,1,1,1,1,3,1,1,1,1,1] [.a,.q,.t,.aI [.o,.o,(.row k (ae.cells v)),.o,(.pv (vI d))],.f,.q,.t,.h 1 (.pv (.str (b++(ByteArray.mk #[32,43,32])))),.aI [.o,.o,.o,(.row k1 (ae.cells v1)),.o,(.pv (.str g)),(.pv (.str ((b++(ByteArray.mk #[32,43,32]))++g)))],.q,.f,.q,.f,.h 1 (iI (c-1)),.aB [0,5,6]] (Ev (di h1) (bd ae.cells h2 h3) h4 (dE h5) (cF (wx h6)) (bI h7) (bd ae.cells h8 h9) cL (bI ec) (cY gp) (cY jz) (aG mG)) hL
theorem Iy(p:Rs)(b:ByteArray)(c:Int)(k:Nat)(v:ae)(d:Int)(k1:Nat)(v1:ae)(g i:ByteArray){r:PV}(h1:0≤c)(h2:c=(k:Int))(h3:p[k]? = some v)(h4:Cp 24 [v.pv] (vI d))(h5:d≠0)(h6:b=(ByteArray.mk #[]))(h7:c=(k1:Int))(h8:p[k1]? = some v1)(h9:Cp 25 [v1.pv] (.str g))(cL:b.size+g.size<9223372036854775808)(ec:0<c)(gp:(b++g).size+(ByteArray.mk #[32,120]).size<9223372036854775808)(jz:1<c)(mG:Cp 26 [vI c] (.str i))(se:(ByteArray.mk #[94]).size+i.size<9223372036854775808)(vY:((b++g)++(ByteArray.mk #[32,120])).size+((ByteArray.mk #[94])++i).size<9223372036854775808)(vr:ar (c-1))(hL:ag p (((b++g)++(ByteArray.mk #[32,120]))++((ByteArray.mk #[94])++i)) (c-1) r):ag p b c r :=
 lG 201 [1,3,1,1,1,3,1,1,1,1,1,1,1,1,1] [.a,.q,.t,.aI [.o,.o,(.row k (ae.cells v)),.o,(.pv (vI d))],.f,.q,.f,.aI [.o,.o,.o,(.row k1 (ae.cells v1)),.o,(.pv (.str g)),(.pv (.str (b++g)))],.q,.t,.h 1 (.pv (.str ((b++g)++(ByteArray.mk #[32,120])))),.q,.t,.aI [.o,.o,(.pv (.str i)),(.pv (.str ((ByteArray.mk #[94])++i))),(.pv (.str (((b++g)++(ByteArray.mk #[32,120]))++((ByteArray.mk #[94])++i))))],.h 1 (iI (c-1)),.aB [0,5,6]] (Ix (di h1) (bd ae.cells h2 h3) h4 (dE h5) (bm (lW h6)) (bd ae.cells h7 h8) h9 (bI cL) (cA ec) (bI gp) (cA jz) mG (bI se) (bI vY) (aG vr)) hL
theorem OC(p:Rs)(b:ByteArray)(c:Int)(k:Nat)(v:ae)(d:Int)(k1:Nat)(v1:ae)(g:ByteArray){r:PV}(h1:0≤c)(h2:c=(k:Int))(h3:p[k]? = some v)(h4:Cp 24 [v.pv] (vI d))(h5:d≠0)(h6:b=(ByteArray.mk #[]))(h7:c=(k1:Int))(h8:p[k1]? = some v1)(h9:Cp 25 [v1.pv] (.str g))(cL:b.size+g.size<9223372036854775808)(ec:0<c)(gp:(b++g).size+(ByteArray.mk #[32,120]).size<9223372036854775808)(jz:c≤1)(mG:ar (c-1))(hL:ag p ((b++g)++(ByteArray.mk #[32,120])) (c-1) r):ag p b c r :=
 lG 201 [1,3,1,1,1,3,1,1,1,1,1,1] [.a,.q,.t,.aI [.o,.o,(.row k (ae.cells v)),.o,(.pv (vI d))],.f,.q,.f,.aI [.o,.o,.o,(.row k1 (ae.cells v1)),.o,(.pv (.str g)),(.pv (.str (b++g)))],.q,.t,.h 1 (.pv (.str ((b++g)++(ByteArray.mk #[32,120])))),.q,.f,.h 1 (iI (c-1)),.aB [0,5,6]] (Ev (di h1) (bd ae.cells h2 h3) h4 (dE h5) (bm (lW h6)) (bd ae.cells h7 h8) h9 (bI cL) (cA ec) (bI gp) (cY jz) (aG mG)) hL
theorem OD(p:Rs)(b:ByteArray)(c:Int)(k:Nat)(v:ae)(d:Int)(k1:Nat)(v1:ae)(g:ByteArray){r:PV}(h1:0≤c)(h2:c=(k:Int))(h3:p[k]? = some v)(h4:Cp 24 [v.pv] (vI d))(h5:d≠0)(h6:b=(ByteArray.mk #[]))(h7:c=(k1:Int))(h8:p[k1]? = some v1)(h9:Cp 25 [v1.pv] (.str g))(cL:b.size+g.size<9223372036854775808)(ec:c≤0)(gp:c≤1)(jz:ar (c-1))(hL:ag p (b++g) (c-1) r):ag p b c r :=
 lG 201 [1,3,1,1,1,3,1,1,1,1,1] [.a,.q,.t,.aI [.o,.o,(.row k (ae.cells v)),.o,(.pv (vI d))],.f,.q,.f,.aI [.o,.o,.o,(.row k1 (ae.cells v1)),.o,(.pv (.str g)),(.pv (.str (b++g)))],.q,.f,.q,.f,.h 1 (iI (c-1)),.aB [0,5,6]] (xZ (di h1) (bd ae.cells h2 h3) h4 (dE h5) (bm (lW h6)) (bd ae.cells h7 h8) h9 (bI cL) (cY ec) (cY gp) (aG jz)) hL
theorem OE(p:Rs)(b:ByteArray)(c:Int)(h1:c<0)(h2:b=(ByteArray.mk #[])):ag p b c (.aY [(.str (ByteArray.mk #[48])),vI 0]) :=
 lD 153 [1,1] [.a,.q,.f,.q,.t,.q] (y2 (jx h1) (lW h2))
theorem LK(p:Rs)(b:ByteArray)(c:Int)(h1:c<0)(h2:b≠(ByteArray.mk #[])):ag p b c (.aY [(.str b),vI 0]) :=
 lD 156 [1,1] [.a,.q,.f,.q,.f,.q] (y2 (jx h1) (wx h2))
end aX
namespace aN
@[reducible] def fn:Func:=Tryz.f10
def bg:List dB:=focus [0,2,0,0,2,1,2,0,0,2,0,0] [.code (az fn)]
def inv1(p:List ae)(HG:Nat):St:=⟨[(0,(.pv (ah p))),(8,(.pv (ah p))),(9,(eI (p.length:Int))),(10,(eI (HG:Int)))],[]⟩
@[reducible] def ag(p:List ae)(HG:Nat)(r:PV):Prop:=L bh fn bg (inv1 p HG) r
theorem e0(p:Rs)(h1:65<p.length):Cp 10 [ah p] (vI 4) :=
 eD func10 84 [1,1] [.q,.h 1 (iI (p.length:Int)),.t,.q] (y2 (ak ae.cells p) (af h1))
theorem e1(p:Rs){r:PV}(h1:p.length≤65)(hL:ag p 0 r):Cp 10 [ah p] r :=
 eG func10 96 [1,1,1] [.q,.h 1 (iI (p.length:Int)),.f,.h 1 (iI (p.length:Int)),.aB [0,8,9,10]] (y3 (ak ae.cells p) (an h1) (ak ae.cells p)) hL
theorem l10(p:Rs)(b:Nat)(v:ae)(c:Bool)(h1:b<p.length)(h2:p[b]? = some v)(h3:Cp 28 [v.pv] (vB c))(h4:c=false):ag p b (vI 2) :=
 lD 141 [1,3,1,1] [.a,.q,.t,.h 0 (.row b (ae.cells v)),.h 1 (.pv (vB c)),.t,.q] (y4 (af h1) (bd ae.cells (Eq.refl (((b:Nat):Int):Int)) h2) h3 (cF h4))
theorem cW(p:Rs)(b:Nat)(v:ae)(c:Bool){r:PV}(h1:b<p.length)(h2:p[b]? = some v)(h3:Cp 28 [v.pv] (vB c))(h4:c=true)(h5:(b+1)<9223372036854775808)(hL:ag p (b+1) r):ag p b r :=
 lG 144 [1,3,1,1,1] [.a,.q,.t,.h 0 (.row b (ae.cells v)),.h 1 (.pv (vB c)),.f,.h 0 (iI (((b+1):Nat):Int)),.aB [0,8,9,10],.drop [4]] (y5 (af h1) (bd ae.cells (Eq.refl (((b:Nat):Int):Int)) h2) h3 (bm h4) (aH h5)) hL
theorem mD(p:Rs)(b k:Nat)(v:ae)(c:Int)(h1:p.length≤b)(h2:0<p.length)(h3:ar ((p.length:Int)-1))(h4:((p.length:Int)-1)=(k:Int))(h5:p[k]? = some v)(h6:Cp 24 [v.pv] (vI c))(h7:c=0):ag p b (vI 8) :=
 lD 141 [1,1,1,1,1,1,1,1,1,3,1,1,1,1,1,1] [.a,.q,.f,.aI [.o,(iI (p.length:Int)),.o,.o,.o,.o,(iI (p.length:Int)),(iI ((p.length:Int)-1)),(.row k (ae.cells v)),.o,(.pv (vI c)),.o,(.dec true)],.t,.q] (Cg (an h1) (ak ae.cells p) (af h2) (af h2) (af h2) (ak ae.cells p) (af h2) (aG h3) (af h2) (bd ae.cells h4 h5) (af h2) (af h2) h6 (af h2) (af h2) (dO h7))
theorem zE(p:Rs)(b k:Nat)(v:ae)(c:Int)(h1:p.length≤b)(h2:0<p.length)(h3:ar ((p.length:Int)-1))(h4:((p.length:Int)-1)=(k:Int))(h5:p[k]? = some v)(h6:Cp 24 [v.pv] (vI c))(h7:c≠0):ag p b (vI 0) :=
 lD 144 [1,1,1,1,1,1,1,1,1,3,1,1,1,1,1,1] [.a,.q,.f,.aI [.o,(iI (p.length:Int)),.o,.o,.o,.o,(iI (p.length:Int)),(iI ((p.length:Int)-1)),(.row k (ae.cells v)),.o,(.pv (vI c)),.o,(.dec true)],.f,.q] (Cg (an h1) (ak ae.cells p) (af h2) (af h2) (af h2) (ak ae.cells p) (af h2) (aG h3) (af h2) (bd ae.cells h4 h5) (af h2) (af h2) h6 (af h2) (af h2) (dE h7))
theorem Ex(p:Rs)(b:Nat)(h1:p.length≤b)(h2:p.length≤0):ag p b (vI 0) :=
 lD 144 [1,1,1,1,1,1,1,1,1,1,1] [.a,.q,.f,.aI [.o,(iI (p.length:Int)),.o,.o,.skip,.skip,.skip,.skip,.skip,.skip,.skip,.skip,(.dec false)],.a,.q] (xZ (an h1) (ak ae.cells p) (an h2) (an h2) (an h2) (an h2) (an h2) (an h2) (an h2) (an h2) (an h2))
end aN
namespace kg
theorem e0(p q:Rs)(a:Bool)(h1:Cp 29 [ah p,ah q] (vB a)):Cp 11 [ah p,ah q] (vB a) :=
 eD func11 72 [1] [.q,.h 2 (.pv (vB a))] (y1 h1)
end kg
namespace bC
@[reducible] def fn:Func:=Tryz.f13
def bg:List dB:=focus [0,2,0,2,0,0,2,0,0] [.code (az fn)]
def inv1(bl l:List ae)(ub:Nat):St:=⟨[(3,(.row 17 0 bl.length 3)),(6,(.pv (ah l))),(7,(eI (l.length:Int))),(8,(eI (ub:Int)))],[(17,(.pure ((bl:List ae).map ae.cells).flatten))]⟩
@[reducible] def ag(bl l:List ae)(ub:Nat)(r:PV):Prop:=L bh fn bg (inv1 bl l ub) r
def jt:List dB:=focus [0,2,0,2,0,0,2,0,0,0,0,2,0,1,2,2,2,2,0,0,0] [.code (az fn)]
def inv2(bl:List ae):St:=⟨[(3,(.row 17 0 bl.length 3))],[(17,(.pure ((bl:List ae).map ae.cells).flatten))]⟩
@[reducible] def aM(bl:List ae)(r:PV):Prop:=L bh fn jt (inv2 bl) r
theorem e0 (l : Rs) {r : PV}  (hL : ag [] l 0 r) : Cp 13 [ah l] r :=
 eG func13 87 [1] [.q,.h 0 .nil,.mY 3 17 3,.h 1 (iI (l.length:Int)),.aB [3,6,7,8]] (y1 (ak ae.cells l)) hL
theorem l10(b l:Rs)(c:Nat)(v d:ae){r:PV}(h1:c<l.length)(h2:l[c]? = some v)(h3:Cp 31 [v.pv,(⟨false,[],[]⟩:ae).pv] d.pv)(h4:((b++[d]):Rs).length*56≤140737488355328)(h5:(c+1)<9223372036854775808)(hL:ag (b++[d]) l (c+1) r):ag b l c r :=
 lG 126 [1,3,1,6,1] [.a,.q,.t,.h 0 (.row c (ae.cells v)),.aI [.o,.o,.o,(.pv d.pv),.o,(.app ((b++[d]):Rs).length (((b++[d]):Rs).map ae.cells).flatten)],.h 0 (iI (((c+1):Nat):Int)),.aB [3,6,7,8],.drop [16,5]] (y5 (af h1) (bd ae.cells (Eq.refl (((c:Nat):Int):Int)) h2) h3 (k4 bq (b:Rs) ([d]:Rs) 56 (Eq.refl (b:Rs).length) (Eq.refl ([d]:Rs).length) h4 rfl) (aH h5)) hL
theorem cW(b l:Rs)(c:Nat){r:PV}(h1:l.length≤c)(hL:aM b r):ag b l c r :=
 lG 123 [1] [.a,.q,.f,.aB [3]] (y1 (an h1)) hL
theorem tY(b:Rs)(k:Nat)(v:ae)(c:Int)(u:Nat){r:PV}(h1:0<b.length)(h2:ar ((b.length:Int)-1))(h3:((b.length:Int)-1)=(k:Int))(h4:k<b.length)(h5:b[k]? = some v)(h6:Cp 24 [v.pv] (vI c))(h7:c=0)(h8:((b.length:Int)-1)=(u:Int))(h9:u≤(b:Rs).length)(hL:aM (b.take u) r):aM b r :=
 lG 150 [1,1,1,1,1,1,2,1,2,1,1,1,1,1,1,5,1] [.a,.aI [.o,.o,.o,.o,.o,.o,.o,(iI ((b.length:Int)-1)),(.nat k),(.B2 [vB v.neg,aa v.num,aa v.den]),(.pv (vI c)),.o,(.dec true)],.t,.aI [.o,.o,.o,(iI ((b.length:Int)-1)),(.kV 0 ((b.take u).length) [])],.cut 17 (u*3) (((b.take u):Rs).map ae.cells).flatten,.aB [3]] (Jo (af h1) (af h1) (af h1) (af h1) (aG h2) (af h1) (cj h3 h4) (af h1) (pI bq h5) (af h1) h6 (af h1) (af h1) (dO h7) (aG h2) (xY (b:Rs) h8 h9) (pJ bq (b:Rs) u)) hL
theorem sf(b:Rs)(k:Nat)(v:ae)(c:Int)(h1:0<b.length)(h2:ar ((b.length:Int)-1))(h3:((b.length:Int)-1)=(k:Int))(h4:k<b.length)(h5:b[k]? = some v)(h6:Cp 24 [v.pv] (vI c))(h7:c≠0):aM b (ah b) :=
 lD 156 [1,1,1,1,1,1,2,1,2,1,1,1,1,1,3] [.a,.aI [.o,.o,.o,.o,.o,.o,.o,(iI ((b.length:Int)-1)),(.nat k),(.B2 [vB v.neg,aa v.num,aa v.den]),(.pv (vI c)),.o,(.dec true)],.f,.q,.eQ 2 ((b:Rs).map ae.cells)] (Ix (af h1) (af h1) (af h1) (af h1) (aG h2) (af h1) (cj h3 h4) (af h1) (pI bq h5) (af h1) h6 (af h1) (af h1) (dE h7) (cM bq (b:Rs) (Eq.refl (b:Rs).length)))
theorem BI(b:Rs)(h1:b.length≤0):aM b (ah b) :=
 lD 156 [1,1,1,1,1,1,1,1,1,3] [.a,.aI [.o,.o,.o,.o,.skip,.skip,.skip,.skip,.skip,.skip,.skip,.skip,(.dec false)],.a,.q,.eQ 2 ((b:Rs).map ae.cells)] (Eu (an h1) (an h1) (an h1) (an h1) (an h1) (an h1) (an h1) (an h1) (an h1) (cM bq (b:Rs) (Eq.refl (b:Rs).length)))
end bC
namespace fj
theorem e0(n:Int)(l u:Nat)(h1:n<10)(h2:ar (n+1))(h3:n=(l:Int))(h4:(n+1)=(u:Int))(h5:l≤u)(h6:u≤(ByteArray.mk #[48,49,50,51,52,53,54,55,56,57]).size):Cp 26 [vI n] (.str ((ByteArray.mk #[48,49,50,51,52,53,54,55,56,57]).extract l u)) :=
 eD func26 84 [1,1,4] [.q,.q,.t,.aI [.o,.o,(iI (n+1)),(.kV l u [])]] (y3 (cA h1) (ng h2) (cj h3 (cj h4 (cj h5 h6))))
theorem e1(n:Int)(k:Nat)(a:ByteArray)(k1:Nat)(b:ByteArray)(h1:10≤n)(h2:n=(k:Int))(h3:k<9223372036854775808)(h4:Cp 26 [(vI (((k/10):Nat):Int))] (.str a))(h5:n=(k1:Int))(h6:Cp 26 [(vI (((k1%10):Nat):Int))] (.str b))(h7:a.size+b.size<9223372036854775808):Cp 26 [vI n] (.str (a++b)) :=
 eD func26 87 [1,1,1,1,1,1] [.q,.q,.f,.aI [.o,(iI (((k/10):Nat):Int)),(.pv (.str a)),.o,(iI (((k1%10):Nat):Int)),(.pv (.str b)),(.pv (.str (a++b)))]] (y6 (cY h1) (BF h2 (wy (y:=10) (by decide) h3)) h4 (BF h5 (wz (x:=k1) (y:=10) (by decide))) h6 (bI h7))
end fj
namespace iH
theorem e0   : Cp 8 [.bD] (vI 0) :=
 eD func8 84 [] [.q,.q,.a,.q] True.intro
theorem e1 (e : Int)  : Cp 8 [(.iface 55 (vI e))] (vI e) :=
 eD func8 108 [] [.q,.q,.a,.q,.q,.a,.q] True.intro
end iH
namespace cq
@[reducible] def fn:Func:=Tryz.f29
def bg:List dB:=focus [0,2,0,0,2,1,2,0,0,2,0,0] [.code (az fn)]
def inv1(a b:List ae)(tW:Nat):St:=⟨[(0,(.pv (ah a))),(1,(.pv (ah b))),(5,(eI (tW:Int)))],[]⟩
@[reducible] def ag(a b:List ae)(tW:Nat)(r:PV):Prop:=L bh fn bg (inv1 a b tW) r
theorem e0(a b:Rs)(h1:a.length≠b.length):Cp 29 [ah a,ah b] (vB false) :=
 eD func29 84 [1,1,1] [.q,.aI [.o,(iI (a.length:Int)),.o,(iI (b.length:Int))],.t,.q] (y3 (ak ae.cells a) (ak ae.cells b) (iB h1))
theorem e1(a b:Rs){r:PV}(h1:a.length=b.length)(hL:ag a b 0 r):Cp 29 [ah a,ah b] r :=
 eG func29 96 [1,1,1] [.q,.aI [.o,(iI (a.length:Int)),.o,(iI (b.length:Int))],.f,.q,.aB [0,1,5]] (y3 (ak ae.cells a) (ak ae.cells b) (lY h1)) hL
theorem l10(a b:Rs)(c:Nat)(v v1:ae)(d:Bool)(h1:c<a.length)(h2:a[c]? = some v)(h3:b[c]? = some v1)(h4:Cp 64 [v.pv,v1.pv] (vB d))(h5:d=false):ag a b c (vB false) :=
 lD 135 [1,1,3,3,1,1] [.a,.h 2 (iI (a.length:Int)),.t,dr 10 0 [.none,.none,(.row c (ae.cells v)),.none,.none,.none,(.row c (ae.cells v1)),.none,(.pv (vB d))],.t,.q] (y6 (ak ae.cells a) (af h1) (bd ae.cells (Eq.refl (((c:Nat):Int):Int)) h2) (bd ae.cells (Eq.refl (((c:Nat):Int):Int)) h3) h4 (cF h5))
theorem cW(a b:Rs)(c:Nat)(v v1:ae)(d:Bool){r:PV}(h1:c<a.length)(h2:a[c]? = some v)(h3:b[c]? = some v1)(h4:Cp 64 [v.pv,v1.pv] (vB d))(h5:d=true)(h6:(c+1)<9223372036854775808)(hL:ag a b (c+1) r):ag a b c r :=
 lG 138 [1,1,3,3,1,1,1] [.a,.h 2 (iI (a.length:Int)),.t,dr 10 0 [.none,.none,(.row c (ae.cells v)),.none,.none,.none,(.row c (ae.cells v1)),.none,(.pv (vB d))],.f,.h 1 (iI (((c+1):Nat):Int)),.aB [0,1,5]] (y7 (ak ae.cells a) (af h1) (bd ae.cells (Eq.refl (((c:Nat):Int):Int)) h2) (bd ae.cells (Eq.refl (((c:Nat):Int):Int)) h3) h4 (bm h5) (aH h6)) hL
theorem mD(a b:Rs)(c:Nat)(h1:a.length≤c):ag a b c (vB true) :=
 lD 129 [1,1] [.a,.h 2 (iI (a.length:Int)),.f,.q] (y2 (ak ae.cells a) (an h1))
end cq
namespace fH
theorem e0(a b:ae)(c d:Bool)(h1:a.neg=b.neg)(h2:Cp 93 [aa a.num,aa b.num] (vB c))(h3:c=true)(h4:Cp 93 [aa a.den,aa b.den] (vB d)):Cp 64 [a.pv,b.pv] (vB d) :=
 eD func64 72 [1,1,1,1,1,1,1,1,1,1,1,1,1,1] [.q,.aI [.o,.o,.o,.o,.o,.o,.o,.o,.o,.o,(.pv (vB c)),(.dec true),.o,.o,.o,.o,.o,(.pv (vB d)),(.dec true)]] (Ff (kE h1) (kE h1) (kE h1) (kE h1) (kE h1) h2 (kE h1) h3 h3 h3 h3 h3 h4 h3)
theorem e1(a b:ae)(c:Bool)(h1:a.neg=b.neg)(h2:Cp 93 [aa a.num,aa b.num] (vB c))(h3:c=false):Cp 64 [a.pv,b.pv] (vB false) :=
 eD func64 72 [1,1,1,1,1,1,1,1,1,1,1,1,1] [.q,.aI [.o,.o,.o,.o,.o,.o,.o,.o,.o,.o,(.pv (vB c)),(.dec true),.o,.skip,.skip,.skip,.skip,.skip,(.dec false)]] (Ew (kE h1) (kE h1) (kE h1) (kE h1) (kE h1) h2 (kE h1) h3 h3 h3 h3 h3 h3)
theorem e2(a b:ae)(h1:a.neg≠b.neg):Cp 64 [a.pv,b.pv] (vB false) :=
 eD func64 72 [1,1,1,1,1,1,1,1,1,1,1] [.q,.aI [.o,.o,.o,.o,.o,.o,.skip,.skip,.skip,.skip,.skip,(.dec false),.o,.skip,.skip,.skip,.skip,.skip]] (xZ (om h1) (om h1) (om h1) (om h1) (om h1) (om h1) (Eq.refl false) (Eq.refl false) (Eq.refl false) (Eq.refl false) (Eq.refl false))
end fH
namespace b9
@[reducible] def fn:Func:=Tryz.f93
def bg:List dB:=focus [0,2,0,0,2,1,2,0,0,2,0,0] [.code (az fn)]
def inv1(a b:List UInt32)(tW:Nat):St:=⟨[(0,(.pv (aa a))),(1,(.pv (aa b))),(5,(eI (tW:Int)))],[]⟩
@[reducible] def ag(a b:List UInt32)(tW:Nat)(r:PV):Prop:=L bh fn bg (inv1 a b tW) r
theorem e0(a b:Ws)(h1:a.length≠b.length):Cp 93 [aa a,aa b] (vB false) :=
 eD func93 84 [1,1,1] [.q,.aI [.o,(iI (a.length:Int)),.o,(iI (b.length:Int))],.t,.q] (y3 (ak ab a) (ak ab b) (iB h1))
theorem e1(a b:Ws){r:PV}(h1:a.length=b.length)(hL:ag a b 0 r):Cp 93 [aa a,aa b] r :=
 eG func93 96 [1,1,1] [.q,.aI [.o,(iI (a.length:Int)),.o,(iI (b.length:Int))],.f,.q,.aB [0,1,5]] (y3 (ak ab a) (ak ab b) (lY h1)) hL
theorem l10(a b:Ws)(c:Nat)(v v1:UInt32)(h1:c<a.length)(h2:a[c]? = some v)(h3:b[c]? = some v1)(h4:v.toNat≠v1.toNat):ag a b c (vB false) :=
 lD 135 [1,1,3,3,1] [.a,.h 2 (iI (a.length:Int)),.t,dr 9 0 [.none,.none,(.row c (ab v)),.none,.none,.none,(.row c (ab v1))],.t,.q] (y5 (ak ab a) (af h1) (bd ab (Eq.refl (((c:Nat):Int):Int)) h2) (bd ab (Eq.refl (((c:Nat):Int):Int)) h3) (iB h4))
theorem cW(a b:Ws)(c:Nat)(v v1:UInt32){r:PV}(h1:c<a.length)(h2:a[c]? = some v)(h3:b[c]? = some v1)(h4:v.toNat=v1.toNat)(h5:(c+1)<9223372036854775808)(hL:ag a b (c+1) r):ag a b c r :=
 lG 138 [1,1,3,3,1,1] [.a,.h 2 (iI (a.length:Int)),.t,dr 9 0 [.none,.none,(.row c (ab v)),.none,.none,.none,(.row c (ab v1))],.f,.h 1 (iI (((c+1):Nat):Int)),.aB [0,1,5]] (y6 (ak ab a) (af h1) (bd ab (Eq.refl (((c:Nat):Int):Int)) h2) (bd ab (Eq.refl (((c:Nat):Int):Int)) h3) (lY h4) (aH h5)) hL
theorem mD(a b:Ws)(c:Nat)(h1:a.length≤c):ag a b c (vB true) :=
 lD 129 [1,1] [.a,.h 2 (iI (a.length:Int)),.f,.q] (y2 (ak ab a) (an h1))
end b9
namespace dW
@[reducible] def fn:Func:=Tryz.f17
def bg:List dB:=focus [0,2,0,2,0,0,2,0,0] [.code (az fn)]
def inv1(gk:List ae)(l:List Int)(ub:Nat):St:=⟨[(3,(.row 16 0 gk.length 3)),(6,(.pv (qm bY l))),(7,(eI (l.length:Int))),(8,(eI (ub:Int)))],[(16,(.pure ((gk:List ae).map ae.cells).flatten))]⟩
@[reducible] def ag(gk:List ae)(l:List Int)(ub:Nat)(r:PV):Prop:=L bh fn bg (inv1 gk l ub) r
theorem e0 (l : List Int) {r : PV}  (hL : ag [] l 0 r) : Cp 17 [qm bY l] r :=
 eG func17 87 [1] [.q,.h 0 .nil,.mY 3 16 3,.h 1 (iI (l.length:Int)),.aB [3,6,7,8]] (y1 (ak bY l)) hL
theorem l10(b:Rs)(l:List Int)(c:Nat)(v:Int)(of:ae){r:PV}(h1:c<l.length)(h2:l[c]? = some v)(h3:Cp 34 [vI v] of.pv)(h4:((b++[of]):Rs).length*56≤140737488355328)(h5:(c+1)<9223372036854775808)(hL:ag (b++[of]) l (c+1) r):ag b l c r :=
 lG 126 [1,3,1,6,1] [.a,.q,.t,.h 0 (.row c (bY v)),.aI [.o,.o,(.pv of.pv),.o,(.app ((b++[of]):Rs).length (((b++[of]):Rs).map ae.cells).flatten)],.h 0 (iI (((c+1):Nat):Int)),.aB [3,6,7,8],.drop [15]] (y5 (af h1) (bd bY (Eq.refl (((c:Nat):Int):Int)) h2) h3 (k4 bq (b:Rs) ([of]:Rs) 56 (Eq.refl (b:Rs).length) (Eq.refl ([of]:Rs).length) h4 rfl) (aH h5)) hL
theorem cW(b:Rs)(l:List Int)(c:Nat)(h1:l.length≤c):ag b l c (ah b) :=
 lD 120 [1,3] [.a,.q,.f,.q,.eQ 2 ((b:Rs).map ae.cells)] (y2 (an h1) (cM bq (b:Rs) (Eq.refl (b:Rs).length)))
end dW
namespace jA
theorem e0(of a b c d:Rs)(g:ByteArray)(i j k l m n:Rs)(p:Bool)(s:Rs)(t:Bool)(u:Rs)(v:Bool)(h1:Cp 17 [(qm bY [2,(-3),1])] (ah of))(h2:Cp 17 [(qm bY [(-1),1])] (ah a))(h3:Cp 16 [ah of,ah a] (.aY [ah b,ah c,.bD]))(h4:Cp 17 [(qm bY [2,(-3),1])] (ah d))(h5:Cp 6 [ah d] (.aY [(.str g),.bD]))(h6:Cp 17 [(qm bY [2,(-3),0,1])] (ah i))(h7:Cp 18 [ah i] (.aY [ah j,.bD]))(h8:Cp 17 [(qm bY [0,1,2])] (ah k))(h9:Cp 17 [(qm bY [1,2,5])] (ah l))(cL:Cp 19 [ah k,ah l] (.aY [ah m,.bD]))(ec:Cp 17 [(qm bY [(-2),1])] (ah n))(gp:Cp 11 [ah b,ah n] (vB p))(jz:p=true)(mG:c.length=0)(se:g=(ByteArray.mk #[49,32,120,94,50,32,43,32,45,51,32,120,32,43,32,50]))(vY:Cp 17 [(qm bY [(-2),1,1])] (ah s))(vr:Cp 11 [ah j,ah s] (vB t))(zI:t=true)(Ci:Cp 17 [(qm bY [1,0,1])] (ah u))(Lv:Cp 11 [ah m,ah u] (vB v)):Cp 5 [] (vB v) :=
 eD func5 96 [3,1,3,1,1,3,1,1,3,1,1,3,1,3,1,1,1,1,1,1,1,1,1,1,3,1,1,1,1,1,1,1,1,1,1,1,1,1,1,3,1,1,1,1,1,1,1,3,1,1,1,1,1] [.q,.aI [(.kV 0 0 (([2,(-3),1]:List Int).map bY)),(.pv (ah of)),(.kV 0 0 (([(-1),1]:List Int).map bY)),(.pv (ah a)),(.pv (.aY [ah b,ah c,.bD]))],.aI [(.kV 0 0 (([2,(-3),1]:List Int).map bY)),(.pv (ah d)),(.pv (.aY [(.str g),.bD]))],.aI [(.kV 0 0 (([2,(-3),0,1]:List Int).map bY)),(.pv (ah i)),(.pv (.aY [ah j,.bD]))],.aI [(.kV 0 0 (([0,1,2]:List Int).map bY)),(.pv (ah k)),(.kV 0 0 (([1,2,5]:List Int).map bY)),(.pv (ah l)),(.pv (.aY [ah m,.bD]))],.aI [.o,.o,.o,.o,.o,.o,.o,.o,.o,.o,.o,.o,.o,.o,.o,.o,(.kV 0 0 (([(-2),1]:List Int).map bY)),(.pv (ah n)),(.pv (vB p)),.o,.o,.o,(iI (c.length:Int)),.o,(.dec true),.o,.o,.o,(.dec true),.o,.o,(.kV 0 0 (([(-2),1,1]:List Int).map bY)),(.pv (ah s)),(.pv (vB t)),(.dec true),.o,.o,(.kV 0 0 (([1,0,1]:List Int).map bY)),(.pv (ah u)),(.pv (vB v)),(.dec true)]] (cj (ln lZ ([2,(-3),1]:List Int)) (cj h1 (cj (ln lZ ([(-1),1]:List Int)) (cj h2 (cj h3 (cj (ln lZ ([2,(-3),1]:List Int)) (cj h4 (cj h5 (cj (ln lZ ([2,(-3),0,1]:List Int)) (cj h6 (cj h7 (cj (ln lZ ([0,1,2]:List Int)) (cj h8 (MT (ln lZ ([1,2,5]:List Int)) h9 cL (Eq.refl true) (Eq.refl true) (Eq.refl true) (Eq.refl true) (Eq.refl true) (Eq.refl true) (Eq.refl true) (Eq.refl true) (ln lZ ([(-2),1]:List Int)) (Eq.refl true) ec (Eq.refl true) gp jz jz (ak ae.cells c) jz jz (aA mG) (aA mG) (aA mG) (lW se) (lW se) (ln lZ ([(-2),1,1]:List Int)) (lW se) vY (lW se) vr (lW se) zI zI (ln lZ ([1,0,1]:List Int)) zI Ci zI Lv zI))))))))))))))
end jA
namespace bT
theorem e0(x:ae)(a b:UInt32)(h1:x.num.length<2)(h2:x.den.length<2)(h3:x.num.length=0)(h4:x.den.length=0):Cp 15 [x.pv,vW a,vW b] (vB true) :=
 eD func15 72 [1,1,1,1,1,1,1,1,1,1,1,1,1,1,1,1,1,1,1,1,1,1,1,1,1,1,1,1,1,1,1,1,1,1,1,1] [.q,.aI [.o,.o,(iI (x.num.length:Int)),.o,.o,.o,.o,(iI (x.den.length:Int)),.o,(.dec true),.o,.o,.o,(iI (x.num.length:Int)),.o,.o,.skip,.skip,.skip,.skip,.skip,.skip,(.dec true),(.dec true),.o,.o,.o,(iI (x.den.length:Int)),.o,.o,.skip,.skip,.skip,.skip,.skip,.skip,(.dec true)]] (Oq (ak ab x.num) (af h1) (af h1) (af h1) (ak ab x.den) (af h1) (af h1) (af h2) (af h2) (af h2) (ak ab x.num) (af h2) (af h2) (aA h3) (aA h3) (aA h3) (aA h3) (aA h3) (aA h3) (af h2) (aA h3) (af h2) (Eq.refl true) (Eq.refl true) (Eq.refl true) (ak ab x.den) (Eq.refl true) (Eq.refl true) (aA h4) (aA h4) (aA h4) (aA h4) (aA h4) (aA h4) (Eq.refl true) (aA h4))
theorem e1(x:ae)(a b v:UInt32)(h1:x.num.length<2)(h2:x.den.length<2)(h3:x.num.length=0)(h4:x.den.length≠0)(h5:x.den[0]? = some v):Cp 15 [x.pv,vW a,vW b] (vB (decide ((v.toNat:Int)≤(b.toNat:Int)))) :=
 eD func15 72 [1,1,1,1,1,1,1,1,1,1,1,1,1,1,1,1,1,1,1,1,1,1,1,1,1,1,1,1,1,1,1,3,1,1,1,1,1] [.q,.aI [.o,.o,(iI (x.num.length:Int)),.o,.o,.o,.o,(iI (x.den.length:Int)),.o,(.dec true),.o,.o,.o,(iI (x.num.length:Int)),.o,.o,.skip,.skip,.skip,.skip,.skip,.skip,(.dec true),(.dec true),.o,.o,.o,(iI (x.den.length:Int)),.o,.o,.o,.o,(.row 0 (ab v)),.o,.o,.o,(.dec false)]] (MS (ak ab x.num) (af h1) (af h1) (af h1) (ak ab x.den) (af h1) (af h1) (af h2) (af h2) (af h2) (ak ab x.num) (af h2) (af h2) (aA h3) (aA h3) (aA h3) (aA h3) (aA h3) (aA h3) (af h2) (aA h3) (af h2) (Eq.refl true) (Eq.refl true) (Eq.refl true) (ak ab x.den) (Eq.refl true) (Eq.refl true) (av h4) (av h4) (av h4) (bd ab (Eq.refl (0:Int)) h5) (av h4) (av h4) (av h4) (Eq.refl true) (av h4))
theorem e2(x:ae)(a b v:UInt32)(h1:x.num.length<2)(h2:x.den.length<2)(h3:x.num.length≠0)(h4:x.num[0]? = some v)(h5:v.toNat≤a.toNat)(h6:x.den.length=0):Cp 15 [x.pv,vW a,vW b] (vB true) :=
 eD func15 72 [1,1,1,1,1,1,1,1,1,1,1,1,1,1,1,1,3,1,1,1,1,1,1,1,1,1,1,1,1,1,1,1,1,1,1,1,1,1] [.q,.aI [.o,.o,(iI (x.num.length:Int)),.o,.o,.o,.o,(iI (x.den.length:Int)),.o,(.dec true),.o,.o,.o,(iI (x.num.length:Int)),.o,.o,.o,.o,(.row 0 (ab v)),.o,.o,.o,(.dec false),(.dec true),.o,.o,.o,(iI (x.den.length:Int)),.o,.o,.skip,.skip,.skip,.skip,.skip,.skip,(.dec true),(.dec true)]] (Ot (ak ab x.num) (af h1) (af h1) (af h1) (ak ab x.den) (af h1) (af h1) (af h2) (af h2) (af h2) (ak ab x.num) (af h2) (af h2) (av h3) (av h3) (av h3) (bd ab (Eq.refl (0:Int)) h4) (av h3) (av h3) (av h3) (af h2) (av h3) (af h2) (bE h5) (bE h5) (bE h5) (ak ab x.den) (bE h5) (bE h5) (aA h6) (aA h6) (aA h6) (aA h6) (aA h6) (aA h6) (bE h5) (aA h6) (bE h5))
theorem e3(x:ae)(a b v v1:UInt32)(h1:x.num.length<2)(h2:x.den.length<2)(h3:x.num.length≠0)(h4:x.num[0]? = some v)(h5:v.toNat≤a.toNat)(h6:x.den.length≠0)(h7:x.den[0]? = some v1):Cp 15 [x.pv,vW a,vW b] (vB (decide ((v1.toNat:Int)≤(b.toNat:Int)))) :=
 eD func15 72 [1,1,1,1,1,1,1,1,1,1,1,1,1,1,1,1,3,1,1,1,1,1,1,1,1,1,1,1,1,1,1,1,3,1,1,1,1,1,1] [.q,.aI [.o,.o,(iI (x.num.length:Int)),.o,.o,.o,.o,(iI (x.den.length:Int)),.o,(.dec true),.o,.o,.o,(iI (x.num.length:Int)),.o,.o,.o,.o,(.row 0 (ab v)),.o,.o,.o,(.dec false),(.dec true),.o,.o,.o,(iI (x.den.length:Int)),.o,.o,.o,.o,(.row 0 (ab v1)),.o,.o,.o,(.dec false),(.dec true)]] (Ou (ak ab x.num) (af h1) (af h1) (af h1) (ak ab x.den) (af h1) (af h1) (af h2) (af h2) (af h2) (ak ab x.num) (af h2) (af h2) (av h3) (av h3) (av h3) (bd ab (Eq.refl (0:Int)) h4) (av h3) (av h3) (av h3) (af h2) (av h3) (af h2) (bE h5) (bE h5) (bE h5) (ak ab x.den) (bE h5) (bE h5) (av h6) (av h6) (av h6) (bd ab (Eq.refl (0:Int)) h7) (av h6) (av h6) (av h6) (bE h5) (av h6) (bE h5))
theorem e4(x:ae)(a b v:UInt32)(h1:x.num.length<2)(h2:x.den.length<2)(h3:x.num.length≠0)(h4:x.num[0]? = some v)(h5:a.toNat<v.toNat):Cp 15 [x.pv,vW a,vW b] (vB false) :=
 eD func15 72 [1,1,1,1,1,1,1,1,1,1,1,1,1,1,1,1,3,1,1,1,1,1,1,1,1,1,1,1,1,1] [.q,.aI [.o,.o,(iI (x.num.length:Int)),.o,.o,.o,.o,(iI (x.den.length:Int)),.o,(.dec true),.o,.o,.o,(iI (x.num.length:Int)),.o,.o,.o,.o,(.row 0 (ab v)),.o,.o,.o,(.dec false),(.dec true),.o,.skip,.skip,.skip,.skip,.skip,.skip,.skip,.skip,.skip,.skip,.skip,.skip,(.dec false)]] (Om (ak ab x.num) (af h1) (af h1) (af h1) (ak ab x.den) (af h1) (af h1) (af h2) (af h2) (af h2) (ak ab x.num) (af h2) (af h2) (av h3) (av h3) (av h3) (bd ab (Eq.refl (0:Int)) h4) (av h3) (av h3) (av h3) (af h2) (av h3) (af h2) (aP h5) (aP h5) (aP h5) (aP h5) (aP h5) (aP h5) (aP h5))
theorem e5(x:ae)(a b:UInt32)(h1:x.num.length<2)(h2:2≤x.den.length):Cp 15 [x.pv,vW a,vW b] (vB false) :=
 eD func15 72 [1,1,1,1,1,1,1,1,1,1,1,1,1,1,1,1,1,1,1,1] [.q,.aI [.o,.o,(iI (x.num.length:Int)),.o,.o,.o,.o,(iI (x.den.length:Int)),.o,(.dec true),.o,.skip,.skip,.skip,.skip,.skip,.skip,.skip,.skip,.skip,.skip,.skip,.skip,(.dec false),.o,.skip,.skip,.skip,.skip,.skip,.skip,.skip,.skip,.skip,.skip,.skip,.skip]] (Lr (ak ab x.num) (af h1) (af h1) (af h1) (ak ab x.den) (af h1) (af h1) (an h2) (an h2) (an h2) (an h2) (an h2) (an h2) (an h2) (Eq.refl false) (Eq.refl false) (Eq.refl false) (Eq.refl false) (Eq.refl false) (Eq.refl false))
theorem e6(x:ae)(a b:UInt32)(h1:2≤x.num.length):Cp 15 [x.pv,vW a,vW b] (vB false) :=
 eD func15 72 [1,1,1,1,1,1,1,1,1,1,1,1,1,1,1,1,1,1] [.q,.aI [.o,.o,(iI (x.num.length:Int)),.o,.o,.skip,.skip,.skip,.skip,(.dec false),.o,.skip,.skip,.skip,.skip,.skip,.skip,.skip,.skip,.skip,.skip,.skip,.skip,.o,.o,.skip,.skip,.skip,.skip,.skip,.skip,.skip,.skip,.skip,.skip,.skip,.skip]] (Lq (ak ab x.num) (an h1) (an h1) (an h1) (an h1) (an h1) (Eq.refl false) (Eq.refl false) (Eq.refl false) (Eq.refl false) (Eq.refl false) (Eq.refl false) (Eq.refl false) (Eq.refl false) (Eq.refl false) (Eq.refl false) (Eq.refl false) (Eq.refl false))
end bT
namespace aK
@[reducible] def fn:Func:=Tryz.f4
def bg:List dB:=focus [0,2,0,0,2,0,0] [.code (az fn)]
def inv1(l:List (List ae))(zO:Nat):St:=⟨[(7,(.pv (qm (df ae.cells) l))),(8,(eI (l.length:Int))),(9,(eI (zO:Int)))],[]⟩
@[reducible] def ag(l:List (List ae))(zO:Nat)(r:PV):Prop:=L bh fn bg (inv1 l zO) r
def jt:List dB:=focus [0,2,0,0,2,0,0,0,0,2,0,0,2,0,0,0,2,0,0,2,1,2,0,2,0,0] [.code (az fn)]
def inv2(l:List (List ae))(zO:Nat)(v:List ae)(HI:Nat):St:=⟨[(7,(.pv (qm (df ae.cells) l))),(8,(eI (l.length:Int))),(9,(eI (zO:Int))),(26,(.pv (ah v))),(27,(eI (v.length:Int))),(28,(eI (HI:Int)))],[]⟩
@[reducible] def aM(l:List (List ae))(zO:Nat)(v:List ae)(HI:Nat)(r:PV):Prop:=L bh fn jt (inv2 l zO v HI) r
theorem e0 (l : List (Rs)) {r : PV}  (hL : ag l 0 r) : Cp 4 [(qm (df ae.cells) l)] r :=
 eG func4 81 [1] [.q,.h 1 (iI (l.length:Int)),.aB [7,8,9]] (y1 (ak (df ae.cells) l)) hL
theorem l10(l:List (Rs))(b:Nat)(v:Rs)(h1:b<l.length)(h2:l[b]? = some v)(h3:9<v.length)(h4:v.length≤65):ag l b (vB false) :=
 lD 129 [1,3,1,1,1,1,1,1,1,1,1,1] [.a,.q,.t,.h 0 (.row b ((df ae.cells) v)),.aI [.o,(iI (v.length:Int)),.o,.o,.o,(iI (v.length:Int)),.o,(.dec true),.o,.skip,.skip,.skip,(.dec true)],.a,.q] (Ev (af h1) (bd (df ae.cells) (Eq.refl (((b:Nat):Int):Int)) h2) (ak ae.cells v) (af h3) (af h3) (ak ae.cells v) (af h3) (af h3) (bE h4) (bE h4) (bE h4) (bE h4))
theorem cW(l:List (Rs))(b:Nat)(v:Rs)(h1:b<l.length)(h2:l[b]? = some v)(h3:9<v.length)(h4:65<v.length)(h5:100<v.length):ag l b (vB false) :=
 lD 129 [1,3,1,1,1,1,1,1,1,1,1,1,1,1] [.a,.q,.t,.h 0 (.row b ((df ae.cells) v)),.aI [.o,(iI (v.length:Int)),.o,.o,.o,(iI (v.length:Int)),.o,(.dec true),.o,.o,(iI (v.length:Int)),.o,(.dec false)],.t,.q] (Ff (af h1) (bd (df ae.cells) (Eq.refl (((b:Nat):Int):Int)) h2) (ak ae.cells v) (af h3) (af h3) (ak ae.cells v) (af h3) (af h3) (aP h4) (aP h4) (ak ae.cells v) (aP h4) (aP h4) (af h5))
theorem mD(l:List (Rs))(b:Nat)(v:Rs){r:PV}(h1:b<l.length)(h2:l[b]? = some v)(h3:9<v.length)(h4:65<v.length)(h5:v.length≤100)(hL:aM l b v 0 r):ag l b r :=
 lG 138 [1,3,1,1,1,1,1,1,1,1,1,1,1,1,1] [.a,.q,.t,.h 0 (.row b ((df ae.cells) v)),.aI [.o,(iI (v.length:Int)),.o,.o,.o,(iI (v.length:Int)),.o,(.dec true),.o,.o,(iI (v.length:Int)),.o,(.dec false)],.f,.h 1 (iI (v.length:Int)),.aB [7,8,9,26,27,28]] (Ix (af h1) (bd (df ae.cells) (Eq.refl (((b:Nat):Int):Int)) h2) (ak ae.cells v) (af h3) (af h3) (ak ae.cells v) (af h3) (af h3) (aP h4) (aP h4) (ak ae.cells v) (aP h4) (aP h4) (an h5) (ak ae.cells v)) hL
theorem Ex(l:List (Rs))(b:Nat)(v:Rs){r:PV}(h1:b<l.length)(h2:l[b]? = some v)(h3:v.length≤9)(h4:v.length≤100)(hL:aM l b v 0 r):ag l b r :=
 lG 138 [1,3,1,1,1,1,1,1,1,1,1,1,1] [.a,.q,.t,.h 0 (.row b ((df ae.cells) v)),.aI [.o,(iI (v.length:Int)),.o,.o,.skip,.skip,.skip,(.dec false),.o,.o,(iI (v.length:Int))],.f,.h 1 (iI (v.length:Int)),.aB [7,8,9,26,27,28]] (Ew (af h1) (bd (df ae.cells) (Eq.refl (((b:Nat):Int):Int)) h2) (ak ae.cells v) (an h3) (an h3) (an h3) (an h3) (Eq.refl false) (Eq.refl false) (ak ae.cells v) (Eq.refl false) (an h4) (ak ae.cells v)) hL
theorem Iy(l:List (Rs))(b:Nat)(h1:l.length≤b):ag l b (vB true) :=
 lD 114 [1] [.a,.q,.f,.q] (y1 (an h1))
theorem tY(l:List (Rs))(b:Nat)(v:Rs)(c:Nat)(v1:ae)(d:Bool)(h1:c<v.length)(h2:v[c]? = some v1)(h3:Cp 15 [v1.pv,(vW (1000:UInt32)),(vW (1000:UInt32))] (vB d))(h4:d=false):aM l b v c (vB false) :=
 lD 183 [1,3,1,1] [.a,.q,.t,.h 0 (.row c (ae.cells v1)),.h 1 (.pv (vB d)),.t,.q] (y4 (af h1) (bd ae.cells (Eq.refl (((c:Nat):Int):Int)) h2) h3 (cF h4))
theorem sf(l:List (Rs))(b:Nat)(v:Rs)(c:Nat)(v1:ae)(d:Bool){r:PV}(h1:c<v.length)(h2:v[c]? = some v1)(h3:Cp 15 [v1.pv,(vW (1000:UInt32)),(vW (1000:UInt32))] (vB d))(h4:d=true)(h5:(c+1)<9223372036854775808)(hL:aM l b v (c+1) r):aM l b v c r :=
 lG 186 [1,3,1,1,1] [.a,.q,.t,.h 0 (.row c (ae.cells v1)),.h 1 (.pv (vB d)),.f,.h 0 (iI (((c+1):Nat):Int)),.aB [7,8,9,26,27,28],.drop [6]] (y5 (af h1) (bd ae.cells (Eq.refl (((c:Nat):Int):Int)) h2) h3 (bm h4) (aH h5)) hL
theorem BI(l:List (Rs))(b:Nat)(v:Rs)(c:Nat){r:PV}(h1:v.length≤c)(h2:(b+1)<9223372036854775808)(hL:ag l (b+1) r):aM l b v c r :=
 lG 171 [1,1] [.a,.q,.f,.h 0 (iI (((b+1):Nat):Int)),.aB [7,8,9]] (y2 (an h1) (aH h2)) hL
end aK
namespace cP
theorem e0(p:Rs)(b c:Bool)(h1:Cp 4 [(qm (df ae.cells) [p])] (vB b))(h2:b=false)(h3:Cp 5 [] (vB c)):Cp 3 [ah p] (vB c) :=
 eD func3 84 [3,1,1,1,1,1] [.q,.aI [.o,(.kV 0 0 (([p]:List (Rs)).map (df ae.cells))),(.pv (vB b)),.o,.o,.skip,.skip,(.dec true)],.a,.h 0 (.pv (vB c))] (y6 (ln (He ae.cells) ([p]:List (Rs))) h1 (cF h2) (cF h2) (cF h2) h3)
theorem e2(p:Rs)(a b:Bool)(c:ByteArray)(d:Option Int)(g:ByteArray)(i:Int)(j:Option Int)(k l:Int)(m n:Rs)(s:Bool)(t u:Int)(h1:Cp 4 [(qm (df ae.cells) [p])] (vB a))(h2:a=true)(h3:Cp 5 [] (vB b))(h4:b=true)(h5:Cp 6 [ah p] (.aY [(.str c),cX d]))(h6:Cp 7 [ah p] (.aY [(.str g),vI i]))(h7:Cp 9 [ah p] (cX j))(h8:Cp 8 [cX j] (vI k))(h9:Cp 10 [ah p] (vI l))(cL:k=l)(ec:Cp 12 [ah p] (ah m))(gp:Cp 13 [ah p] (ah n))(jz:Cp 11 [ah m,ah n] (vB s))(mG:s=true)(se:Cp 14 [ah p] (vI t))(vY:ar ((p.length:Int)-1))(vr:t=((p.length:Int)-1))(zI:Cp 8 [cX d] (vI u))(Ci:u=i):Cp 3 [ah p] (vB (decide (c=g))) :=
 eD func3 99 [3,1,1,1,1,1,1,1,1,1,1,1,1,1,1,1,1,1,1,1,1,1,1,1,1,1,1,1,1,1,1,1,1,1,1,1,1,1,1,1,1] [.q,.aI [.o,(.kV 0 0 (([p]:List (Rs)).map (df ae.cells))),(.pv (vB a)),.o,.o,(.pv (vB b)),.o,(.dec false)],.f,.h 1 (.pv (.aY [(.str c),cX d])),.h 1 (.pv (.aY [(.str g),vI i])),.aI [.o,(.pv (cX j)),(.pv (vI k)),.o,(.pv (vI l)),.o,.o,.o,(.pv (ah m)),.o,(.pv (ah n)),(.pv (vB s)),(.dec true),.o,.o,(.pv (vI t)),.o,(iI (p.length:Int)),(iI ((p.length:Int)-1)),.o,(.dec true),.o,.o,(.pv (vI u)),.o,.o,(.dec true),.o,.o,.o,.o,(.dec true)]] (cj (ln (He ae.cells) ([p]:List (Rs))) (MT h1 (bm h2) h3 (bm h2) (bm h2) (bm h4) h5 h6 h7 h8 h9 (dO cL) (dO cL) ec (dO cL) (dO cL) gp (dO cL) jz (dO cL) mG mG se mG mG (ak ae.cells p) mG (aG vY) mG mG (dO vr) (dO vr) zI (dO vr) (dO vr) (dO vr) (dO Ci) (dO Ci) (dO Ci) (dO Ci)))
end cP
end Go.Proofs.YtnjhplhbmapclaaGreatDoor.Sym.Path
end
