/- Lemmas for the statements of this seat. -/
import Derived.Test.YtneklnlpgfeplaaGreatT0
noncomputable section
namespace Go.Proofs.YtneklnlpgfeplaaGreat.Sym.Path
open Go Tryz
set_option maxRecDepth 20000
set_option linter.unusedVariables false
namespace Fk
theorem e0(x a:aq)(b:Rs)(h1:Cp 58 [x.pv,(⟨false,[],[]⟩:aq).pv] a.pv)(h2:Cp 122 [(ae [a])] (ae b)):Cp 81 [x.pv] (ae b) :=
 eD func81 [1,3] [.q,.bx [.o,.o,(.pv a.pv),(.fM 0 0 (([a]:Rs).map aq.cells)),(.pv (ae b))]] (y3 h1 (gA bN ([a]:Rs)) h2)
end Fk
namespace kY
@[reducible] def fn:Func:=Tryz.f86
def bM:List eh:=focus [0,2,0,0,2,1,2,0,0,2,0,0] [.code (aS fn)]
def inv1(t:aU)(kM:Nat):St:=⟨[(1,(.ptr 1 0)),(13,(.pv (an (dF aq.cells) t.roots))),(14,(eI (t.roots.length:Int))),(15,(eI (kM:Int)))],[(1,(.lit [(.pv (an (dF aq.cells) t.roots))]))]⟩
@[reducible] def ay(t:aU)(kM:Nat)(r:PV):Prop:=L aV fn bM (inv1 t kM) r
theorem e1(t:aU){r:PV}(h1:t.roots.length≤5)(hL:ay t 0 r):Cp 86 [t.pv] r :=
 eG func86 [] [.q,.h 2 (iL t.roots),.f,.h 2 (iL t.roots),.aW [1,13,14,15]] (y3 (aH lR t.roots) (aL h1) (aH lR t.roots)) hL
theorem im(t:aU)(b:Nat)(v:Rs)(c:Int){r:PV}(h1:b<t.roots.length)(h2:t.roots[b]? = some v)(h3:b≤64)(h4:(1*2^b)<9223372036854775808)(h5:v.length=(1*2^b))(h6:b≤t.roots.length)(h7:Cp 126 [(⟨(t.roots.take b)⟩:aU).pv,ae v] .ar)(h8:Cp 127 [(⟨(t.roots.take b)⟩:aU).pv,ae v] (vI c))(h9:0≤c)(cE:(b+1)<9223372036854775808)(hL:ay t (b+1) r):ay t b r :=
 lG [1,3,1,1,1,6] [.a,.q,.t,.h 1 (.row b (lR v)),.bx [.o,(iL v),.o,(iI (((1*2^b):Nat):Int))],.f,.h 3 (.fM 0 b (((t.roots.take b):List (Rs)).map lR)),.h 2 (.pv .ar),.q,.a,.h 2 (.pv (vI c)),.f,.h 0 (iI (((b+1):Nat):Int)),.aW [1,13,14,15],.drop [5]] (F4 (aG h1) (bG lR (rN b) h2) (aH aq.cells v) (gz (k := .i64) h3 h4) (bH h5) (jH (pF aq.cells) (t.roots:List (Rs)) (rN b) h6) h7 h8 (ah h9) (bj cE)) hL
theorem G5(t:aU)(b:Nat)(h1:t.roots.length≤b):ay t b .ar :=
 lD [] [.a,.q,.f,.q] (y1 (aL h1))
end kY
namespace gE
@[reducible] def fn:Func:=Tryz.f122
def bM:List eh:=focus [0,2,0,0,2,0,2,1,2,0,2,0,0,0] [.code (aS fn)]
def inv1(a:List aq)(Wp:Nat):St:=⟨[(0,(.pv (ae a))),(4,(eI (Wp:Int)))],[]⟩
@[reducible] def ay(a:List aq)(Wp:Nat)(r:PV):Prop:=L aV fn bM (inv1 a Wp) r
theorem e2(a:Rs)(b:Int){r:PV}(h1:Cp 179 [ae a] (vI b))(h2:0<a.length)(h3:0≤b)(h4:b≤5)(hL:ay a a.length r):Cp 122 [ae a] r :=
 eG func122 [] [.q,.h 1 (.pv (vI b)),.bx [.o,(iL a),.o,.o,.o,.o,.o,.o,.o,(.dec false),(.dec true)],.f,.h 1 (iL a),.aW [0,4]] (H8 h1 (aH aq.cells a) (aG h2) (aG h2) (aG h2) (ah h3) (ah h3) (aG h2) (ah h3) (aG h2) (ah h4) (aH aq.cells a)) hL
theorem e3(a:Rs)(b:Int){r:PV}(h1:Cp 179 [ae a] (vI b))(h2:a.length≤0)(hL:ay a a.length r):Cp 122 [ae a] r :=
 eG func122 [] [.q,.h 1 (.pv (vI b)),.bx [.o,(iL a),.o,.o,.skip,.skip,.skip,.skip,.skip,.skip,(.dec false)],.a,.h 1 (iL a),.aW [0,4]] (y8 h1 (aH aq.cells a) (aL h2) (aL h2) (aL h2) (aL h2) (aL h2) (aH aq.cells a)) hL
theorem eu(a:Rs)(b:Nat)(c:Bool){r:PV}(h1:1<b)(h2:b<9223372036854775808)(h3:b≤a.length)(h4:(b/2)≤b)(h5:Cp 181 [(ae ((a.take b).drop (b/2)))] (vB c))(h6:c=true)(hL:ay a (b/2) r):ay a b r :=
 lG [1,1,1,1,1,1,6] [.a,.bx [.o,.o,.o,.o,.o,(iI (((b/2):Nat):Int)),.o,(.fM (b/2) b ((((a.take b).drop (b/2)):Rs).map aq.cells)),(.pv (vB c)),(.dec true)],.t,.h 1 (iI (((b/2):Nat):Int)),.aW [0,4]] (H8 (aG h1) (aG h1) (aG h1) (kD (y:=2) (by decide) h2) (aG h1) (aG h1) (SF bN (a:Rs) (rN (b/2)) (rN b) h4 h3) (aG h1) h5 (aG h1) h6 (kD (y:=2) (by decide) h2)) hL
theorem ym(a:Rs)(b:Nat)(c:Bool)(d:Rs)(h1:1<b)(h2:b<9223372036854775808)(h3:b≤a.length)(h4:(b/2)≤b)(h5:Cp 181 [(ae ((a.take b).drop (b/2)))] (vB c))(h6:c=false)(h7:b≠1)(h8:Cp 180 [(ae (a.take b))] (ae d)):ay a b (ae d) :=
 lD [1,1,1,1,1,1,6,1,1,1,1,1,1,1,1,6] [.a,.bx [.o,.o,.o,.o,.o,(iI (((b/2):Nat):Int)),.o,(.fM (b/2) b ((((a.take b).drop (b/2)):Rs).map aq.cells)),(.pv (vB c)),(.dec true)],.f,.bx [.o,.o,.o,.skip,.skip,.skip,(.dec false)],.a,.bx [.o,.o,(.fM 0 b (((a.take b):Rs).map aq.cells)),(.pv (ae d))]] (Nk (aG h1) (aG h1) (aG h1) (kD (y:=2) (by decide) h2) (aG h1) (aG h1) (SF bN (a:Rs) (rN (b/2)) (rN b) h4 h3) (aG h1) h5 (aG h1) h6 (aZ h7) (aZ h7) (aZ h7) (aZ h7) (jH bN (a:Rs) (rN b) h3) h8)
theorem G5(a:Rs)(b:Nat)(c:Bool)(h1:b≤1)(h2:b=1)(h3:1≤a.length)(h4:Cp 181 [(ae (a.take 1))] (vB c))(h5:c=true):ay a b (ae []) :=
 lD [1,1,1,1,1,1,1,1,1,6] [.a,.bx [.o,.o,.o,.skip,.skip,.skip,.skip,.skip,.skip,(.dec false)],.a,.bx [.o,.o,.o,.o,(.fM 0 1 (((a.take 1):Rs).map aq.cells)),(.pv (vB c)),(.dec true)],.t,.q] (PW (aL h1) (aL h1) (aL h1) (aL h1) (aL h1) (aL h1) (aL h1) (bL h2) (bL h2) (jH bN (a:Rs) (Eq.refl (1:Int)) h3) (bL h2) h4 (bL h2) h5)
theorem Mv(a:Rs)(b:Nat)(c:Bool)(d:Rs)(h1:b≤1)(h2:b=1)(h3:1≤a.length)(h4:Cp 181 [(ae (a.take 1))] (vB c))(h5:c=false)(h6:b≤a.length)(h7:Cp 180 [(ae (a.take b))] (ae d)):ay a b (ae d) :=
 lD [1,1,1,1,1,1,1,1,1,6,1,1,1,1,6] [.a,.bx [.o,.o,.o,.skip,.skip,.skip,.skip,.skip,.skip,(.dec false)],.a,.bx [.o,.o,.o,.o,(.fM 0 1 (((a.take 1):Rs).map aq.cells)),(.pv (vB c)),(.dec true)],.f,.bx [.o,.o,(.fM 0 b (((a.take b):Rs).map aq.cells)),(.pv (ae d))]] (Nj (aL h1) (aL h1) (aL h1) (aL h1) (aL h1) (aL h1) (aL h1) (bL h2) (bL h2) (jH bN (a:Rs) (Eq.refl (1:Int)) h3) (bL h2) h4 (bL h2) h5 (jH bN (a:Rs) (rN b) h6) h7)
theorem SN(a:Rs)(b:Nat)(c:Rs)(h1:b≤1)(h2:b≠1)(h3:b≤a.length)(h4:Cp 180 [(ae (a.take b))] (ae c)):ay a b (ae c) :=
 lD [1,1,1,1,1,1,1,1,1,1,1,6] [.a,.bx [.o,.o,.o,.skip,.skip,.skip,.skip,.skip,.skip,(.dec false)],.a,.bx [.o,.o,.o,.skip,.skip,.skip,(.dec false)],.a,.bx [.o,.o,(.fM 0 b (((a.take b):Rs).map aq.cells)),(.pv (ae c))]] (F5 (aL h1) (aL h1) (aL h1) (aL h1) (aL h1) (aL h1) (aL h1) (aZ h2) (aZ h2) (aZ h2) (aZ h2) (jH bN (a:Rs) (rN b) h3) h4)
end gE
namespace j8
@[reducible] def fn:Func:=Tryz.f126
def bM:List eh:=focus [0,2,0,0,2,0,0,2,0,2,1,2,0,0,2,0,0] [.code (aS fn)]
def inv1(a:List aq)(G6:Nat):St:=⟨[(23,(.pv (ae a))),(24,(eI (a.length:Int))),(25,(eI (G6:Int)))],[]⟩
@[reducible] def ay(a:List aq)(G6:Nat)(r:PV):Prop:=L aV fn bM (inv1 a G6) r
theorem e2(t:aU)(a:Rs)(b:Int){r:PV}(h1:0<a.length)(h2:Cp 179 [ae a] (vI b))(h3:0≤b)(h4:b≤(t.roots.length:Int))(hL:ay a 0 r):Cp 126 [t.pv,ae a] r :=
 eG func126 [] [.q,.h 1 (iL a),.t,.h 1 (.pv (vI b)),.bx [.o,.o,.o,.o,.o,.o,(iL t.roots),.o,(.dec false)],.f,.h 1 (iL a),.aW [23,24,25],.drop [2]] (H8 (aH aq.cells a) (aG h1) h2 (ah h3) (ah h3) (ah h3) (ah h3) (aH lR t.roots) (ah h3) (ah h3) (ah h4) (aH aq.cells a)) hL
theorem e3(t:aU)(a:Rs){r:PV}(h1:a.length≤0)(hL:ay a 0 r):Cp 126 [t.pv,ae a] r :=
 eG func126 [] [.q,.h 1 (iL a),.f,.h 1 (iL a),.aW [23,24,25],.drop [2]] (y3 (aH aq.cells a) (aL h1) (aH aq.cells a)) hL
theorem dp(a:Rs)(b:Nat)(v:aq)(c:Bool){r:PV}(h1:b<a.length)(h2:a[b]? = some v)(h3:Cp 30 [v.pv] (vB c))(h4:c=true)(h5:(b+1)<9223372036854775808)(hL:ay a (b+1) r):ay a b r :=
 lG [1,3] [.a,.q,.t,.h 0 (.row b (aq.cells v)),.h 1 (.pv (vB c)),.f,.h 0 (iI (((b+1):Nat):Int)),.aW [23,24,25],.drop [7]] (y5 (aG h1) (bG aq.cells (rN b) h2) h3 (av h4) (bj h5)) hL
theorem im(a:Rs)(b:Nat)(h1:a.length≤b):ay a b .ar :=
 lD [] [.a,.q,.f,.q] (y1 (aL h1))
end j8
namespace iD
theorem e0(t:aU)(a b:Rs)(h1:Cp 122 [ae a] (ae b))(h2:b.length=0):Cp 127 [t.pv,ae a] (vI 0) :=
 eD func127 [] [.q,.h 1 (.pv (ae b)),.h 1 (iL b),.t,.q] (y3 h1 (aH aq.cells b) (bL h2))
theorem e1(t:aU)(a b:Rs)(v:aq)(c:Int)(h1:Cp 122 [ae a] (ae b))(h2:b.length≠0)(h3:b.length=1)(h4:b[0]? = some v)(h5:Cp 14 [v.pv] (vI c)):Cp 127 [t.pv,ae a] (vI c) :=
 eD func127 [1,1,1,1,1,3] [.q,.h 1 (.pv (ae b)),.h 1 (iL b),.f,.h 1 (iL b),.t,.bx [.o,(.row 0 (aq.cells v)),.o,(.pv (vI c))]] (y7 h1 (aH aq.cells b) (aZ h2) (aH aq.cells b) (bL h3) (bG aq.cells (Eq.refl (0:Int)) h4) h5)
theorem e3(t:aU)(a b:Rs)(c d g:Int)(k:Nat)(v:Rs)(i:Int)(h1:Cp 122 [ae a] (ae b))(h2:b.length≠0)(h3:b.length≠1)(h4:b.length<9223372036854775808)(h5:(b.length/2)≤b.length)(h6:Cp 127 [t.pv,(ae (b.take (b.length/2)))] (vI c))(h7:(b.length/2)≤(b:Rs).length)(h8:Cp 127 [t.pv,(ae (b.drop (b.length/2)))] (vI d))(h9:Cp 179 [ae b] (vI g))(cE:bf (g-1))(dC:(g-1)=(k:Int))(dI:t.roots[k]? = some v)(ep:Cp 127 [t.pv,ae v] (vI i))(jq:i≠0)(ky:c=d):Cp 127 [t.pv,ae a] (vI c) :=
 eD func127 [1,1,1,1,1,1,1,6,1,6,1,1,1,3] [.q,.h 1 (.pv (ae b)),.h 1 (iL b),.f,.h 1 (iL b),.f,.bx [.o,(iL b),(iI (((b.length/2):Nat):Int))],dr 10 2 [.none,.none,.none,(.fM 0 (b.length/2) (((b.take (b.length/2)):Rs).map aq.cells)),(.pv (vI c)),.none,.none,.none,(.fM (b.length/2) ((b:Rs).length) (((b.drop (b.length/2)):Rs).map aq.cells)),(.pv (vI d))],dr 10 0 [.none,.none,.none,.none,(.pv (vI g)),(iI (g-1)),(.row k (lR v)),.none,(.pv (vI i))],.f,.bx [.o,.o,.o,.o,.skip,.skip,(.dec true)],.a,.q] (Rx h1 (aH aq.cells b) (aZ h2) (aH aq.cells b) (aZ h3) (aH aq.cells b) (kD (y:=2) (by decide) h4) (jH bN (b:Rs) (rN (b.length/2)) h5) h6 (uQ bN (b:Rs) (rN (b.length/2)) h7) h8 h9 (b9 cE) (bG lR dC dI) ep (dc jq) (dG ky) (dG ky) (dG ky))
theorem e4(t:aU)(a b:Rs)(c d g:Int)(k:Nat)(v:Rs)(i:Int)(h1:Cp 122 [ae a] (ae b))(h2:b.length≠0)(h3:b.length≠1)(h4:b.length<9223372036854775808)(h5:(b.length/2)≤b.length)(h6:Cp 127 [t.pv,(ae (b.take (b.length/2)))] (vI c))(h7:(b.length/2)≤(b:Rs).length)(h8:Cp 127 [t.pv,(ae (b.drop (b.length/2)))] (vI d))(h9:Cp 179 [ae b] (vI g))(cE:bf (g-1))(dC:(g-1)=(k:Int))(dI:t.roots[k]? = some v)(ep:Cp 127 [t.pv,ae v] (vI i))(jq:i≠0)(ky:c≠d)(mo:d=0):Cp 127 [t.pv,ae a] (vI c) :=
 eD func127 [1,1,1,1,1,1,1,6,1,6,1,1,1,3] [.q,.h 1 (.pv (ae b)),.h 1 (iL b),.f,.h 1 (iL b),.f,.bx [.o,(iL b),(iI (((b.length/2):Nat):Int))],dr 10 2 [.none,.none,.none,(.fM 0 (b.length/2) (((b.take (b.length/2)):Rs).map aq.cells)),(.pv (vI c)),.none,.none,.none,(.fM (b.length/2) ((b:Rs).length) (((b.drop (b.length/2)):Rs).map aq.cells)),(.pv (vI d))],dr 10 0 [.none,.none,.none,.none,(.pv (vI g)),(iI (g-1)),(.row k (lR v)),.none,(.pv (vI i))],.f,.h 6 (.dec false),.t,.q] (Ry h1 (aH aq.cells b) (aZ h2) (aH aq.cells b) (aZ h3) (aH aq.cells b) (kD (y:=2) (by decide) h4) (jH bN (b:Rs) (rN (b.length/2)) h5) h6 (uQ bN (b:Rs) (rN (b.length/2)) h7) h8 h9 (b9 cE) (bG lR dC dI) ep (dc jq) (dc ky) (dc ky) (dc ky) (dG mo))
theorem e5(t:aU)(a b:Rs)(c d g:Int)(k:Nat)(v:Rs)(i:Int)(h1:Cp 122 [ae a] (ae b))(h2:b.length≠0)(h3:b.length≠1)(h4:b.length<9223372036854775808)(h5:(b.length/2)≤b.length)(h6:Cp 127 [t.pv,(ae (b.take (b.length/2)))] (vI c))(h7:(b.length/2)≤(b:Rs).length)(h8:Cp 127 [t.pv,(ae (b.drop (b.length/2)))] (vI d))(h9:Cp 179 [ae b] (vI g))(cE:bf (g-1))(dC:(g-1)=(k:Int))(dI:t.roots[k]? = some v)(ep:Cp 127 [t.pv,ae v] (vI i))(jq:i≠0)(ky:c≠d)(mo:d≠0)(ie:c=0):Cp 127 [t.pv,ae a] (vI d) :=
 eD func127 [1,1,1,1,1,1,1,6,1,6,1,1,1,3] [.q,.h 1 (.pv (ae b)),.h 1 (iL b),.f,.h 1 (iL b),.f,.bx [.o,(iL b),(iI (((b.length/2):Nat):Int))],dr 10 2 [.none,.none,.none,(.fM 0 (b.length/2) (((b.take (b.length/2)):Rs).map aq.cells)),(.pv (vI c)),.none,.none,.none,(.fM (b.length/2) ((b:Rs).length) (((b.drop (b.length/2)):Rs).map aq.cells)),(.pv (vI d))],dr 10 0 [.none,.none,.none,.none,(.pv (vI g)),(iI (g-1)),(.row k (lR v)),.none,(.pv (vI i))],.f,.h 6 (.dec false),.f,.q,.t,.q] (UB h1 (aH aq.cells b) (aZ h2) (aH aq.cells b) (aZ h3) (aH aq.cells b) (kD (y:=2) (by decide) h4) (jH bN (b:Rs) (rN (b.length/2)) h5) h6 (uQ bN (b:Rs) (rN (b.length/2)) h7) h8 h9 (b9 cE) (bG lR dC dI) ep (dc jq) (dc ky) (dc ky) (dc ky) (dc mo) (dG ie))
theorem e6(t:aU)(a b:Rs)(c d g:Int)(k:Nat)(v:Rs)(i:Int)(j:Rs)(l:Int)(h1:Cp 122 [ae a] (ae b))(h2:b.length≠0)(h3:b.length≠1)(h4:b.length<9223372036854775808)(h5:(b.length/2)≤b.length)(h6:Cp 127 [t.pv,(ae (b.take (b.length/2)))] (vI c))(h7:(b.length/2)≤(b:Rs).length)(h8:Cp 127 [t.pv,(ae (b.drop (b.length/2)))] (vI d))(h9:Cp 179 [ae b] (vI g))(cE:bf (g-1))(dC:(g-1)=(k:Int))(dI:t.roots[k]? = some v)(ep:Cp 127 [t.pv,ae v] (vI i))(jq:i≠0)(ky:c≠d)(mo:d≠0)(ie:c≠0)(oS:Cp 184 [t.pv,ae b] (ae j))(A1:Cp 127 [t.pv,ae j] (vI l))(sF:bf (c*l)):Cp 127 [t.pv,ae a] (vI (c*l)) :=
 eD func127 [1,1,1,1,1,1,1,6,1,6,1,1,1,3] [.q,.h 1 (.pv (ae b)),.h 1 (iL b),.f,.h 1 (iL b),.f,.bx [.o,(iL b),(iI (((b.length/2):Nat):Int))],dr 10 2 [.none,.none,.none,(.fM 0 (b.length/2) (((b.take (b.length/2)):Rs).map aq.cells)),(.pv (vI c)),.none,.none,.none,(.fM (b.length/2) ((b:Rs).length) (((b.drop (b.length/2)):Rs).map aq.cells)),(.pv (vI d))],dr 10 0 [.none,.none,.none,.none,(.pv (vI g)),(iI (g-1)),(.row k (lR v)),.none,(.pv (vI i))],.f,.h 6 (.dec false),.f,.q,.f,dr 7 1 [.none,.none,.none,.none,(.pv (ae j)),(.pv (vI l)),(iI (c*l))]] (SJ h1 (aH aq.cells b) (aZ h2) (aH aq.cells b) (aZ h3) (aH aq.cells b) (kD (y:=2) (by decide) h4) (jH bN (b:Rs) (rN (b.length/2)) h5) h6 (uQ bN (b:Rs) (rN (b.length/2)) h7) h8 h9 (b9 cE) (bG lR dC dI) ep (dc jq) (dc ky) (dc ky) (dc ky) (dc mo) (dc ie) oS A1 (KM sF))
end iD
namespace yq
theorem e0(t:aU)(a:Rs)(h1:Cp 185 [t.pv,(an lR [a])] .ar):Cp 128 [t.pv,ae a] (vB true) :=
 eD func128 [3] [.q,.bx [.o,.o,(.fM 0 0 (([a]:List (Rs)).map lR)),(.pv .ar)]] (y2 (gA (pF aq.cells) ([a]:List (Rs))) h1)
end yq
namespace CO
theorem e0(t:aU)(a b c:Rs)(h1:Cp 185 [t.pv,(an lR [a])] .ar)(h2:Cp 204 [ae a] (ae b))(h3:Cp 122 [ae b] (ae c)):Cp 156 [t.pv,ae a] (.bg [ae c,.ar]) :=
 eD func156 [3] [.q,.bx [.o,.o,(.fM 0 0 (([a]:List (Rs)).map lR)),(.pv .ar)],.q,.a,.bx [.o,(.pv (ae b)),(.pv (ae c))]] (y4 (gA (pF aq.cells) ([a]:List (Rs))) h1 h2 h3)
end CO
namespace jN
@[reducible] def fn:Func:=Tryz.f179
def bM:List eh:=focus [0,2,0,2,0,0,0] [.code (aS fn)]
def inv1(a:List aq)(Wq:Nat):St:=⟨[(0,(.pv (ae a))),(3,(eI (Wq:Int)))],[]⟩
@[reducible] def ay(a:List aq)(Wq:Nat)(r:PV):Prop:=L aV fn bM (inv1 a Wq) r
theorem e0 (a : Rs) {r : PV}  (hL : ay a 0 r) : Cp 179 [ae a] r :=
 eG func179 [] [.q,.q,.aW [0,3]] True.intro hL
theorem eu(a:Rs)(b:Nat){r:PV}(h1:b≤64)(h2:(1*2^b)<9223372036854775808)(h3:(1*2^b)<a.length)(h4:(b+1)<9223372036854775808)(hL:ay a (b+1) r):ay a b r :=
 lG [] [.a,.bx [.o,(iI (((1*2^b):Nat):Int)),.o,(iL a)],.t,.h 1 (iI (((b+1):Nat):Int)),.aW [0,3]] (y4 (gz (k := .i64) h1 h2) (aH aq.cells a) (aG h3) (bj h4)) hL
theorem dp(a:Rs)(b:Nat)(h1:b≤64)(h2:(1*2^b)<9223372036854775808)(h3:a.length≤(1*2^b))(h4:(1*2^b)≠a.length):ay a b (vI (-1)) :=
 lD [] [.a,.bx [.o,(iI (((1*2^b):Nat):Int)),.o,(iL a)],.f,.bx [.o,(iI (((1*2^b):Nat):Int)),.o,(iL a)],.t,.q] (y6 (gz (k := .i64) h1 h2) (aH aq.cells a) (aL h3) (gz (k := .i64) h1 h2) (aH aq.cells a) (mL h4))
theorem im(a:Rs)(b:Nat)(h1:b≤64)(h2:(1*2^b)<9223372036854775808)(h3:a.length≤(1*2^b))(h4:(1*2^b)=a.length):ay a b (vI (b:Int)) :=
 lD [] [.a,.bx [.o,(iI (((1*2^b):Nat):Int)),.o,(iL a)],.f,.bx [.o,(iI (((1*2^b):Nat):Int)),.o,(iL a)],.f,.q] (y6 (gz (k := .i64) h1 h2) (aH aq.cells a) (aL h3) (gz (k := .i64) h1 h2) (aH aq.cells a) (bH h4))
end jN
namespace l7
@[reducible] def fn:Func:=Tryz.f180
def bM:List eh:=focus [0,2,0,2,0,0,2,0,0] [.code (aS fn)]
def inv1(dk a:List aq)(qp:Nat):St:=⟨[(3,(.row 25 0 dk.length 3)),(6,(.pv (ae a))),(7,(eI (a.length:Int))),(8,(eI (qp:Int)))],[(25,(.pure ((dk:List aq).map aq.cells).flatten))]⟩
@[reducible] def ay(dk a:List aq)(qp:Nat)(r:PV):Prop:=L aV fn bM (inv1 dk a qp) r
theorem e0 (a : Rs) {r : PV}  (hL : ay [] a 0 r) : Cp 180 [ae a] r :=
 eG func180 [] [.q,.h 0 .nil,.r9 3 25 3,.h 1 (iL a),.aW [3,6,7,8]] (y1 (aH aq.cells a)) hL
theorem G7(dk a:List aq)(qp:Nat)(v:aq):pD aV ql fn [0,2,0,2,0,0,2,0,0,0,0,2,0,0,2,0,0,0,2] [0,1,4,8] [.none,.none,.none,.none,.none,.none,(.fM (v.num:List UInt32).length 0 ((v.num:List UInt32).map aE)),.none,.none,.none,(.fM (v.den:List UInt32).length 0 ((v.den:List UInt32).map aE)),.none,.none,(.app ((dk++[v]):List aq).length (((dk++[v]):List aq).map aq.cells).flatten),.none] ⟨[(3,(.row 25 0 dk.length 3)),(5,(.ptr 5 0)),(6,(.pv (ae a))),(7,(eI (a.length:Int))),(8,(eI (qp:Int)))],[(5,(.lit [(eB v.neg),(.pv (af v.num)),(.pv (af v.den))])),(25,(pC aq.cells dk))]⟩ 0 40:=by unfold pD;kernel_rfl
theorem Fm(dk a:List aq)(qp:Nat)(v:aq):pD aV ql fn [0,2,0,2,0,0,2,0,0,0,0,2,0,0,2,0,0,0,2] [0,1,4,8] [.none,.none,.none,.none,.none,.none,(.fM (v.num:List UInt32).length 0 ((v.num:List UInt32).map aE)),.none,.none,.none,(.fM (v.den:List UInt32).length 0 ((v.den:List UInt32).map aE)),.none,.none,(.app ((dk++[v]):List aq).length (((dk++[v]):List aq).map aq.cells).flatten),.none] ⟨[(3,(.row 25 0 dk.length 3)),(5,(.ptr 5 0)),(6,(.pv (ae a))),(7,(eI (a.length:Int))),(8,(eI (qp:Int)))],[(5,(.lit [(eB v.neg),(.pv (af v.num)),(.pv (af v.den))])),(25,(pC aq.cells dk))]⟩ 40 40:=by unfold pD;kernel_rfl
theorem Fo(dk a:List aq)(qp:Nat)(v:aq):pD aV ql fn [0,2,0,2,0,0,2,0,0,0,0,2,0,0,2,0,0,0,2] [0,1,4,8] [.none,.none,.none,.none,.none,.none,(.fM (v.num:List UInt32).length 0 ((v.num:List UInt32).map aE)),.none,.none,.none,(.fM (v.den:List UInt32).length 0 ((v.den:List UInt32).map aE)),.none,.none,(.app ((dk++[v]):List aq).length (((dk++[v]):List aq).map aq.cells).flatten),.none] ⟨[(3,(.row 25 0 dk.length 3)),(5,(.ptr 5 0)),(6,(.pv (ae a))),(7,(eI (a.length:Int))),(8,(eI (qp:Int)))],[(5,(.lit [(eB v.neg),(.pv (af v.num)),(.pv (af v.den))])),(25,(pC aq.cells dk))]⟩ 80 40:=by unfold pD;kernel_rfl
theorem KY(dk a:List aq)(qp:Nat)(v:aq):xG aV ql fn [0,2,0,2,0,0,2,0,0,0,0,2,0,0,2,0,0,0,2] [0,1,4,8] [.none,.none,.none,.none,.none,.none,(.fM (v.num:List UInt32).length 0 ((v.num:List UInt32).map aE)),.none,.none,.none,(.fM (v.den:List UInt32).length 0 ((v.den:List UInt32).map aE)),.none,.none,(.app ((dk++[v]):List aq).length (((dk++[v]):List aq).map aq.cells).flatten),.none] ⟨[(3,(.row 25 0 dk.length 3)),(5,(.ptr 5 0)),(6,(.pv (ae a))),(7,(eI (a.length:Int))),(8,(eI (qp:Int)))],[(5,(.lit [(eB v.neg),(.pv (af v.num)),(.pv (af v.den))])),(25,(pC aq.cells dk))]⟩:=H6 (jb (k:=0) (m:=40) (G7 dk a qp v) (jb (k:=40) (m:=40) (Fm dk a qp v) (jb (k:=80) (m:=40) (Fo dk a qp v) (show Fc aV ql fn [0,2,0,2,0,0,2,0,0,0,0,2,0,0,2,0,0,0,2] [0,1,4,8] [.none,.none,.none,.none,.none,.none,(.fM (v.num:List UInt32).length 0 ((v.num:List UInt32).map aE)),.none,.none,.none,(.fM (v.den:List UInt32).length 0 ((v.den:List UInt32).map aE)),.none,.none,(.app ((dk++[v]):List aq).length (((dk++[v]):List aq).map aq.cells).flatten),.none] ⟨[(3,(.row 25 0 dk.length 3)),(5,(.ptr 5 0)),(6,(.pv (ae a))),(7,(eI (a.length:Int))),(8,(eI (qp:Int)))],[(5,(.lit [(eB v.neg),(.pv (af v.num)),(.pv (af v.den))])),(25,(pC aq.cells dk))]⟩ 120 from by unfold Fc;kernel_rfl))))
theorem eu(b a:Rs)(c:Nat)(v:aq){r:PV}(h1:c<a.length)(h2:a[c]? = some v)(h3:(([]:Ws)++v.num:Ws).length*4≤140737488355328)(h4:(([]:Ws)++v.den:Ws).length*4≤140737488355328)(h5:((b++[v]):Rs).length*56≤140737488355328)(h6:(c+1)<9223372036854775808)(hL:ay (b++[v]) a (c+1) r):ay b a c r :=
 lG [1,3,6,3,6,3,6] [.a,.q,.t,.h 0 (.row c (aq.cells v)),.aW [3,5,6,7,8],.any [0,1,4,8] [.none,.none,.none,.none,.none,.none,(.fM (v.num:Ws).length 0 ((v.num:Ws).map aE)),.none,.none,.none,(.fM (v.den:Ws).length 0 ((v.den:Ws).map aE)),.none,.none,(.app ((b++[v]):Rs).length (((b++[v]):Rs).map aq.cells).flatten),.none],.h 0 (iI (((c+1):Nat):Int)),.aW [3,6,7,8],.drop [24,5]] (y9 (aG h1) (bG aq.cells (rN c) h2) (tp bJ ([]:Ws) (v.num:Ws) 4 (Eq.refl ([]:Ws).length) h3 rfl) (dJ bJ (v.num:Ws) (Eq.refl (v.num:Ws).length)) (tp bJ ([]:Ws) (v.den:Ws) 4 (Eq.refl ([]:Ws).length) h4 rfl) (dJ bJ (v.den:Ws) (Eq.refl (v.den:Ws).length)) (ix bN (b:Rs) ([v]:Rs) 56 (Eq.refl (b:Rs).length) (Eq.refl ([v]:Rs).length) h5 rfl) (KY b a c v) (bj h6)) hL
theorem dp(b a:Rs)(c:Nat)(h1:a.length≤c):ay b a c (ae b) :=
 lD [1,3] [.a,.q,.f,.q,.jz 2 ((b:Rs).map aq.cells)] (y2 (aL h1) (dJ bN (b:Rs) (Eq.refl (b:Rs).length)))
end l7
namespace iq
@[reducible] def fn:Func:=Tryz.f181
def bM:List eh:=focus [0,2,0,0,2,0,0] [.code (aS fn)]
def inv1(a:List aq)(P9:Nat):St:=⟨[(5,(.pv (ae a))),(6,(eI (a.length:Int))),(7,(eI (P9:Int)))],[]⟩
@[reducible] def ay(a:List aq)(P9:Nat)(r:PV):Prop:=L aV fn bM (inv1 a P9) r
theorem e0 (a : Rs) {r : PV}  (hL : ay a 0 r) : Cp 181 [ae a] r :=
 eG func181 [] [.q,.h 1 (iL a),.aW [5,6,7]] (y1 (aH aq.cells a)) hL
theorem eu(a:Rs)(b:Nat)(v:aq)(h1:b<a.length)(h2:a[b]? = some v)(h3:v.neg=true):ay a b (vB false) :=
 lD [1,3] [.a,.q,.t,.h 0 (.row b (aq.cells v)),.bx [.o,.o,.o,.skip,.skip,.skip,.skip,(.dec true),.o,.skip,.skip,.skip,.skip],.a,.q] (H7 (aG h1) (bG aq.cells (rN b) h2) h3 h3 h3 h3 h3 rT rT rT rT)
theorem dp(a:Rs)(b:Nat)(v:aq)(h1:b<a.length)(h2:a[b]? = some v)(h3:v.neg=false)(h4:0<v.num.length):ay a b (vB false) :=
 lD [1,3] [.a,.q,.t,.h 0 (.row b (aq.cells v)),.bx [.o,.o,.o,.o,.o,(iL v.num),.o,(.dec false),.o,.skip,.skip,.skip,.skip,(.dec true)],.a,.q] (F5 (aG h1) (bG aq.cells (rN b) h2) h3 h3 h3 (aH aE v.num) h3 h3 (aG h4) (aG h4) (aG h4) (aG h4) (aG h4))
theorem im(a:Rs)(b:Nat)(v:aq)(h1:b<a.length)(h2:a[b]? = some v)(h3:v.neg=false)(h4:v.num.length≤0)(h5:0<v.den.length):ay a b (vB false) :=
 lD [1,3] [.a,.q,.t,.h 0 (.row b (aq.cells v)),.bx [.o,.o,.o,.o,.o,(iL v.num),.o,(.dec false),.o,.o,.o,(iL v.den),.o,(.dec false)],.t,.q] (Rw (aG h1) (bG aq.cells (rN b) h2) h3 h3 h3 (aH aE v.num) h3 h3 (aL h4) (aL h4) (aL h4) (aH aE v.den) (aL h4) (aL h4) (aG h5))
theorem ym(a:Rs)(b:Nat)(v:aq){r:PV}(h1:b<a.length)(h2:a[b]? = some v)(h3:v.neg=false)(h4:v.num.length≤0)(h5:v.den.length≤0)(h6:(b+1)<9223372036854775808)(hL:ay a (b+1) r):ay a b r :=
 lG [1,3] [.a,.q,.t,.h 0 (.row b (aq.cells v)),.bx [.o,.o,.o,.o,.o,(iL v.num),.o,(.dec false),.o,.o,.o,(iL v.den),.o,(.dec false)],.f,.h 0 (iI (((b+1):Nat):Int)),.aW [5,6,7],.drop [4]] (Nj (aG h1) (bG aq.cells (rN b) h2) h3 h3 h3 (aH aE v.num) h3 h3 (aL h4) (aL h4) (aL h4) (aH aE v.den) (aL h4) (aL h4) (aL h5) (bj h6)) hL
theorem G5(a:Rs)(b:Nat)(h1:a.length≤b):ay a b (vB true) :=
 lD [] [.a,.q,.f,.q] (y1 (aL h1))
end iq
namespace A7
theorem e0(t:aU)(a b c:Rs)(d:Int)(k:Nat)(v g i j:Rs)(h1:a.length<9223372036854775808)(h2:(a.length/2)≤a.length)(h3:(a.length/2)≤(a:Rs).length)(h4:Cp 243 [t.pv,(ae (a.take (a.length/2))),(ae (a.take (a.length/2)))] (ae b))(h5:Cp 243 [t.pv,(ae (a.drop (a.length/2))),(ae (a.drop (a.length/2)))] (ae c))(h6:Cp 179 [ae a] (vI d))(h7:bf (d-1))(h8:(d-1)=(k:Int))(h9:t.roots[k]? = some v)(cE:Cp 243 [t.pv,ae c,ae v] (ae g))(dC:Cp 204 [ae g] (ae i))(dI:Cp 242 [ae b,ae i] (ae j)):Cp 184 [t.pv,ae a] (ae j) :=
 eD func184 [1,1,6,6,1,1,1,1,3] [.q,.bx [.o,(iL a),(iI (((a.length/2):Nat):Int))],dr 7 1 [.none,.none,(.fM 0 (a.length/2) (((a.take (a.length/2)):Rs).map aq.cells)),.none,.none,(.fM (a.length/2) ((a:Rs).length) (((a.drop (a.length/2)):Rs).map aq.cells))],dr 19 1 [.none,.none,.none,(.pv (ae b)),.none,.none,.none,.none,(.pv (ae c)),.none,.none,.none,(.pv (vI d)),(iI (d-1)),(.row k (lR v)),.none,(.pv (ae g)),(.pv (ae i)),(.pv (ae j))]] (H8 (aH aq.cells a) (kD (y:=2) (by decide) h1) (jH bN (a:Rs) (rN (a.length/2)) h2) (uQ bN (a:Rs) (rN (a.length/2)) h3) h4 h5 h6 (b9 h7) (bG lR h8 h9) cE dC dI)
end A7
namespace l8
@[reducible] def fn:Func:=Tryz.f185
def bM:List eh:=focus [0,2,0,0,2,0,2,1,2,0,0,2,0,0] [.code (aS fn)]
def inv1(list:List (List aq))(rM:Nat)(t:aU):St:=⟨[(2,(.ptr 2 0)),(14,(.pv (an (dF aq.cells) list))),(15,(eI (list.length:Int))),(16,(eI (rM:Int)))],[(2,(.lit [(.pv (an (dF aq.cells) t.roots))]))]⟩
@[reducible] def ay(list:List (List aq))(rM:Nat)(t:aU)(r:PV):Prop:=L aV fn bM (inv1 list rM t) r
theorem e0(t:aU)(b:List (Rs)){r:PV}(h1:Cp 86 [t.pv] .ar)(hL:ay b 0 t r):Cp 185 [t.pv,(an lR b)] r :=
 eG func185 [] [.q,.h 1 (.pv .ar),.q,.a,.h 1 (iL b),.aW [2,14,15,16]] (y2 h1 (aH lR b)) hL
theorem eu(b:List (Rs))(c:Nat)(t:aU)(v:Rs){r:PV}(h1:c<b.length)(h2:b[c]? = some v)(h3:Cp 126 [t.pv,ae v] .ar)(h4:(c+1)<9223372036854775808)(hL:ay b (c+1) t r):ay b c t r :=
 lG [1,3] [.a,.q,.t,.h 0 (.row c (lR v)),.h 2 (.pv .ar),.q,.a,.h 0 (iI (((c+1):Nat):Int)),.aW [2,14,15,16]] (y4 (aG h1) (bG lR (rN c) h2) h3 (bj h4)) hL
theorem im(b:List (Rs))(c:Nat)(t:aU)(h1:b.length≤c):ay b c t .ar :=
 lD [] [.a,.q,.f,.q] (y1 (aL h1))
end l8
namespace CP
theorem e0(t:aU)(a b c d:Rs)(g:Int)(h1:Cp 185 [t.pv,(an lR [a,b])] .ar)(h2:Cp 204 [ae b] (ae c))(h3:Cp 242 [ae a,ae c] (ae d))(h4:Cp 127 [t.pv,ae d] (vI g)):Cp 188 [t.pv,ae a,ae b] (.bg [vI g,.ar]) :=
 eD func188 [3] [.q,.bx [.o,.o,.o,(.fM 0 0 (([a,b]:List (Rs)).map lR)),(.pv .ar)],.q,.a,dr 6 2 [.none,.none,.none,(.pv (ae c)),(.pv (ae d)),(.pv (vI g))]] (y5 (gA (pF aq.cells) ([a,b]:List (Rs))) h1 h2 h3 h4)
end CP
namespace A8
theorem e0(t:aU)(a:Rs)(b:Int)(h1:Cp 185 [t.pv,(an lR [a])] .ar)(h2:Cp 127 [t.pv,ae a] (vI b)):Cp 193 [t.pv,ae a] (.bg [vI b,.ar]) :=
 eD func193 [3] [.q,.bx [.o,.o,(.fM 0 0 (([a]:List (Rs)).map lR)),(.pv .ar)],.q,.a,.h 2 (.pv (vI b))] (y3 (gA (pF aq.cells) ([a]:List (Rs))) h1 h2)
end A8
namespace ny
@[reducible] def fn:Func:=Tryz.f204
def bM:List eh:=focus [0,2,0,2,0,0,2,0,0] [.code (aS fn)]
def inv1(a:List aq)(G8:Nat)(fI:List aq):St:=⟨[(0,(.pv (ae a))),(3,(.row 7 0 a.length 3)),(9,(eI (a.length:Int))),(10,(eI (G8:Int)))],[(7,(.pure ((fI:List aq).map aq.cells).flatten))]⟩
@[reducible] def ay(a:List aq)(G8:Nat)(fI:List aq)(r:PV):Prop:=L aV fn bM (inv1 a G8 fI) r
theorem e0(a:Rs){r:PV}(h1:56*a.length≤140737488355328)(hL:ay a 0 (List.replicate a.length (⟨false,[],[]⟩:aq)) r):Cp 204 [ae a] r :=
 eG func204 [1,5] [.q,.bx [.o,(iL a),(.app a.length ((List.replicate a.length (⟨false,[],[]⟩:aq):Rs).map aq.cells).flatten)],.h 1 (iL a),.aW [0,3,9,10]] (y3 (aH aq.cells a) (uB aq.cells (⟨false,[],[]⟩:aq) 56 a.length (rN a.length) h1 rfl) (aH aq.cells a)) hL
theorem eu(a:Rs)(b:Nat)(c:Rs)(v d:aq){r:PV}(h1:b<a.length)(h2:a[b]? = some v)(h3:Cp 57 [v.pv] d.pv)(h4:b<c.length)(h5:(b+1)<9223372036854775808)(hL:ay a (b+1) (c.set b d) r):ay a b c r :=
 lG [1,3,1,2,2] [.a,.q,.t,.q,.bx [.o,.o,.o,.o,(.row b (aq.cells v)),.o,(.pv d.pv),(.nat b),(.cells (.pure (((c.set b d):Rs).map aq.cells).flatten))],.h 0 (iI (((b+1):Nat):Int)),.aW [0,3,9,10]] (y6 (aG h1) (bG aq.cells (rN b) h2) h3 (cj (rN b) h1) (jw bN (c:Rs) d h4) (bj h5)) hL
theorem dp(a:Rs)(b:Nat)(c:Rs)(h1:a.length≤b)(h2:a.length=c.length):ay a b c (ae c) :=
 lD [1,3] [.a,.q,.f,.q,.jz 2 ((c:Rs).map aq.cells)] (y2 (aL h1) (dJ bN (c:Rs) h2))
end ny
namespace A9
theorem e0(t:aU)(a b c:Rs)(h1:Cp 185 [t.pv,(an lR [a])] .ar)(h2:Cp 180 [ae a] (ae b))(h3:t.roots.length≤64)(h4:(1*2^t.roots.length)<9223372036854775808)(h5:Cp 271 [ae b,(vI (((1*2^t.roots.length):Nat):Int))] (ae c)):Cp 234 [t.pv,ae a] (.bg [ae c,.ar]) :=
 eD func234 [3] [.q,.bx [.o,.o,(.fM 0 0 (([a]:List (Rs)).map lR)),(.pv .ar)],.q,.a,dr 7 2 [.none,(.pv (ae b)),.none,.none,(iL t.roots),(iI (((1*2^t.roots.length):Nat):Int)),(.pv (ae c))]] (y6 (gA (pF aq.cells) ([a]:List (Rs))) h1 h2 (aH lR t.roots) (gz (k := .i64) h3 h4) h5)
end A9
namespace o7
@[reducible] def fn:Func:=Tryz.f242
def bM:List eh:=focus [0,2,0,2,0,2,0,0,2,0,0] [.code (aS fn)]
def inv1(n:Nat)(wid:List aq)(G9:Nat)(lQ:List aq):St:=⟨[(0,(.row 14 0 n 3)),(1,(.pv (ae wid))),(19,(eI (n:Int))),(20,(eI (G9:Int)))],[(14,(.pure ((lQ:List aq).map aq.cells).flatten))]⟩
@[reducible] def ay(n:Nat)(wid:List aq)(G9:Nat)(lQ:List aq)(r:PV):Prop:=L aV fn bM (inv1 n wid G9 lQ) r
theorem e0(a b z:Rs)(n:Nat)(c:Rs){r:PV}(h1:ag aV 271 [.pv (ae a),.pv (vI (((max a.length b.length):Nat):Int))] [] (.row 0 0 n 3) [(0,(pC aq.cells z))])(h2:Cp 271 [ae b,(vI (((max a.length b.length):Nat):Int))] (ae c))(hL:ay n c 0 z r):Cp 242 [ae a,ae b] r :=
 eG func242 [] [.q,.bx [.o,(iL a),.o,(iL b),(iI (((max a.length b.length):Nat):Int))],.bx [.o,.o,(.bm [] (some (0,14)) (.row 0 0 n 3) [(0,(pC aq.cells z))]),.o,.o,(.pv (ae c))],.q,.aW [0,1,19,20]] (y5 (aH aq.cells a) (aH aq.cells b) (AR a.length b.length) h1 h2) hL
theorem eu(n:Nat)(b:Rs)(c:Nat)(d:Rs)(v v1 g:aq){r:PV}(h1:c<n)(h2:d[c]? = some v)(h3:b[c]? = some v1)(h4:Cp 58 [v.pv,v1.pv] g.pv)(h5:c<d.length)(h6:(c+1)<9223372036854775808)(hL:ay n b (c+1) (d.set c g) r):ay n b c d r :=
 lG [1,2,2,3,1,2,2] [.a,.q,.t,.q,dr 12 1 [.none,.none,.none,.none,(.nat c),(.MA [vB v.neg,af v.num,af v.den]),.none,.none,(.row c (aq.cells v1)),.none,(.pv g.pv),(.nat c),(.cells (.pure (((d.set c g):Rs).map aq.cells).flatten))],.h 0 (iI (((c+1):Nat):Int)),.aW [0,1,19,20]] (y8 (aG h1) (cj (rN c) h1) (CK bN h2) (bG aq.cells (rN c) h3) h4 (cj (rN c) h1) (jw bN (d:Rs) g h5) (bj h6)) hL
theorem dp(n:Nat)(b:Rs)(c:Nat)(d:Rs)(h1:n≤c)(h2:n=d.length):ay n b c d (ae d) :=
 lD [1,3] [.a,.q,.f,.q,.jz 4 ((d:Rs).map aq.cells)] (y2 (aL h1) (dJ bN (d:Rs) h2))
end o7
namespace eC
theorem e0(t:aU)(a b:Rs)(c:Bool)(h1:a.length<b.length)(h2:Cp 274 [ae b] (vB c))(h3:c=true):Cp 243 [t.pv,ae a,ae b] (ae []) :=
 eD func243 [] [.q,.bx [.o,(iL a),.o,(iL b)],.t,.q,.bx [.o,(.pv (vB c)),.o,.skip,.skip,(.dec true)],.a,.q] (y7 (aH aq.cells a) (aH aq.cells b) (aG h1) h2 h3 h3 h3)
theorem e1(t:aU)(a b:Rs)(c d:Bool)(h1:a.length<b.length)(h2:Cp 274 [ae b] (vB c))(h3:c=false)(h4:Cp 274 [ae a] (vB d))(h5:d=true):Cp 243 [t.pv,ae a,ae b] (ae []) :=
 eD func243 [] [.q,.bx [.o,(iL a),.o,(iL b)],.t,.q,.bx [.o,(.pv (vB c)),.o,.o,(.pv (vB d)),(.dec false)],.t,.q] (y9 (aH aq.cells a) (aH aq.cells b) (aG h1) h2 h3 h3 h4 h3 h5)
theorem e3(t:aU)(a b:Rs)(c d:Bool)(g i j:Rs)(h1:a.length<b.length)(h2:Cp 274 [ae b] (vB c))(h3:c=false)(h4:Cp 274 [ae a] (vB d))(h5:d=false)(h6:b.length≠1)(h7:b.length<9223372036854775808)(h8:(b.length/2)≤b.length)(h9:(b.length/2)≤(b:Rs).length)(cE:a.length≤(b.length/2))(dC:Cp 243 [t.pv,(ae (b.take (b.length/2))),ae a] (ae g))(dI:Cp 243 [t.pv,(ae (b.drop (b.length/2))),ae a] (ae i))(ep:Cp 275 [ae g,ae i,(vI (((b.length/2):Nat):Int))] (ae j)):Cp 243 [t.pv,ae a,ae b] (ae j) :=
 eD func243 [1,1,1,1,1,1,1,1,1,1,1,1,1,6,6] [.q,.bx [.o,(iL a),.o,(iL b)],.t,.q,.bx [.o,(.pv (vB c)),.o,.o,(.pv (vB d)),(.dec false)],.f,.h 1 (iL b),.f,.bx [.o,(iL b),(iI (((b.length/2):Nat):Int))],dr 7 1 [.none,.none,(.fM 0 (b.length/2) (((b.take (b.length/2)):Rs).map aq.cells)),.none,.none,(.fM (b.length/2) ((b:Rs).length) (((b.drop (b.length/2)):Rs).map aq.cells))],.h 1 (iL a),.t,dr 10 1 [.none,.none,.none,(.pv (ae g)),.none,.none,.none,(.pv (ae i)),.none,(.pv (ae j))]] (Ry (aH aq.cells a) (aH aq.cells b) (aG h1) h2 h3 h3 h4 h3 h5 (aH aq.cells b) (aZ h6) (aH aq.cells b) (kD (y:=2) (by decide) h7) (jH bN (b:Rs) (rN (b.length/2)) h8) (uQ bN (b:Rs) (rN (b.length/2)) h9) (aH aq.cells a) (cK cE) dC dI ep)
theorem e5(t:aU)(a b:Rs)(c:Bool)(h1:b.length≤a.length)(h2:Cp 274 [ae a] (vB c))(h3:c=true):Cp 243 [t.pv,ae a,ae b] (ae []) :=
 eD func243 [] [.q,.bx [.o,(iL a),.o,(iL b)],.f,.bx [.o,(.pv (vB c)),.o,.skip,.skip,(.dec true)],.a,.q] (y7 (aH aq.cells a) (aH aq.cells b) (aL h1) h2 h3 h3 h3)
theorem e6(t:aU)(a b:Rs)(c d:Bool)(h1:b.length≤a.length)(h2:Cp 274 [ae a] (vB c))(h3:c=false)(h4:Cp 274 [ae b] (vB d))(h5:d=true):Cp 243 [t.pv,ae a,ae b] (ae []) :=
 eD func243 [] [.q,.bx [.o,(iL a),.o,(iL b)],.f,.bx [.o,(.pv (vB c)),.o,.o,(.pv (vB d)),(.dec false)],.t,.q] (y9 (aH aq.cells a) (aH aq.cells b) (aL h1) h2 h3 h3 h4 h3 h5)
theorem e7(t:aU)(a b:Rs)(c d:Bool)(v v1 g:aq)(h1:b.length≤a.length)(h2:Cp 274 [ae a] (vB c))(h3:c=false)(h4:Cp 274 [ae b] (vB d))(h5:d=false)(h6:a.length=1)(h7:a[0]? = some v)(h8:b[0]? = some v1)(h9:Cp 35 [v.pv,v1.pv] g.pv):Cp 243 [t.pv,ae a,ae b] (ae [g]) :=
 eD func243 [1,1,1,1,1,1,1,1,1,1,1,3,3,1,3] [.q,.bx [.o,(iL a),.o,(iL b)],.f,.bx [.o,(.pv (vB c)),.o,.o,(.pv (vB d)),(.dec false)],.f,.h 1 (iL a),.t,dr 8 1 [.none,(.row 0 (aq.cells v)),.none,.none,(.row 0 (aq.cells v1)),.none,(.pv g.pv)],.jz 6 (([g]:Rs).map aq.cells)] (Rw (aH aq.cells a) (aH aq.cells b) (aL h1) h2 h3 h3 h4 h3 h5 (aH aq.cells a) (bL h6) (bG aq.cells (Eq.refl (0:Int)) h7) (bG aq.cells (Eq.refl (0:Int)) h8) h9 (dJ bN ([g]:Rs) (Eq.refl ([g]:Rs).length)))
theorem e8(t:aU)(a b:Rs)(c d:Bool)(g i j:Rs)(h1:b.length≤a.length)(h2:Cp 274 [ae a] (vB c))(h3:c=false)(h4:Cp 274 [ae b] (vB d))(h5:d=false)(h6:a.length≠1)(h7:a.length<9223372036854775808)(h8:(a.length/2)≤a.length)(h9:(a.length/2)≤(a:Rs).length)(cE:b.length≤(a.length/2))(dC:Cp 243 [t.pv,(ae (a.take (a.length/2))),ae b] (ae g))(dI:Cp 243 [t.pv,(ae (a.drop (a.length/2))),ae b] (ae i))(ep:Cp 275 [ae g,ae i,(vI (((a.length/2):Nat):Int))] (ae j)):Cp 243 [t.pv,ae a,ae b] (ae j) :=
 eD func243 [1,1,1,1,1,1,1,1,1,1,1,1,1,6,6] [.q,.bx [.o,(iL a),.o,(iL b)],.f,.bx [.o,(.pv (vB c)),.o,.o,(.pv (vB d)),(.dec false)],.f,.h 1 (iL a),.f,.bx [.o,(iL a),(iI (((a.length/2):Nat):Int))],dr 7 1 [.none,.none,(.fM 0 (a.length/2) (((a.take (a.length/2)):Rs).map aq.cells)),.none,.none,(.fM (a.length/2) ((a:Rs).length) (((a.drop (a.length/2)):Rs).map aq.cells))],.h 1 (iL b),.t,dr 10 1 [.none,.none,.none,(.pv (ae g)),.none,.none,.none,(.pv (ae i)),.none,(.pv (ae j))]] (Ry (aH aq.cells a) (aH aq.cells b) (aL h1) h2 h3 h3 h4 h3 h5 (aH aq.cells a) (aZ h6) (aH aq.cells a) (kD (y:=2) (by decide) h7) (jH bN (a:Rs) (rN (a.length/2)) h8) (uQ bN (a:Rs) (rN (a.length/2)) h9) (aH aq.cells b) (cK cE) dC dI ep)
theorem e9(t:aU)(a b:Rs)(c d:Bool)(g:Int)(k:Nat)(v i j l m n p s u:Rs)(h1:b.length≤a.length)(h2:Cp 274 [ae a] (vB c))(h3:c=false)(h4:Cp 274 [ae b] (vB d))(h5:d=false)(h6:a.length≠1)(h7:a.length<9223372036854775808)(h8:(a.length/2)≤a.length)(h9:(a.length/2)≤(a:Rs).length)(cE:(a.length/2)<b.length)(dC:(a.length/2)≤b.length)(dI:(a.length/2)≤(b:Rs).length)(ep:Cp 179 [ae a] (vI g))(jq:bf (g-1))(ky:(g-1)=(k:Int))(mo:t.roots[k]? = some v)(ie:Cp 243 [t.pv,(ae (a.take (a.length/2))),(ae (b.take (a.length/2)))] (ae i))(oS:Cp 243 [t.pv,(ae (a.drop (a.length/2))),(ae (b.drop (a.length/2)))] (ae j))(A1:Cp 243 [t.pv,ae j,ae v] (ae l))(sF:Cp 242 [ae i,ae l] (ae m))(KZ:Cp 243 [t.pv,(ae (a.take (a.length/2))),(ae (b.drop (a.length/2)))] (ae n))(No:Cp 243 [t.pv,(ae (a.drop (a.length/2))),(ae (b.take (a.length/2)))] (ae p))(Qa:Cp 242 [ae n,ae p] (ae s))(Qb:Cp 275 [ae m,ae s,(vI (((a.length/2):Nat):Int))] (ae u)):Cp 243 [t.pv,ae a,ae b] (ae u) :=
 eD func243 [1,1,1,1,1,1,1,1,1,1,1,1,1,6,6,1,1,6,6,1,1,3] [.q,.bx [.o,(iL a),.o,(iL b)],.f,.bx [.o,(.pv (vB c)),.o,.o,(.pv (vB d)),(.dec false)],.f,.h 1 (iL a),.f,.bx [.o,(iL a),(iI (((a.length/2):Nat):Int))],dr 7 1 [.none,.none,(.fM 0 (a.length/2) (((a.take (a.length/2)):Rs).map aq.cells)),.none,.none,(.fM (a.length/2) ((a:Rs).length) (((a.drop (a.length/2)):Rs).map aq.cells))],.h 1 (iL b),.f,dr 7 1 [.none,.none,(.fM 0 (a.length/2) (((b.take (a.length/2)):Rs).map aq.cells)),.none,.none,(.fM (a.length/2) ((b:Rs).length) (((b.drop (a.length/2)):Rs).map aq.cells))],dr 7 1 [.none,.none,.none,(.pv (vI g)),(iI (g-1)),(.row k (lR v))],dr 12 1 [.none,.none,.none,(.pv (ae i)),.none,.none,.none,.none,(.pv (ae j)),.none,(.pv (ae l)),(.pv (ae m))],dr 12 1 [.none,.none,.none,.none,(.pv (ae n)),.none,.none,.none,(.pv (ae p)),(.pv (ae s)),.none,(.pv (ae u))]] (SK (aH aq.cells a) (aH aq.cells b) (aL h1) h2 h3 h3 h4 h3 h5 (aH aq.cells a) (aZ h6) (aH aq.cells a) (kD (y:=2) (by decide) h7) (jH bN (a:Rs) (rN (a.length/2)) h8) (uQ bN (a:Rs) (rN (a.length/2)) h9) (aH aq.cells b) (b7 cE) (jH bN (b:Rs) (rN (a.length/2)) dC) (uQ bN (b:Rs) (rN (a.length/2)) dI) ep (b9 jq) (bG lR ky mo) ie oS A1 sF KZ No Qa Qb)
end eC
namespace CQ
theorem e0(t:aU)(a b c d g:Rs)(h1:Cp 185 [t.pv,(an lR [a,b])] .ar)(h2:Cp 204 [ae b] (ae c))(h3:Cp 242 [ae a,ae c] (ae d))(h4:Cp 122 [ae d] (ae g)):Cp 265 [t.pv,ae a,ae b] (.bg [ae g,.ar]) :=
 eD func265 [3] [.q,.bx [.o,.o,.o,(.fM 0 0 (([a,b]:List (Rs)).map lR)),(.pv .ar)],.q,.a,.bx [.o,.o,(.pv (ae c)),(.pv (ae d)),(.pv (ae g))]] (y5 (gA (pF aq.cells) ([a,b]:List (Rs))) h1 h2 h3 h4)
end CQ
namespace CR
theorem e0(t:aU)(a b c d:Rs)(h1:Cp 185 [t.pv,(an lR [a,b])] .ar)(h2:Cp 242 [ae a,ae b] (ae c))(h3:Cp 122 [ae c] (ae d)):Cp 269 [t.pv,ae a,ae b] (.bg [ae d,.ar]) :=
 eD func269 [3] [.q,.bx [.o,.o,.o,(.fM 0 0 (([a,b]:List (Rs)).map lR)),(.pv .ar)],.q,.a,.bx [.o,.o,(.pv (ae c)),(.pv (ae d))]] (y4 (gA (pF aq.cells) ([a,b]:List (Rs))) h1 h2 h3)
end CR
namespace CS
theorem e0(t:aU)(a b c d:Rs)(h1:Cp 185 [t.pv,(an lR [a,b])] .ar)(h2:Cp 243 [t.pv,ae a,ae b] (ae c))(h3:Cp 122 [ae c] (ae d)):Cp 270 [t.pv,ae a,ae b] (.bg [ae d,.ar]) :=
 eD func270 [3] [.q,.bx [.o,.o,.o,(.fM 0 0 (([a,b]:List (Rs)).map lR)),(.pv .ar)],.q,.a,.bx [.o,.o,.o,(.pv (ae c)),(.pv (ae d))]] (y4 (gA (pF aq.cells) ([a,b]:List (Rs))) h1 h2 h3)
end CS
namespace Ba
theorem e0(a:Rs)(n:Int)(m:Nat)(h1:n=(m:Int))(h2:56*m≤140737488355328)(h3:(min a.length m)≤(List.replicate m (⟨false,[],[]⟩:aq):Rs).length)(h4:m=(a.take (min a.length m)++(List.replicate m (⟨false,[],[]⟩:aq)).drop (min a.length m)).length):Cp 271 [ae a,vI n] (ae (a.take (min a.length m)++(List.replicate m (⟨false,[],[]⟩:aq)).drop (min a.length m))) :=
 eD func271 [5,4,3] [.q,.h 1 (.app m ((List.replicate m (⟨false,[],[]⟩:aq):Rs).map aq.cells).flatten),.h 2 (.app (min a.length m) (((a.take (min a.length m)++(List.replicate m (⟨false,[],[]⟩:aq)).drop (min a.length m)):Rs).map aq.cells).flatten),.q,.jz 4 (((a.take (min a.length m)++(List.replicate m (⟨false,[],[]⟩:aq)).drop (min a.length m)):Rs).map aq.cells)] (y3 (uB aq.cells (⟨false,[],[]⟩:aq) 56 m h1 h2 rfl) (OE bN (List.replicate m (⟨false,[],[]⟩:aq):Rs) (a:Rs) (Eq.refl (min a.length m)) h3) (dJ bN ((a.take (min a.length m)++(List.replicate m (⟨false,[],[]⟩:aq)).drop (min a.length m)):Rs) h4))
end Ba
namespace yr
theorem e0(a:Rs)(n:Int)(m:Nat)(h1:n=(m:Int))(h2:56*m≤140737488355328)(h3:(min a.length m)≤(List.replicate m (⟨false,[],[]⟩:aq):Rs).length):ag aV 271 [(.pv (ae a)),eI n] [] (.row 0 0 m 3) [(0,(.pure ((((a.take (min a.length m)++(List.replicate m (⟨false,[],[]⟩:aq)).drop (min a.length m)).take m):Rs).map aq.cells).flatten))] :=
 lu func271 [5,4] [.q,.h 1 (.app m ((List.replicate m (⟨false,[],[]⟩:aq):Rs).map aq.cells).flatten),.h 2 (.app (min a.length m) (((a.take (min a.length m)++(List.replicate m (⟨false,[],[]⟩:aq)).drop (min a.length m)):Rs).map aq.cells).flatten),.q,.pH 7 0,.cut 0 (m*3) ((((a.take (min a.length m)++(List.replicate m (⟨false,[],[]⟩:aq)).drop (min a.length m)).take m):Rs).map aq.cells).flatten,.ord [0]] (y3 (uB aq.cells (⟨false,[],[]⟩:aq) 56 m h1 h2 rfl) (OE bN (List.replicate m (⟨false,[],[]⟩:aq):Rs) (a:Rs) (Eq.refl (min a.length m)) h3) (AQ bN ((a.take (min a.length m)++(List.replicate m (⟨false,[],[]⟩:aq)).drop (min a.length m)):Rs) m))
end yr
namespace mT
@[reducible] def fn:Func:=Tryz.f274
def bM:List eh:=focus [0,2,0,0,2,0,0] [.code (aS fn)]
def inv1(a:List aq)(P9:Nat):St:=⟨[(5,(.pv (ae a))),(6,(eI (a.length:Int))),(7,(eI (P9:Int)))],[]⟩
@[reducible] def ay(a:List aq)(P9:Nat)(r:PV):Prop:=L aV fn bM (inv1 a P9) r
theorem e0 (a : Rs) {r : PV}  (hL : ay a 0 r) : Cp 274 [ae a] r :=
 eG func274 [] [.q,.h 1 (iL a),.aW [5,6,7]] (y1 (aH aq.cells a)) hL
theorem eu(a:Rs)(b:Nat)(v:aq)(c:Int)(h1:b<a.length)(h2:a[b]? = some v)(h3:Cp 14 [v.pv] (vI c))(h4:c≠0):ay a b (vB false) :=
 lD [1,3] [.a,.q,.t,.h 0 (.row b (aq.cells v)),.h 1 (.pv (vI c)),.t,.q] (y4 (aG h1) (bG aq.cells (rN b) h2) h3 (yi h4))
theorem dp(a:Rs)(b:Nat)(v:aq)(c:Int){r:PV}(h1:b<a.length)(h2:a[b]? = some v)(h3:Cp 14 [v.pv] (vI c))(h4:c=0)(h5:(b+1)<9223372036854775808)(hL:ay a (b+1) r):ay a b r :=
 lG [1,3] [.a,.q,.t,.h 0 (.row b (aq.cells v)),.h 1 (.pv (vI c)),.f,.h 0 (iI (((b+1):Nat):Int)),.aW [5,6,7],.drop [4]] (y5 (aG h1) (bG aq.cells (rN b) h2) h3 (pO h4) (bj h5)) hL
theorem im(a:Rs)(b:Nat)(h1:a.length≤b):ay a b (vB true) :=
 lD [] [.a,.q,.f,.q] (y1 (aL h1))
end mT
namespace Bb
theorem e0(a b:Rs)(n:Int)(z:Rs)(n1:Nat)(c:Rs)(h1:ag aV 271 [.pv (ae a),.pv (vI n)] [] (.row 0 0 n1 3) [(0,(pC aq.cells z))])(h2:Cp 271 [ae b,vI n] (ae c))(h3:z.length=n1)(h4:((z++c):Rs).length*56≤140737488355328):Cp 275 [ae a,ae b,vI n] (ae (z++c)) :=
 eD func275 [1,1,6,3] [.q,.bx [.o,.o,(.bm [] (some (0,9)) (.row 0 0 n1 3) [(0,(pC aq.cells z))]),.o,.o,(.pv (ae c)),(.app ((z++c):Rs).length (((z++c):Rs).map aq.cells).flatten)],.jz 6 (((z++c):Rs).map aq.cells)] (y4 h1 h2 (tp bN (z:Rs) (c:Rs) 56 h3 h4 rfl) (dJ bN ((z++c):Rs) (Eq.refl ((z++c):Rs).length)))
end Bb
namespace rO
@[reducible] def fn:Func:=Tryz.f172
def bM:List eh:=focus [0,2,0,2,0,0,0,2,1,0,2,1,0,2,1,2,2,0,2,0,0,2,0,0] [.code (aS fn)]
def inv1(Wr:List aq)(t:aU)(Qc:Nat)(zx:List (List aq)):St:=⟨[(2,(.ptr 2 0)),(4,(.ptr 4 0)),(7,(.pv (ae Wr))),(9,(.ptr 9 0)),(38,(.pv (an (dF aq.cells) t.roots))),(39,(eI (t.roots.length:Int))),(40,(eI (Qc:Int)))],[(2,(.lit [(.pv (an (dF aq.cells) t.roots))])),(4,(.lit [(.pv (.list []))])),(9,(.lit [(.row 49 0 zx.length 1)])),(49,(.pure ((zx:List (List aq)).map (dF aq.cells)).flatten))]⟩
@[reducible] def ay(Wr:List aq)(t:aU)(Qc:Nat)(zx:List (List aq))(r:PV):Prop:=L aV fn bM (inv1 Wr t Qc zx) r
theorem e2(t:aU)(d b:Rs)(c:Int){r:PV}(h1:Cp 234 [t.pv,ae d] (.bg [ae b,.ar]))(h2:Cp 127 [t.pv,ae b] (vI c))(h3:0≤c)(h4:t.roots.length<5)(hL:ay b t 0 [] r):Cp 172 [t.pv,ae d] r :=
 eG func172 [] [.q,.h 2 (.pv (.bg [ae b,.ar])),.q,.a,.h 2 (.pv (vI c)),.f,.h 2 (iL t.roots),.f,.h 0 .nil,.oJ 9 0 49 1,.h 2 (iL t.roots),.aW [2,4,7,9,38,39,40],.ord [2,4,9,49]] (y6 h1 h2 (ah h3) (aH lR t.roots) (b7 h4) (aH lR t.roots)) hL
theorem dp(b:Rs)(t:aU)(c:Nat)(d:List (Rs))(g:Rs)(h1:t.roots.length≤c)(h2:((d++[b]):List (Rs)).length*24≤140737488355328)(h3:Cp 235 [(vI (t.roots.length:Int))] (ae g)):ay b t c d (.bg [(⟨(d++[b])⟩:aU).pv,ae g,.ar]) :=
 lD [1,6,1,1,3] [.a,.q,.f,.h 4 (.app ((d++[b]):List (Rs)).length (((d++[b]):List (Rs)).map lR).flatten),dr 5 3 [.none,.none,.none,(iL t.roots),(.pv (ae g))],.wC 4 0 (((d++[b]):List (Rs)).map lR)] (y5 (aL h1) (ix (pF aq.cells) (d:List (Rs)) ([b]:List (Rs)) 24 (Eq.refl (d:List (Rs)).length) (Eq.refl ([b]:List (Rs)).length) h2 rfl) (aH lR t.roots) h3 (dJ (pF aq.cells) ((d++[b]):List (Rs)) (Eq.refl ((d++[b]):List (Rs)).length)))
end rO
namespace Bc
theorem e0(k:Int)(k1 k2:Nat)(of:aq)(h1:k=(k1:Int))(h2:k1≤64)(h3:(2*2^k1)<9223372036854775808)(h4:56*(2*2^k1)≤140737488355328)(h5:k=(k2:Int))(h6:k2≤64)(h7:(1*2^k2)<9223372036854775808)(h8:Cp 15 [vI 1] of.pv)(h9:(1*2^k2)<(2*2^k1))(cE:(1*2^k2)<(List.replicate (2*2^k1) (⟨false,[],[]⟩:aq)).length)(dC:(2*2^k1)=((List.replicate (2*2^k1) (⟨false,[],[]⟩:aq)).set (1*2^k2) of).length):Cp 235 [vI k] (ae ((List.replicate (2*2^k1) (⟨false,[],[]⟩:aq)).set (1*2^k2) of)) :=
 eD func235 [1,5,1,1,2,2,3] [.q,.bx [.o,(iI (((2*2^k1):Nat):Int)),(.app (2*2^k1) ((List.replicate (2*2^k1) (⟨false,[],[]⟩:aq):Rs).map aq.cells).flatten)],dr 5 1 [.none,.none,(iI (((1*2^k2):Nat):Int)),(.pv of.pv),(.nat (1*2^k2)),(.cells (.pure ((((List.replicate (2*2^k1) (⟨false,[],[]⟩:aq)).set (1*2^k2) of):Rs).map aq.cells).flatten))],.q,.jz 2 ((((List.replicate (2*2^k1) (⟨false,[],[]⟩:aq)).set (1*2^k2) of):Rs).map aq.cells)] (y7 (KQ h1 (gz (k := .i64) h2 h3)) (uB aq.cells (⟨false,[],[]⟩:aq) 56 (2*2^k1) (Eq.refl ((((2*2^k1):Nat):Int):Int)) h4 rfl) (KQ h5 (gz (k := .i64) h6 h7)) h8 (cj (Eq.refl ((((1*2^k2):Nat):Int):Int)) h9) (jw bN (List.replicate (2*2^k1) (⟨false,[],[]⟩:aq):Rs) of cE) (dJ bN (((List.replicate (2*2^k1) (⟨false,[],[]⟩:aq)).set (1*2^k2) of):Rs) dC))
end Bc
namespace CT
theorem e1(t:aU)(a b:Rs)(c:Int)(d g i:Rs)(h1:Cp 185 [t.pv,(an lR [a,b])] .ar)(h2:Cp 127 [t.pv,ae b] (vI c))(h3:c≠0)(h4:Cp 273 [t.pv,ae b] (ae d))(h5:Cp 243 [t.pv,ae a,ae d] (ae g))(h6:Cp 122 [ae g] (ae i)):Cp 240 [t.pv,ae a,ae b] (.bg [ae i,.ar]) :=
 eD func240 [3] [.q,.bx [.o,.o,.o,(.fM 0 0 (([a,b]:List (Rs)).map lR)),(.pv .ar)],.q,.a,.h 2 (.pv (vI c)),.f,dr 7 2 [.none,.none,.none,.none,(.pv (ae d)),(.pv (ae g)),(.pv (ae i))]] (y7 (gA (pF aq.cells) ([a,b]:List (Rs))) h1 h2 (dc h3) h4 h5 h6)
end CT
namespace qq
theorem e0(t:aU)(a b:Rs)(of v c:aq)(h1:Cp 122 [ae a] (ae b))(h2:b.length=1)(h3:Cp 15 [vI 1] of.pv)(h4:b[0]? = some v)(h5:Cp 69 [of.pv,v.pv] (.bg [c.pv,.ar])):Cp 273 [t.pv,ae a] (ae [c]) :=
 eD func273 [1,1,1,1,3,1,3] [.q,.h 1 (.pv (ae b)),.h 1 (iL b),.t,dr 10 1 [(.pv of.pv),.none,(.row 0 (aq.cells v)),.none,(.pv (.bg [c.pv,.ar]))],.q,.jz 4 (([c]:Rs).map aq.cells)] (y7 h1 (aH aq.cells b) (bL h2) h3 (bG aq.cells (Eq.refl (0:Int)) h4) h5 (dJ bN ([c]:Rs) (Eq.refl ([c]:Rs).length)))
theorem e2(t:aU)(a b c:Rs)(d:Int)(g i j k:Rs)(h1:Cp 122 [ae a] (ae b))(h2:b.length≠1)(h3:b.length<9223372036854775808)(h4:Cp 184 [t.pv,ae b] (ae c))(h5:Cp 127 [t.pv,ae c] (vI d))(h6:d≠0)(h7:(b.length/2)≤b.length)(h8:(b.length/2)≤(b:Rs).length)(h9:Cp 204 [(ae (b.drop (b.length/2)))] (ae g))(cE:Cp 275 [(ae (b.take (b.length/2))),ae g,(vI (((b.length/2):Nat):Int))] (ae i))(dC:Cp 273 [t.pv,ae c] (ae j))(dI:Cp 243 [t.pv,ae i,ae j] (ae k)):Cp 273 [t.pv,ae a] (ae k) :=
 eD func273 [1,1,1,1,1,1,1,1,6,6] [.q,.h 1 (.pv (ae b)),.h 1 (iL b),.f,.bx [.o,(iL b),(iI (((b.length/2):Nat):Int))],.h 2 (.pv (ae c)),.h 2 (.pv (vI d)),.f,dr 14 1 [.none,.none,.none,(.fM 0 (b.length/2) (((b.take (b.length/2)):Rs).map aq.cells)),.none,.none,(.fM (b.length/2) ((b:Rs).length) (((b.drop (b.length/2)):Rs).map aq.cells)),(.pv (ae g)),.none,(.pv (ae i)),.none,.none,(.pv (ae j)),(.pv (ae k))]] (PW h1 (aH aq.cells b) (aZ h2) (aH aq.cells b) (kD (y:=2) (by decide) h3) h4 h5 (dc h6) (jH bN (b:Rs) (rN (b.length/2)) h7) (uQ bN (b:Rs) (rN (b.length/2)) h8) h9 cE dC dI)
end qq
namespace CU
theorem e0(t:aU)(p q:bp)(a:Rs)(h1:Cp 186 [t.pv,p.pv,q.pv,(.fn 187)] (.bg [ae a,.ar])):Cp 129 [t.pv,p.pv,q.pv] (.bg [ae a,.ar]) :=
 eD func129 [] [.q,.h 3 (.pv (.bg [ae a,.ar]))] (y1 h1)
end CU
namespace Bd
theorem e0(t:aU)(p q:bp)(b c:Int)(h1:Cp 190 [t.pv,(an bp.cells [p,q])] .ar)(h2:Cp 188 [t.pv,ae p.x,ae q.x] (.bg [vI b,.ar]))(h3:Cp 188 [t.pv,ae p.y,ae q.y] (.bg [vI c,.ar]))(h4:b=0)(h5:c=0):Cp 132 [t.pv,p.pv,q.pv] (.bg [vB true,.ar]) :=
 eD func132 [3] [.q,.bx [.o,.o,.o,(.fM 0 0 (([p,q]:List bp).map bp.cells)),(.pv .ar)],.q,.a,.h 5 (.pv (.bg [vI b,.ar])),.q,.a,.h 5 (.pv (.bg [vI c,.ar])),.bx [.o,.o,.o,.o,.o,(.dec true),.o,.o,.o,(.dec true)]] (F4 (gA mM ([p,q]:List bp)) h1 h2 h3 (dG h4) (dG h4) (dG h4) (dG h5) (dG h5) (dG h5))
end Bd
namespace Fp
theorem e0(x y:aq)(of a:Rs)(h1:Cp 81 [x.pv] (ae of))(h2:Cp 81 [y.pv] (ae a)):Cp 159 [x.pv,y.pv] ((⟨of,a⟩:bp).pv) :=
 eD func159 [] [.q,dr 5 1 [.none,(.pv (ae of)),.none,(.pv (ae a))]] (y2 h1 h2)
end Fp
namespace tC
theorem e0(t:aU)(p q:bp)(b c:Rs)(h1:Cp 190 [t.pv,(an bp.cells [p,q])] .ar)(h2:ag aV 187 [.ptr 100000 0,.pv p.pv,.pv q.pv] [(100000,(.lit [(.pv (an lR t.roots)),(.pv .ar)]))] (.pv (ae b)) [(100000,(.lit [(.pv (an lR t.roots)),(.pv .ar)]))])(h3:ag aV 191 [.ptr 100000 0,.pv (ae b)] [(100000,(.lit [(.pv (an lR t.roots)),(.pv .ar)]))] (.pv (.bg [ae c,.ar])) [(100000,(.lit [(.pv (an lR t.roots)),(.pv .ar)]))]):Cp 186 [t.pv,p.pv,q.pv,(.fn 187)] (.bg [ae c,.ar]) :=
 eD func186 [3] [.q,.bx [.o,.o,.o,(.fM 0 0 (([p,q]:List bp).map bp.cells)),(.pv .ar)],.q,.a,.q,.bx [.o,.o,.o,.o,.o,(.bm [(22,100000)] none (.pv (ae b)) [(100000,(.lit [(.pv (an lR t.roots)),(.pv .ar)]))]),(.bm [(22,100000)] none (.pv (.bg [ae c,.ar])) [(100000,(.lit [(.pv (an lR t.roots)),(.pv .ar)]))])]] (y4 (gA mM ([p,q]:List bp)) h1 h2 h3)
end tC
namespace tD
theorem e0(t:aU)(p q:bp)(b c:Rs)(h1:Cp 190 [t.pv,(an bp.cells [p,q])] .ar)(h2:ag aV 246 [.ptr 100000 0,.pv p.pv,.pv q.pv] [(100000,(.lit [(.pv (an lR t.roots)),(.pv .ar)]))] (.pv (ae b)) [(100000,(.lit [(.pv (an lR t.roots)),(.pv .ar)]))])(h3:ag aV 191 [.ptr 100000 0,.pv (ae b)] [(100000,(.lit [(.pv (an lR t.roots)),(.pv .ar)]))] (.pv (.bg [ae c,.ar])) [(100000,(.lit [(.pv (an lR t.roots)),(.pv .ar)]))]):Cp 186 [t.pv,p.pv,q.pv,(.fn 246)] (.bg [ae c,.ar]) :=
 eD func186 [3] [.q,.bx [.o,.o,.o,(.fM 0 0 (([p,q]:List bp).map bp.cells)),(.pv .ar)],.q,.a,.q,.bx [.o,.o,.o,.o,.o,(.bm [(22,100000)] none (.pv (ae b)) [(100000,(.lit [(.pv (an lR t.roots)),(.pv .ar)]))]),(.bm [(22,100000)] none (.pv (.bg [ae c,.ar])) [(100000,(.lit [(.pv (an lR t.roots)),(.pv .ar)]))])]] (y4 (gA mM ([p,q]:List bp)) h1 h2 h3)
end tD
namespace uY
theorem e0(t:aU)(p q:bp)(a b c:Rs)(h1:ag aV 238 [.ptr 100000 0,.pv (ae p.x),.pv (ae q.x)] [(100000,(.lit [(.pv (an lR t.roots)),(.pv .ar)]))] (.pv (ae a)) [(100000,(.lit [(.pv (an lR t.roots)),(.pv .ar)]))])(h2:ag aV 238 [.ptr 100000 0,.pv (ae p.y),.pv (ae q.y)] [(100000,(.lit [(.pv (an lR t.roots)),(.pv .ar)]))] (.pv (ae b)) [(100000,(.lit [(.pv (an lR t.roots)),(.pv .ar)]))])(h3:ag aV 244 [.ptr 100000 0,.pv (ae a),.pv (ae b)] [(100000,(.lit [(.pv (an lR t.roots)),(.pv .ar)]))] (.pv (ae c)) [(100000,(.lit [(.pv (an lR t.roots)),(.pv .ar)]))]):ag aV 187 [(.ptr 100000 0),(.pv p.pv),(.pv q.pv)] [(100000,(.lit [(.pv (an lR t.roots)),(.pv .ar)]))] (.pv (ae c)) [(100000,(.lit [(.pv (an lR t.roots)),(.pv .ar)]))] :=
 lu func187 [] [.q,dr 14 1 [.none,.none,.none,.none,.none,.none,(.bm [(100000,100000)] none (.pv (ae a)) []),.none,.none,.none,.none,.none,(.bm [(100000,100000)] none (.pv (ae b)) []),(.bm [(100000,100000)] none (.pv (ae c)) [])],.drop [5,4],.ord [100000]] (y3 h1 h2 h3)
end uY
namespace Fq
theorem e0(t:aU)(b:aw)(x y:aq)(of c d:bp)(h1:Cp 236 [t.pv,(an lR [b.cos,b.sin,b.x,b.y])] .ar)(h2:Cp 159 [x.pv,y.pv] of.pv)(h3:Cp 209 [t.pv,ae b.cos,ae b.sin,of.pv] (.bg [c.pv,.ar]))(h4:Cp 245 [t.pv,c.pv,(⟨b.x,b.y⟩:bp).pv] (.bg [d.pv,.ar])):Cp 189 [t.pv,b.pv,x.pv,y.pv] (.bg [d.pv,.ar]) :=
 eD func189 [3] [.q,.bx [.o,.o,.o,.o,.o,.o,.o,.o,.o,(.fM 0 0 (([b.cos,b.sin,b.x,b.y]:List (Rs)).map lR)),(.pv .ar)],.q,.a,dr 14 1 [.none,.none,.none,.none,.none,.none,.none,(.pv of.pv),(.pv (.bg [c.pv,.ar]))],.q,.a,.h 7 (.pv (.bg [d.pv,.ar]))] (y5 (gA (pF aq.cells) ([b.cos,b.sin,b.x,b.y]:List (Rs))) h1 h2 h3 h4)
end Fq
namespace jO
@[reducible] def fn:Func:=Tryz.f190
def bM:List eh:=focus [0,2,0,2,0,0,2,0,0] [.code (aS fn)]
def inv1(zy:List (List aq))(l:List bp)(G8:Nat)(t:aU):St:=⟨[(2,(.ptr 2 0)),(5,(.row 20 0 zy.length 1)),(8,(.pv (an bp.cells l))),(9,(eI (l.length:Int))),(10,(eI (G8:Int)))],[(2,(.lit [(.pv (an (dF aq.cells) t.roots))])),(20,(.pure ((zy:List (List aq)).map (dF aq.cells)).flatten))]⟩
@[reducible] def ay(zy:List (List aq))(l:List bp)(G8:Nat)(t:aU)(r:PV):Prop:=L aV fn bM (inv1 zy l G8 t) r
theorem e0 (t : aU) (l : List bp) {r : PV}  (hL : ay [] l 0 t r) : Cp 190 [t.pv, an bp.cells l] r :=
 eG func190 [] [.q,.h 0 .nil,.r9 5 20 1,.h 1 (iL l),.aW [2,5,8,9,10],.ord [2,20]] (y1 (aH bp.cells l)) hL
theorem eu(b:List (Rs))(l:List bp)(c:Nat)(t:aU)(v:bp){r:PV}(h1:c<l.length)(h2:l[c]? = some v)(h3:((b++[v.x,v.y]):List (Rs)).length*24≤140737488355328)(h4:(c+1)<9223372036854775808)(hL:ay (b++[v.x,v.y]) l (c+1) t r):ay b l c t r :=
 lG [1,3,6] [.a,.q,.t,.h 0 (.row c (bp.cells v)),.h 6 (.app ((b++[v.x,v.y]):List (Rs)).length (((b++[v.x,v.y]):List (Rs)).map lR).flatten),.h 0 (iI (((c+1):Nat):Int)),.aW [2,5,8,9,10],.drop [19,7],.ord [2,20]] (y4 (aG h1) (bG bp.cells (rN c) h2) (ix (pF aq.cells) (b:List (Rs)) ([v.x,v.y]:List (Rs)) 24 (Eq.refl (b:List (Rs)).length) (Eq.refl ([v.x,v.y]:List (Rs)).length) h3 rfl) (bj h4)) hL
theorem dp(b:List (Rs))(l:List bp)(c:Nat)(t:aU)(h1:l.length≤c)(h2:Cp 236 [t.pv,(an lR b)] .ar):ay b l c t .ar :=
 lD [1,3] [.a,.q,.f,.jz 5 ((b:List (Rs)).map lR),.h 2 (.pv .ar)] (y3 (aL h1) (dJ (pF aq.cells) (b:List (Rs)) (Eq.refl (b:List (Rs)).length)) h2)
end jO
namespace ng
theorem e0 (t : aU) (x : Rs)  : ag aV 191 [(.ptr 100000 0), (.pv (ae x))] [(100000, (.lit [(.pv (an lR t.roots)), (.pv .ar)]))] (.pv (.bg [ae x, .ar])) [(100000, (.lit [(.pv (an lR t.roots)), (.pv .ar)]))] :=
 lu func191 [] [.q,.q,.a,.q,.ord [100000]] True.intro
end ng
namespace yu
theorem e0(t:aU)(p q:bp)(a:Rs)(h1:Cp 186 [t.pv,p.pv,q.pv,(.fn 246)] (.bg [ae a,.ar])):Cp 208 [t.pv,p.pv,q.pv] (.bg [ae a,.ar]) :=
 eD func208 [] [.q,.h 3 (.pv (.bg [ae a,.ar]))] (y1 h1)
end yu
namespace Be
theorem e0(t:aU)(b c:Rs)(p:bp)(d g i j k l:Rs)(m:bp)(h1:Cp 236 [t.pv,(an lR [b,c,p.x,p.y])] .ar)(h2:ag aV 238 [.ptr 100000 0,.pv (ae b),.pv (ae p.x)] [(100000,(.lit [(.pv (an lR t.roots)),(.pv .ar)]))] (.pv (ae d)) [(100000,(.lit [(.pv (an lR t.roots)),(.pv .ar)]))])(h3:ag aV 238 [.ptr 100000 0,.pv (ae c),.pv (ae p.y)] [(100000,(.lit [(.pv (an lR t.roots)),(.pv .ar)]))] (.pv (ae g)) [(100000,(.lit [(.pv (an lR t.roots)),(.pv .ar)]))])(h4:ag aV 264 [.ptr 100000 0,.pv (ae d),.pv (ae g)] [(100000,(.lit [(.pv (an lR t.roots)),(.pv .ar)]))] (.pv (ae i)) [(100000,(.lit [(.pv (an lR t.roots)),(.pv .ar)]))])(h5:ag aV 238 [.ptr 100000 0,.pv (ae c),.pv (ae p.x)] [(100000,(.lit [(.pv (an lR t.roots)),(.pv .ar)]))] (.pv (ae j)) [(100000,(.lit [(.pv (an lR t.roots)),(.pv .ar)]))])(h6:ag aV 238 [.ptr 100000 0,.pv (ae b),.pv (ae p.y)] [(100000,(.lit [(.pv (an lR t.roots)),(.pv .ar)]))] (.pv (ae k)) [(100000,(.lit [(.pv (an lR t.roots)),(.pv .ar)]))])(h7:ag aV 244 [.ptr 100000 0,.pv (ae j),.pv (ae k)] [(100000,(.lit [(.pv (an lR t.roots)),(.pv .ar)]))] (.pv (ae l)) [(100000,(.lit [(.pv (an lR t.roots)),(.pv .ar)]))])(h8:ag aV 237 [.ptr 100000 0,.pv (⟨i,l⟩:bp).pv] [(100000,(.lit [(.pv (an lR t.roots)),(.pv .ar)]))] (.pv (.bg [m.pv,.ar])) [(100000,(.lit [(.pv (an lR t.roots)),(.pv .ar)]))]):Cp 209 [t.pv,ae b,ae c,p.pv] (.bg [m.pv,.ar]) :=
 eD func209 [3] [.q,.bx [.o,.o,.o,.o,.o,.o,.o,(.fM 0 0 (([b,c,p.x,p.y]:List (Rs)).map lR)),(.pv .ar)],.q,.a,.q,dr 29 2 [.none,.none,.none,.none,.none,.none,(.bm [(27,100000)] none (.pv (ae d)) []),.none,.none,.none,.none,(.bm [(27,100000)] none (.pv (ae g)) []),(.bm [(27,100000)] none (.pv (ae i)) []),.none,.none,.none,.none,.none,(.bm [(27,100000)] none (.pv (ae j)) []),.none,.none,.none,.none,(.bm [(27,100000)] none (.pv (ae k)) []),(.bm [(27,100000)] none (.pv (ae l)) []),.none,(.bm [(27,100000)] none (.pv (.bg [m.pv,.ar])) [])]] (y9 (gA (pF aq.cells) ([b,c,p.x,p.y]:List (Rs))) h1 h2 h3 h4 h5 h6 h7 h8)
end Be
namespace yv
theorem e0(t:aU)(p:bp)(h1:Cp 190 [t.pv,(an bp.cells [p])] .ar):Cp 228 [t.pv,p.pv] .ar :=
 eD func228 [3] [.q,.bx [.o,.o,(.fM 0 0 (([p]:List bp).map bp.cells)),(.pv .ar)]] (y2 (gA mM ([p]:List bp)) h1)
end yv
namespace nz
@[reducible] def fn:Func:=Tryz.f236
def bM:List eh:=focus [0,2,0,0,2,0,2,1,2,0,0,2,0,0] [.code (aS fn)]
def inv1(l:List (List aq))(mQ:Nat)(t:aU):St:=⟨[(2,(.ptr 2 0)),(15,(.pv (an (dF aq.cells) l))),(16,(eI (l.length:Int))),(17,(eI (mQ:Int)))],[(2,(.lit [(.pv (an (dF aq.cells) t.roots))]))]⟩
@[reducible] def ay(l:List (List aq))(mQ:Nat)(t:aU)(r:PV):Prop:=L aV fn bM (inv1 l mQ t) r
theorem e0(t:aU)(l:List (Rs)){r:PV}(h1:Cp 86 [t.pv] .ar)(hL:ay l 0 t r):Cp 236 [t.pv,(an lR l)] r :=
 eG func236 [] [.q,.h 1 (.pv .ar),.q,.a,.h 1 (iL l),.aW [2,15,16,17]] (y2 h1 (aH lR l)) hL
theorem eu(l:List (Rs))(b:Nat)(t:aU)(v c:Rs){r:PV}(h1:b<l.length)(h2:l[b]? = some v)(h3:Cp 156 [t.pv,ae v] (.bg [ae c,.ar]))(h4:(b+1)<9223372036854775808)(hL:ay l (b+1) t r):ay l b t r :=
 lG [1,3] [.a,.q,.t,.h 0 (.row b (lR v)),.h 2 (.pv (.bg [ae c,.ar])),.q,.a,.h 0 (iI (((b+1):Nat):Int)),.aW [2,15,16,17]] (y4 (aG h1) (bG lR (rN b) h2) h3 (bj h4)) hL
theorem dp(l:List (Rs))(b:Nat)(t:aU)(h1:l.length≤b):ay l b t .ar :=
 lD [] [.a,.q,.f,.q] (y1 (aL h1))
end nz
namespace nU
theorem e0 (t : aU) (p : bp)  : ag aV 237 [(.ptr 100000 0), (.pv p.pv)] [(100000, (.lit [(.pv (an lR t.roots)), (.pv .ar)]))] (.pv (.bg [p.pv, .ar])) [(100000, (.lit [(.pv (an lR t.roots)), (.pv .ar)]))] :=
 ag.pE (pre:=[(4,(.lit [(.pv (ae p.x)),(.pv (ae p.y))]))]) (post:=[(100000,(.lit [(.pv (an lR t.roots)),(.pv .ar)]))]) (lu func237 [] [.q,.q,.a,.q,.drop [3],.ord [4,100000]] True.intro) rfl rfl
end nU
namespace uZ
theorem e0(t:aU)(a b c d:Rs)(h1:Cp 270 [t.pv,ae a,ae b] (.bg [ae c,.ar]))(h2:ag aV 272 [.ptr 100000 0,.pv (ae c),.pv .ar] [(100000,(.lit [(.pv (an lR t.roots)),(.pv .ar)]))] (.pv (ae d)) [(100000,(.lit [(.pv (an lR t.roots)),(.pv .ar)]))]):ag aV 238 [(.ptr 100000 0),(.pv (ae a)),(.pv (ae b))] [(100000,(.lit [(.pv (an lR t.roots)),(.pv .ar)]))] (.pv (ae d)) [(100000,(.lit [(.pv (an lR t.roots)),(.pv .ar)]))] :=
 lu func238 [] [.q,.bx [.o,.o,.o,.o,.o,.o,.o,(.pv (.bg [ae c,.ar])),.o,.o,(.bm [(100000,100000)] none (.pv (ae d)) [(100000,(.lit [(.pv (an lR t.roots)),(.pv .ar)]))])],.ord [100000]] (y2 h1 h2)
end uZ
namespace tE
theorem e0(t:aU)(p q:bp)(a b:Rs)(h1:ag aV 264 [.ptr 100000 0,.pv (ae p.x),.pv (ae q.x)] [(100000,(.lit [(.pv (an lR t.roots)),(.pv .ar)]))] (.pv (ae a)) [(100000,(.lit [(.pv (an lR t.roots)),(.pv .ar)]))])(h2:ag aV 264 [.ptr 100000 0,.pv (ae p.y),.pv (ae q.y)] [(100000,(.lit [(.pv (an lR t.roots)),(.pv .ar)]))] (.pv (ae b)) [(100000,(.lit [(.pv (an lR t.roots)),(.pv .ar)]))]):ag aV 239 [(.ptr 100000 0),(.pv p.pv),(.pv q.pv)] [(100000,(.lit [(.pv (an lR t.roots)),(.pv .ar)]))] (.pv (⟨a,b⟩:bp).pv) [(100000,(.lit [(.pv (an lR t.roots)),(.pv .ar)]))] :=
 ag.pE (pre:=[(6,(.lit [(.pv (ae a)),(.pv (ae b))]))]) (post:=[(100000,(.lit [(.pv (an lR t.roots)),(.pv .ar)]))]) (lu func239 [] [.q,dr 13 1 [.none,.none,.none,.none,.none,(.bm [(100000,100000)] none (.pv (ae a)) []),.none,.none,.none,.none,.none,(.bm [(100000,100000)] none (.pv (ae b)) [])],.drop [5,4],.ord [6,100000]] (y2 h1 h2)) rfl rfl
end tE
namespace u4
theorem e0(t:aU)(a b c d:Rs)(h1:Cp 269 [t.pv,ae a,ae b] (.bg [ae c,.ar]))(h2:ag aV 272 [.ptr 100000 0,.pv (ae c),.pv .ar] [(100000,(.lit [(.pv (an lR t.roots)),(.pv .ar)]))] (.pv (ae d)) [(100000,(.lit [(.pv (an lR t.roots)),(.pv .ar)]))]):ag aV 244 [(.ptr 100000 0),(.pv (ae a)),(.pv (ae b))] [(100000,(.lit [(.pv (an lR t.roots)),(.pv .ar)]))] (.pv (ae d)) [(100000,(.lit [(.pv (an lR t.roots)),(.pv .ar)]))] :=
 lu func244 [] [.q,.bx [.o,.o,.o,.o,.o,.o,.o,(.pv (.bg [ae c,.ar])),.o,.o,(.bm [(100000,100000)] none (.pv (ae d)) [(100000,(.lit [(.pv (an lR t.roots)),(.pv .ar)]))])],.ord [100000]] (y2 h1 h2)
end u4
namespace CV
theorem e0(t:aU)(p q:bp)(b c:Rs)(d:bp)(h1:Cp 190 [t.pv,(an bp.cells [p,q])] .ar)(h2:ag aV 244 [.ptr 100000 0,.pv (ae p.x),.pv (ae q.x)] [(100000,(.lit [(.pv (an lR t.roots)),(.pv .ar)]))] (.pv (ae b)) [(100000,(.lit [(.pv (an lR t.roots)),(.pv .ar)]))])(h3:ag aV 244 [.ptr 100000 0,.pv (ae p.y),.pv (ae q.y)] [(100000,(.lit [(.pv (an lR t.roots)),(.pv .ar)]))] (.pv (ae c)) [(100000,(.lit [(.pv (an lR t.roots)),(.pv .ar)]))])(h4:ag aV 237 [.ptr 100000 0,.pv (⟨b,c⟩:bp).pv] [(100000,(.lit [(.pv (an lR t.roots)),(.pv .ar)]))] (.pv (.bg [d.pv,.ar])) [(100000,(.lit [(.pv (an lR t.roots)),(.pv .ar)]))]):Cp 245 [t.pv,p.pv,q.pv] (.bg [d.pv,.ar]) :=
 eD func245 [3] [.q,.bx [.o,.o,.o,(.fM 0 0 (([p,q]:List bp).map bp.cells)),(.pv .ar)],.q,.a,.q,dr 17 2 [.none,.none,.none,.none,.none,.none,(.bm [(21,100000)] none (.pv (ae b)) []),.none,.none,.none,.none,.none,(.bm [(21,100000)] none (.pv (ae c)) []),.none,(.bm [(21,100000)] none (.pv (.bg [d.pv,.ar])) [])]] (y5 (gA mM ([p,q]:List bp)) h1 h2 h3 h4)
end CV
namespace sj
theorem e0(t:aU)(p q:bp)(a b c:Rs)(h1:ag aV 238 [.ptr 100000 0,.pv (ae p.x),.pv (ae q.y)] [(100000,(.lit [(.pv (an lR t.roots)),(.pv .ar)]))] (.pv (ae a)) [(100000,(.lit [(.pv (an lR t.roots)),(.pv .ar)]))])(h2:ag aV 238 [.ptr 100000 0,.pv (ae p.y),.pv (ae q.x)] [(100000,(.lit [(.pv (an lR t.roots)),(.pv .ar)]))] (.pv (ae b)) [(100000,(.lit [(.pv (an lR t.roots)),(.pv .ar)]))])(h3:ag aV 264 [.ptr 100000 0,.pv (ae a),.pv (ae b)] [(100000,(.lit [(.pv (an lR t.roots)),(.pv .ar)]))] (.pv (ae c)) [(100000,(.lit [(.pv (an lR t.roots)),(.pv .ar)]))]):ag aV 246 [(.ptr 100000 0),(.pv p.pv),(.pv q.pv)] [(100000,(.lit [(.pv (an lR t.roots)),(.pv .ar)]))] (.pv (ae c)) [(100000,(.lit [(.pv (an lR t.roots)),(.pv .ar)]))] :=
 lu func246 [] [.q,dr 14 1 [.none,.none,.none,.none,.none,.none,(.bm [(100000,100000)] none (.pv (ae a)) []),.none,.none,.none,.none,.none,(.bm [(100000,100000)] none (.pv (ae b)) []),(.bm [(100000,100000)] none (.pv (ae c)) [])],.drop [5,4],.ord [100000]] (y3 h1 h2 h3)
end sj
namespace u5
theorem e0(t:aU)(a b c d:Rs)(h1:Cp 265 [t.pv,ae a,ae b] (.bg [ae c,.ar]))(h2:ag aV 272 [.ptr 100000 0,.pv (ae c),.pv .ar] [(100000,(.lit [(.pv (an lR t.roots)),(.pv .ar)]))] (.pv (ae d)) [(100000,(.lit [(.pv (an lR t.roots)),(.pv .ar)]))]):ag aV 264 [(.ptr 100000 0),(.pv (ae a)),(.pv (ae b))] [(100000,(.lit [(.pv (an lR t.roots)),(.pv .ar)]))] (.pv (ae d)) [(100000,(.lit [(.pv (an lR t.roots)),(.pv .ar)]))] :=
 lu func264 [] [.q,.bx [.o,.o,.o,.o,.o,.o,.o,(.pv (.bg [ae c,.ar])),.o,.o,(.bm [(100000,100000)] none (.pv (ae d)) [(100000,(.lit [(.pv (an lR t.roots)),(.pv .ar)]))])],.ord [100000]] (y2 h1 h2)
end u5
namespace yw
theorem e0(t:aU)(p q b:bp)(c d:Rs)(h1:Cp 190 [t.pv,(an bp.cells [p,q])] .ar)(h2:ag aV 239 [.ptr 100000 0,.pv q.pv,.pv p.pv] [(100000,(.lit [(.pv (an lR t.roots)),(.pv .ar)]))] (.pv b.pv) [(100000,(.lit [(.pv (an lR t.roots)),(.pv .ar)]))])(h3:ag aV 187 [.ptr 100000 0,.pv b.pv,.pv b.pv] [(100000,(.lit [(.pv (an lR t.roots)),(.pv .ar)]))] (.pv (ae c)) [(100000,(.lit [(.pv (an lR t.roots)),(.pv .ar)]))])(h4:ag aV 191 [.ptr 100000 0,.pv (ae c)] [(100000,(.lit [(.pv (an lR t.roots)),(.pv .ar)]))] (.pv (.bg [ae d,.ar])) [(100000,(.lit [(.pv (an lR t.roots)),(.pv .ar)]))]):Cp 267 [t.pv,p.pv,q.pv] (.bg [ae d,.ar]) :=
 eD func267 [3] [.q,.bx [.o,.o,.o,(.fM 0 0 (([p,q]:List bp).map bp.cells)),(.pv .ar)],.q,.a,.q,.h 3 (.bm [(21,100000)] none (.pv b.pv) [(100000,(.lit [(.pv (an lR t.roots)),(.pv .ar)]))]),.bx [.o,.o,.o,.o,(.bm [(21,100000)] none (.pv (ae c)) [(100000,(.lit [(.pv (an lR t.roots)),(.pv .ar)]))]),(.bm [(21,100000)] none (.pv (.bg [ae d,.ar])) [(100000,(.lit [(.pv (an lR t.roots)),(.pv .ar)]))])]] (y5 (gA mM ([p,q]:List bp)) h1 h2 h3 h4)
end yw
namespace tF
theorem e0 (t : aU) (x : Rs)  : ag aV 272 [(.ptr 100000 0), (.pv (ae x)), (.pv .ar)] [(100000, (.lit [(.pv (an lR t.roots)), (.pv .ar)]))] (.pv (ae x)) [(100000, (.lit [(.pv (an lR t.roots)), (.pv .ar)]))] :=
 lu func272 [] [.q,.q,.a,.q,.q,.ord [100000]] True.intro
end tF
namespace wW
theorem e3(t:aU)(a b:cC)(c d:Rs)(g i:Int)(j k l m n p:Rs)(s:bp)(t1:aU)(u v w:Rs)(z:bp)(aa:Rs)(ab:bp)(ac:sD)(h1:Cp 215 [t.pv,(an cC.cells [a,b])] .ar)(h2:ag aV 216 [.ptr 100000 0,.pv a.pv,.pv b.pv] [(100000,(.lit [(.pv (an lR t.roots)),(.pv .ar)]))] (.pv (.bg [ae c,ae d])) [(100000,(.lit [(.pv (an lR t.roots)),(.pv .ar)]))])(h3:ag aV 217 [.ptr 100000 0,.pv (ae d)] [(100000,(.lit [(.pv (an lR t.roots)),(.pv .ar)]))] (.pv (vI g)) [(100000,(.lit [(.pv (an lR t.roots)),(.pv .ar)]))])(h4:g≠0)(h5:ag aV 217 [.ptr 100000 0,.pv (ae c)] [(100000,(.lit [(.pv (an lR t.roots)),(.pv .ar)]))] (.pv (vI i)) [(100000,(.lit [(.pv (an lR t.roots)),(.pv .ar)]))])(h6:0≤i)(h7:ag aV 220 [.ptr 100000 0,.pv (ae b.nS.x),.pv (ae a.nS.x)] [(100000,(.lit [(.pv (an lR t.roots)),(.pv .ar)]))] (.pv (ae j)) [(100000,(.lit [(.pv (an lR t.roots)),(.pv .ar)]))])(h8:ag aV 220 [.ptr 100000 0,.pv (ae b.nS.y),.pv (ae a.nS.y)] [(100000,(.lit [(.pv (an lR t.roots)),(.pv .ar)]))] (.pv (ae k)) [(100000,(.lit [(.pv (an lR t.roots)),(.pv .ar)]))])(h9:ag aV 221 [.ptr 100000 0,.pv (vI 2),.pv (ae d)] [(100000,(.lit [(.pv (an lR t.roots)),(.pv .ar)]))] (.pv (ae l)) [(100000,(.lit [(.pv (an lR t.roots)),(.pv .ar)]))])(cE:ag aV 224 [.ptr 100000 0,.pv (ae a.r2),.pv (ae d)] [(100000,(.lit [(.pv (an lR t.roots)),(.pv .ar)]))] (.pv (ae m)) [(100000,(.lit [(.pv (an lR t.roots)),(.pv .ar)]))])(dC:ag aV 220 [.ptr 100000 0,.pv (ae m),.pv (ae b.r2)] [(100000,(.lit [(.pv (an lR t.roots)),(.pv .ar)]))] (.pv (ae n)) [(100000,(.lit [(.pv (an lR t.roots)),(.pv .ar)]))])(dI:ag aV 223 [.ptr 100000 0,.pv (ae n),.pv (ae l)] [(100000,(.lit [(.pv (an lR t.roots)),(.pv .ar)]))] (.pv (ae p)) [(100000,(.lit [(.pv (an lR t.roots)),(.pv .ar)]))])(ep:ag aV 222 [.ptr 100000 0,.pv a.nS.pv,.pv (ae p),.pv (⟨j,k⟩:bp).pv] [(100000,(.lit [(.pv (an lR t.roots)),(.pv .ar)]))] (.pv s.pv) [(100000,(.lit [(.pv (an lR t.roots)),(.pv .ar)]))])(jq:i≠0)(ky:ag aV 225 [.ptr 100000 0,.pv (ae c)] [(100000,(.lit [(.pv (an lR t.roots)),(.pv .ar)]))] (.pv (ae u)) [(100000,(.lit [(.pv (an lR t1.roots)),(.pv .ar)]))])(mo:ag aV 223 [.ptr 100000 0,.pv (ae u),.pv (ae l)] [(100000,(.lit [(.pv (an lR t1.roots)),(.pv .ar)]))] (.pv (ae v)) [(100000,(.lit [(.pv (an lR t1.roots)),(.pv .ar)]))])(ie:ag aV 221 [.ptr 100000 0,.pv (vI (-1)),.pv (ae k)] [(100000,(.lit [(.pv (an lR t1.roots)),(.pv .ar)]))] (.pv (ae w)) [(100000,(.lit [(.pv (an lR t1.roots)),(.pv .ar)]))])(oS:ag aV 222 [.ptr 100000 0,.pv s.pv,.pv (ae v),.pv (⟨w,j⟩:bp).pv] [(100000,(.lit [(.pv (an lR t1.roots)),(.pv .ar)]))] (.pv z.pv) [(100000,(.lit [(.pv (an lR t1.roots)),(.pv .ar)]))])(A1:ag aV 221 [.ptr 100000 0,.pv (vI (-1)),.pv (ae v)] [(100000,(.lit [(.pv (an lR t1.roots)),(.pv .ar)]))] (.pv (ae aa)) [(100000,(.lit [(.pv (an lR t1.roots)),(.pv .ar)]))])(sF:ag aV 222 [.ptr 100000 0,.pv s.pv,.pv (ae aa),.pv (⟨w,j⟩:bp).pv] [(100000,(.lit [(.pv (an lR t1.roots)),(.pv .ar)]))] (.pv ab.pv) [(100000,(.lit [(.pv (an lR t1.roots)),(.pv .ar)]))])(KZ:ag aV 219 [.ptr 100000 0,.pv (an bp.cells [z,ab])] [(100000,(.lit [(.pv (an lR t1.roots)),(.pv .ar)]))] (.pv (.bg [ac.pv,.ar])) [(100000,(.lit [(.pv (an lR t1.roots)),(.pv .ar)]))]):Cp 164 [t.pv,a.pv,b.pv] (.bg [ac.pv,.ar]) :=
 eD func164 [3,1,1,1,1,1,1,1,1,1,1,1,1,1,1,1,1,1,1,1,1,3] [.q,.bx [.o,.o,.o,(.fM 0 0 (([a,b]:List cC).map cC.cells)),(.pv .ar)],.q,.a,.q,.h 3 (.bm [(29,100000)] none (.pv (.bg [ae c,ae d])) [(100000,(.lit [(.pv (an lR t.roots)),(.pv .ar)]))]),.h 2 (.bm [(29,100000)] none (.pv (vI g)) [(100000,(.lit [(.pv (an lR t.roots)),(.pv .ar)]))]),.f,.h 2 (.bm [(29,100000)] none (.pv (vI i)) [(100000,(.lit [(.pv (an lR t.roots)),(.pv .ar)]))]),.q,.f,dr 18 1 [.none,.none,.none,.none,.none,.none,.none,(.bm [(29,100000)] none (.pv (ae j)) []),.none,.none,.none,.none,.none,.none,.none,(.bm [(29,100000)] none (.pv (ae k)) [])],.h 2 (.bm [(29,100000)] none (.pv (ae l)) [(100000,(.lit [(.pv (an lR t.roots)),(.pv .ar)]))]),dr 18 1 [.none,.none,.none,.none,.none,.none,.none,.none,.none,(.bm [(29,100000)] none (.pv (ae m)) []),.none,.none,(.bm [(29,100000)] none (.pv (ae n)) []),.none,(.bm [(29,100000)] none (.pv (ae p)) []),.none,(.bm [(29,100000)] none (.pv s.pv) [])],.q,.f,.bx [.o,.o,.o,(.bm [(29,100000)] none (.pv (ae u)) [(100000,(.lit [(.pv (an lR t1.roots)),(.pv .ar)]))]),.o,(.bm [(29,100000)] none (.pv (ae v)) [(100000,(.lit [(.pv (an lR t1.roots)),(.pv .ar)]))])],dr 8 1 [.none,.none,.none,(.bm [(29,100000)] none (.pv (ae w)) [])],dr 17 2 [.none,.none,.none,.none,.none,(.bm [(29,100000)] none (.pv z.pv) []),.none,.none,.none,.none,(.bm [(29,100000)] none (.pv (ae aa)) []),.none,(.bm [(29,100000)] none (.pv ab.pv) []),(.fM 0 0 (([z,ab]:List bp).map bp.cells)),(.bm [(29,100000)] none (.pv (.bg [ac.pv,.ar])) [])]] (SI (gA GR ([a,b]:List cC)) h1 h2 h3 (dc h4) h5 (ah h6) h7 h8 h9 cE dC dI ep (dc jq) ky mo ie oS A1 sF (gA mM ([z,ab]:List bp)) KZ)
end wW
namespace o8
@[reducible] def fn:Func:=Tryz.f215
def bM:List eh:=focus [0,2,0,0,2,0,2,1,2,0,0,2,0,0] [.code (aS fn)]
def inv1(l:List cC)(rM:Nat)(t:aU):St:=⟨[(1,(.pv (an cC.cells l))),(2,(.ptr 2 0)),(14,(.pv (an cC.cells l))),(15,(eI (l.length:Int))),(16,(eI (rM:Int)))],[(2,(.lit [(.pv (an (dF aq.cells) t.roots))]))]⟩
@[reducible] def ay(l:List cC)(rM:Nat)(t:aU)(r:PV):Prop:=L aV fn bM (inv1 l rM t) r
theorem e0(t:aU)(l:List cC){r:PV}(h1:Cp 86 [t.pv] .ar)(hL:ay l 0 t r):Cp 215 [t.pv,an cC.cells l] r :=
 eG func215 [] [.q,.h 1 (.pv .ar),.q,.a,.h 1 (iL l),.aW [1,2,14,15,16]] (y2 h1 (aH cC.cells l)) hL
theorem eu(l:List cC)(b:Nat)(t:aU)(v:cC){r:PV}(h1:b<l.length)(h2:l[b]? = some v)(h3:Cp 227 [t.pv,v.pv] .ar)(h4:(b+1)<9223372036854775808)(hL:ay l (b+1) t r):ay l b t r :=
 lG [1,3] [.a,.q,.t,.h 0 (.row b (cC.cells v)),.h 2 (.pv .ar),.q,.a,.h 0 (iI (((b+1):Nat):Int)),.aW [1,2,14,15,16],.drop [7]] (y4 (aG h1) (bG cC.cells (rN b) h2) h3 (bj h4)) hL
theorem dp(l:List cC)(b:Nat)(t:aU)(h1:l.length≤b)(h2:Cp 229 [t.pv,an cC.cells l] .ar):ay l b t .ar :=
 lD [] [.a,.q,.f,.h 2 (.pv .ar)] (y2 (aL h1) h2)
end o8
namespace n8
theorem e0(t:aU)(a b:cC)(c d g i j k l m:Rs)(h1:Cp 267 [t.pv,a.nS.pv,b.nS.pv] (.bg [ae c,.ar]))(h2:ag aV 230 [.ptr 100000 0,.pv (ae c),.pv .ar] [(100000,(.lit [(.pv (an lR t.roots)),(.pv .ar)]))] (.pv (ae d)) [(100000,(.lit [(.pv (an lR t.roots)),(.pv .ar)]))])(h3:ag aV 224 [.ptr 100000 0,.pv (ae a.r2),.pv (ae d)] [(100000,(.lit [(.pv (an lR t.roots)),(.pv .ar)]))] (.pv (ae g)) [(100000,(.lit [(.pv (an lR t.roots)),(.pv .ar)]))])(h4:ag aV 220 [.ptr 100000 0,.pv (ae g),.pv (ae b.r2)] [(100000,(.lit [(.pv (an lR t.roots)),(.pv .ar)]))] (.pv (ae i)) [(100000,(.lit [(.pv (an lR t.roots)),(.pv .ar)]))])(h5:ag aV 231 [.ptr 100000 0,.pv (ae a.r2),.pv (ae d)] [(100000,(.lit [(.pv (an lR t.roots)),(.pv .ar)]))] (.pv (ae j)) [(100000,(.lit [(.pv (an lR t.roots)),(.pv .ar)]))])(h6:ag aV 221 [.ptr 100000 0,.pv (vI 4),.pv (ae j)] [(100000,(.lit [(.pv (an lR t.roots)),(.pv .ar)]))] (.pv (ae k)) [(100000,(.lit [(.pv (an lR t.roots)),(.pv .ar)]))])(h7:ag aV 231 [.ptr 100000 0,.pv (ae i),.pv (ae i)] [(100000,(.lit [(.pv (an lR t.roots)),(.pv .ar)]))] (.pv (ae l)) [(100000,(.lit [(.pv (an lR t.roots)),(.pv .ar)]))])(h8:ag aV 220 [.ptr 100000 0,.pv (ae k),.pv (ae l)] [(100000,(.lit [(.pv (an lR t.roots)),(.pv .ar)]))] (.pv (ae m)) [(100000,(.lit [(.pv (an lR t.roots)),(.pv .ar)]))]):ag aV 216 [(.ptr 100000 0),(.pv a.pv),(.pv b.pv)] [(100000,(.lit [(.pv (an lR t.roots)),(.pv .ar)]))] (.pv (.bg [ae m,ae d])) [(100000,(.lit [(.pv (an lR t.roots)),(.pv .ar)]))] :=
 lu func216 [] [.q,dr 13 1 [.none,.none,.none,.none,.none,.none,.none,.none,.none,(.pv (.bg [ae c,.ar])),.none,.none,(.bm [(100000,100000)] none (.pv (ae d)) [])],dr 9 1 [.none,.none,.none,.none,.none,(.bm [(100000,100000)] none (.pv (ae g)) []),.none,.none,(.bm [(100000,100000)] none (.pv (ae i)) [])],.bx [.o,.o,.o,.o,.o,.o,(.bm [(100000,100000)] none (.pv (ae j)) [(100000,(.lit [(.pv (an lR t.roots)),(.pv .ar)]))]),(.bm [(100000,100000)] none (.pv (ae k)) [(100000,(.lit [(.pv (an lR t.roots)),(.pv .ar)]))]),.o,.o,.o,(.bm [(100000,100000)] none (.pv (ae l)) [(100000,(.lit [(.pv (an lR t.roots)),(.pv .ar)]))]),(.bm [(100000,100000)] none (.pv (ae m)) [(100000,(.lit [(.pv (an lR t.roots)),(.pv .ar)]))])],.drop [5,4],.ord [100000]] (y8 h1 h2 h3 h4 h5 h6 h7 h8)
end n8
namespace sk
theorem e0(t:aU)(a:Rs)(b:Int)(h1:Cp 193 [t.pv,ae a] (.bg [vI b,.ar])):ag aV 217 [(.ptr 100000 0),(.pv (ae a))] [(100000,(.lit [(.pv (an lR t.roots)),(.pv .ar)]))] (.pv (vI b)) [(100000,(.lit [(.pv (an lR t.roots)),(.pv .ar)]))] :=
 lu func217 [] [.q,.q,.a,.h 5 (.pv (.bg [vI b,.ar])),.q,.q,.ord [100000]] (y1 h1)
end sk
namespace tG
theorem e0(t:aU)(l:List bp)(b:aU)(h1:ag aV 268 [.ptr 100000 0] [(100000,(.lit [(.pv (an lR t.roots)),(.pv .ar)]))] (.pv b.pv) [(100000,(.lit [(.pv (an lR t.roots)),(.pv .ar)]))]):ag aV 219 [(.ptr 100000 0),(.pv (an bp.cells l))] [(100000,(.lit [(.pv (an lR t.roots)),(.pv .ar)]))] (.pv (.bg [(⟨b,l⟩:sD).pv,.ar])) [(100000,(.lit [(.pv (an lR t.roots)),(.pv .ar)]))] :=
 ag.pE (pre:=[(4,(.lit [(.pv (an lR b.roots)),(.pv (an bp.cells l))]))]) (post:=[(100000,(.lit [(.pv (an lR t.roots)),(.pv .ar)]))]) (lu func219 [] [.q,.q,.a,.h 1 (.bm [(100000,100000)] none (.pv b.pv) [(100000,(.lit [(.pv (an lR t.roots)),(.pv .ar)]))]),.ord [4,100000]] (y1 h1)) rfl rfl
end tG
namespace tH
theorem e0(t:aU)(a b c d:Rs)(h1:Cp 265 [t.pv,ae a,ae b] (.bg [ae c,.ar]))(h2:ag aV 230 [.ptr 100000 0,.pv (ae c),.pv .ar] [(100000,(.lit [(.pv (an lR t.roots)),(.pv .ar)]))] (.pv (ae d)) [(100000,(.lit [(.pv (an lR t.roots)),(.pv .ar)]))]):ag aV 220 [(.ptr 100000 0),(.pv (ae a)),(.pv (ae b))] [(100000,(.lit [(.pv (an lR t.roots)),(.pv .ar)]))] (.pv (ae d)) [(100000,(.lit [(.pv (an lR t.roots)),(.pv .ar)]))] :=
 lu func220 [] [.q,.bx [.o,.o,.o,.o,.o,.o,.o,(.pv (.bg [ae c,.ar])),.o,.o,(.bm [(100000,100000)] none (.pv (ae d)) [(100000,(.lit [(.pv (an lR t.roots)),(.pv .ar)]))])],.ord [100000]] (y2 h1 h2)
end tH
namespace qJ
theorem e0(t:aU)(n:Int)(a:Rs)(of:aq)(b c:Rs)(h1:Cp 15 [vI n] of.pv)(h2:Cp 81 [of.pv] (ae b))(h3:ag aV 231 [.ptr 100000 0,.pv (ae b),.pv (ae a)] [(100000,(.lit [(.pv (an lR t.roots)),(.pv .ar)]))] (.pv (ae c)) [(100000,(.lit [(.pv (an lR t.roots)),(.pv .ar)]))]):ag aV 221 [(.ptr 100000 0),eI n,(.pv (ae a))] [(100000,(.lit [(.pv (an lR t.roots)),(.pv .ar)]))] (.pv (ae c)) [(100000,(.lit [(.pv (an lR t.roots)),(.pv .ar)]))] :=
 lu func221 [] [.q,.bx [.o,.o,(.pv of.pv),(.pv (ae b)),.o,(.bm [(100000,100000)] none (.pv (ae c)) [(100000,(.lit [(.pv (an lR t.roots)),(.pv .ar)]))])],.ord [100000]] (y3 h1 h2 h3)
end qJ
namespace qK
theorem e0(t:aU)(p:bp)(k:Rs)(v:bp)(a b c d:Rs)(h1:ag aV 231 [.ptr 100000 0,.pv (ae k),.pv (ae v.x)] [(100000,(.lit [(.pv (an lR t.roots)),(.pv .ar)]))] (.pv (ae a)) [(100000,(.lit [(.pv (an lR t.roots)),(.pv .ar)]))])(h2:ag aV 224 [.ptr 100000 0,.pv (ae p.x),.pv (ae a)] [(100000,(.lit [(.pv (an lR t.roots)),(.pv .ar)]))] (.pv (ae b)) [(100000,(.lit [(.pv (an lR t.roots)),(.pv .ar)]))])(h3:ag aV 231 [.ptr 100000 0,.pv (ae k),.pv (ae v.y)] [(100000,(.lit [(.pv (an lR t.roots)),(.pv .ar)]))] (.pv (ae c)) [(100000,(.lit [(.pv (an lR t.roots)),(.pv .ar)]))])(h4:ag aV 224 [.ptr 100000 0,.pv (ae p.y),.pv (ae c)] [(100000,(.lit [(.pv (an lR t.roots)),(.pv .ar)]))] (.pv (ae d)) [(100000,(.lit [(.pv (an lR t.roots)),(.pv .ar)]))]):ag aV 222 [(.ptr 100000 0),(.pv p.pv),(.pv (ae k)),(.pv v.pv)] [(100000,(.lit [(.pv (an lR t.roots)),(.pv .ar)]))] (.pv (⟨b,d⟩:bp).pv) [(100000,(.lit [(.pv (an lR t.roots)),(.pv .ar)]))] :=
 ag.pE (pre:=[(8,(.lit [(.pv (ae b)),(.pv (ae d))]))]) (post:=[(100000,(.lit [(.pv (an lR t.roots)),(.pv .ar)]))]) (lu func222 [] [.q,dr 19 1 [.none,.none,.none,.none,.none,.none,.none,(.bm [(100000,100000)] none (.pv (ae a)) []),(.bm [(100000,100000)] none (.pv (ae b)) []),.none,.none,.none,.none,.none,.none,.none,(.bm [(100000,100000)] none (.pv (ae c)) []),(.bm [(100000,100000)] none (.pv (ae d)) [])],.drop [7,5],.ord [8,100000]] (y4 h1 h2 h3 h4)) rfl rfl
end qK
namespace tI
theorem e0(t:aU)(a b c d:Rs)(h1:Cp 240 [t.pv,ae a,ae b] (.bg [ae c,.ar]))(h2:ag aV 230 [.ptr 100000 0,.pv (ae c),.pv .ar] [(100000,(.lit [(.pv (an lR t.roots)),(.pv .ar)]))] (.pv (ae d)) [(100000,(.lit [(.pv (an lR t.roots)),(.pv .ar)]))]):ag aV 223 [(.ptr 100000 0),(.pv (ae a)),(.pv (ae b))] [(100000,(.lit [(.pv (an lR t.roots)),(.pv .ar)]))] (.pv (ae d)) [(100000,(.lit [(.pv (an lR t.roots)),(.pv .ar)]))] :=
 lu func223 [] [.q,.bx [.o,.o,.o,.o,.o,.o,.o,(.pv (.bg [ae c,.ar])),.o,.o,(.bm [(100000,100000)] none (.pv (ae d)) [(100000,(.lit [(.pv (an lR t.roots)),(.pv .ar)]))])],.ord [100000]] (y2 h1 h2)
end tI
namespace tJ
theorem e0(t:aU)(a b c d:Rs)(h1:Cp 269 [t.pv,ae a,ae b] (.bg [ae c,.ar]))(h2:ag aV 230 [.ptr 100000 0,.pv (ae c),.pv .ar] [(100000,(.lit [(.pv (an lR t.roots)),(.pv .ar)]))] (.pv (ae d)) [(100000,(.lit [(.pv (an lR t.roots)),(.pv .ar)]))]):ag aV 224 [(.ptr 100000 0),(.pv (ae a)),(.pv (ae b))] [(100000,(.lit [(.pv (an lR t.roots)),(.pv .ar)]))] (.pv (ae d)) [(100000,(.lit [(.pv (an lR t.roots)),(.pv .ar)]))] :=
 lu func224 [] [.q,.bx [.o,.o,.o,.o,.o,.o,.o,(.pv (.bg [ae c,.ar])),.o,.o,(.bm [(100000,100000)] none (.pv (ae d)) [(100000,(.lit [(.pv (an lR t.roots)),(.pv .ar)]))])],.ord [100000]] (y2 h1 h2)
end tJ
namespace pV
theorem e0(t:aU)(d:Rs)(b:aU)(c:Rs)(h1:Cp 172 [t.pv,ae d] (.bg [b.pv,ae c,.ar])):ag aV 225 [(.ptr 100000 0),(.pv (ae d))] [(100000,(.lit [(.pv (an lR t.roots)),(.pv .ar)]))] (.pv (ae c)) [(100000,(.lit [(.pv (an lR b.roots)),(.pv .ar)]))] :=
 lu func225 [] [.q,.q,.a,.h 5 (.pv (.bg [b.pv,ae c,.ar])),.q,.a,.q,.q,.drop [5],.ord [100000]] (y1 h1)
end pV
namespace qL
theorem e0(t:aU)(c:cC)(b:Rs)(h1:Cp 228 [t.pv,c.nS.pv] .ar)(h2:Cp 156 [t.pv,ae c.r2] (.bg [ae b,.ar])):Cp 227 [t.pv,c.pv] .ar :=
 eD func227 [] [.q,.h 3 (.pv .ar),.q,.a,.h 3 (.pv (.bg [ae b,.ar])),.q] (y2 h1 h2)
end qL
namespace nA
@[reducible] def fn:Func:=Tryz.f229
def bM:List eh:=focus [0,2,0,0,2,0,0] [.code (aS fn)]
def inv1(l:List cC)(G2:Nat)(t:aU):St:=⟨[(2,(.ptr 2 0)),(9,(.pv (an cC.cells l))),(10,(eI (l.length:Int))),(11,(eI (G2:Int)))],[(2,(.lit [(.pv (an (dF aq.cells) t.roots))]))]⟩
@[reducible] def ay(l:List cC)(G2:Nat)(t:aU)(r:PV):Prop:=L aV fn bM (inv1 l G2 t) r
theorem e0 (t : aU) (l : List cC) {r : PV}  (hL : ay l 0 t r) : Cp 229 [t.pv, an cC.cells l] r :=
 eG func229 [] [.q,.h 1 (iL l),.aW [2,9,10,11]] (y1 (aH cC.cells l)) hL
theorem dp(l:List cC)(b:Nat)(t:aU)(v:cC)(c:Int){r:PV}(h1:b<l.length)(h2:l[b]? = some v)(h3:Cp 193 [t.pv,ae v.r2] (.bg [vI c,.ar]))(h4:0≤c)(h5:(b+1)<9223372036854775808)(hL:ay l (b+1) t r):ay l b t r :=
 lG [1,3] [.a,.q,.t,.h 0 (.row b (cC.cells v)),.h 3 (.pv (.bg [vI c,.ar])),.q,.a,.q,.f,.h 0 (iI (((b+1):Nat):Int)),.aW [2,9,10,11],.drop [6]] (y5 (aG h1) (bG cC.cells (rN b) h2) h3 (ah h4) (bj h5)) hL
theorem im(l:List cC)(b:Nat)(t:aU)(h1:l.length≤b):ay l b t .ar :=
 lD [] [.a,.q,.f,.q] (y1 (aL h1))
end nA
namespace sl
theorem e0 (t : aU) (x : Rs)  : ag aV 230 [(.ptr 100000 0), (.pv (ae x)), (.pv .ar)] [(100000, (.lit [(.pv (an lR t.roots)), (.pv .ar)]))] (.pv (ae x)) [(100000, (.lit [(.pv (an lR t.roots)), (.pv .ar)]))] :=
 lu func230 [] [.q,.q,.a,.q,.q,.ord [100000]] True.intro
end sl
namespace tK
theorem e0(t:aU)(a b c d:Rs)(h1:Cp 270 [t.pv,ae a,ae b] (.bg [ae c,.ar]))(h2:ag aV 230 [.ptr 100000 0,.pv (ae c),.pv .ar] [(100000,(.lit [(.pv (an lR t.roots)),(.pv .ar)]))] (.pv (ae d)) [(100000,(.lit [(.pv (an lR t.roots)),(.pv .ar)]))]):ag aV 231 [(.ptr 100000 0),(.pv (ae a)),(.pv (ae b))] [(100000,(.lit [(.pv (an lR t.roots)),(.pv .ar)]))] (.pv (ae d)) [(100000,(.lit [(.pv (an lR t.roots)),(.pv .ar)]))] :=
 lu func231 [] [.q,.bx [.o,.o,.o,.o,.o,.o,.o,(.pv (.bg [ae c,.ar])),.o,.o,(.bm [(100000,100000)] none (.pv (ae d)) [(100000,(.lit [(.pv (an lR t.roots)),(.pv .ar)]))])],.ord [100000]] (y2 h1 h2)
end tK
namespace hH
@[reducible] def fn:Func:=Tryz.f268
def bM:List eh:=focus [0,2,0,2,0,0,2,0,0] [.code (aS fn)]
def inv1(t:aU)(kM:Nat)(oh:List (List aq)):St:=⟨[(2,(.ptr 2 0)),(3,(.ptr 3 0)),(13,(.pv (an (dF aq.cells) t.roots))),(14,(eI (t.roots.length:Int))),(15,(eI (kM:Int)))],[(2,(.lit [(.pv (.list []))])),(3,(.lit [(.row 36 0 oh.length 1)])),(36,(.pure ((oh:List (List aq)).map (dF aq.cells)).flatten)),(100000,(.lit [(.pv (an (dF aq.cells) t.roots)),(.pv .ar)]))]⟩
@[reducible] def ay(t:aU)(kM:Nat)(oh:List (List aq))(sin:aY)(r:EV)(sout:aY):Prop:=LX aV fn bM (inv1 t kM oh) sin r sout
def mP:List eh:=focus [0,2,0,2,0,0,2,0,0,0,0,2,0,0,2,0,0,0,2,0,2,0,0,2,0,0] [.code (aS fn)]
def inv2(zA:List aq)(t:aU)(kM:Nat)(v:List aq)(Ha:Nat)(oh:List (List aq)):St:=⟨[(2,(.ptr 2 0)),(3,(.ptr 3 0)),(6,(.row 30 0 zA.length 3)),(13,(.pv (an (dF aq.cells) t.roots))),(14,(eI (t.roots.length:Int))),(15,(eI (kM:Int))),(19,(.pv (ae v))),(20,(eI (v.length:Int))),(21,(eI (Ha:Int)))],[(2,(.lit [(.pv (.list []))])),(3,(.lit [(.row 36 0 oh.length 1)])),(30,(.pure ((zA:List aq).map aq.cells).flatten)),(36,(.pure ((oh:List (List aq)).map (dF aq.cells)).flatten)),(100000,(.lit [(.pv (an (dF aq.cells) t.roots)),(.pv .ar)]))]⟩
@[reducible] def bS(zA:List aq)(t:aU)(kM:Nat)(v:List aq)(Ha:Nat)(oh:List (List aq))(sin:aY)(r:EV)(sout:aY):Prop:=LX aV fn mP (inv2 zA t kM v Ha oh) sin r sout
theorem e0 (t : aU) {r : EV} {sout : aY}  (hL : ay t 0 [] [(100000, (.lit [(.pv (an lR t.roots)), (.pv .ar)]))] r sout) : ag aV 268 [(.ptr 100000 0)] [(100000, (.lit [(.pv (an lR t.roots)), (.pv .ar)]))] r sout :=
 AT func268 [] [.q,.h 0 .nil,.oJ 3 0 36 1,.h 5 (iL t.roots),.aW [2,3,13,14,15],.ord [2,3,36,100000]] (y1 (aH lR t.roots)) hL
theorem eu(t:aU)(b:Nat)(c:List (Rs))(v:Rs){r:EV}{sout:aY}{sin:aY}(hs:dX fn sin)(h1:b<t.roots.length)(h2:t.roots[b]? = some v)(hL:bS [] t b v 0 c sin r sout):ay t b c sin r sout :=
 sI [1,3] [.a,.q,.t,.h 0 (.row b (lR v)),.h 0 .nil,.r9 6 30 3,.h 1 (iL v),.aW [2,3,6,13,14,15,19,20,21],.ord [2,3,30,36,100000]] hs (y3 (aG h1) (bG lR (rN b) h2) (aH aq.cells v)) hL
theorem dp(t:aU)(b:Nat)(c:List (Rs)){sin:aY}(hs:dX fn sin)(hi:sin.all (fun p=>nP p.1||(aY.get [(2,(.lit [(.pv (an lR c))])),(100000,(.lit [(.pv (an lR t.roots)),(.pv .ar)]))] p.1).isSome)=true)(h1:t.roots.length≤b):ay t b c sin (.pv (⟨c⟩:aU).pv) [(2,(.lit [(.pv (an lR c))])),(100000,(.lit [(.pv (an lR t.roots)),(.pv .ar)]))] :=
 vP [1,3] [.a,.q,.f,.wC 3 0 ((c:List (Rs)).map lR),.q,.drop [3],.ord [2,100000]] hs hi (y2 (aL h1) (dJ (pF aq.cells) (c:List (Rs)) (Eq.refl (c:List (Rs)).length)))
theorem yn(b:Rs)(t:aU)(c:Nat)(v:Rs)(d:Nat)(g:List (Rs))(v1 i:aq){r:EV}{sout:aY}{sin:aY}(hs:dX fn sin)(h1:d<v.length)(h2:v[d]? = some v1)(h3:Cp 58 [v1.pv,(⟨false,[],[]⟩:aq).pv] i.pv)(h4:((b++[i]):Rs).length*56≤140737488355328)(h5:(d+1)<9223372036854775808)(hL:bS (b++[i]) t c v (d+1) g sin r sout):bS b t c v d g sin r sout :=
 sI [1,3,1,6] [.a,.q,.t,.h 0 (.row d (aq.cells v1)),.bx [.o,.o,.o,(.pv i.pv),.o,(.app ((b++[i]):Rs).length (((b++[i]):Rs).map aq.cells).flatten)],.h 0 (iI (((d+1):Nat):Int)),.aW [2,3,6,13,14,15,19,20,21],.drop [29,8],.ord [2,3,30,36,100000]] hs (y5 (aG h1) (bG aq.cells (rN d) h2) h3 (ix bN (b:Rs) ([i]:Rs) 56 (Eq.refl (b:Rs).length) (Eq.refl ([i]:Rs).length) h4 rfl) (bj h5)) hL
theorem zf(b:Rs)(t:aU)(c:Nat)(v:Rs)(d:Nat)(g:List (Rs)){r:EV}{sout:aY}{sin:aY}(hs:dX fn sin)(h1:v.length≤d)(h2:((g++[b]):List (Rs)).length*24≤140737488355328)(h3:(c+1)<9223372036854775808)(hL:ay t (c+1) (g++[b]) sin r sout):bS b t c v d g sin r sout :=
 sI [1,3,6] [.a,.q,.f,.jz 6 ((b:Rs).map aq.cells),.h 4 (.app ((g++[b]):List (Rs)).length (((g++[b]):List (Rs)).map lR).flatten),.h 0 (iI (((c+1):Nat):Int)),.aW [2,3,13,14,15],.drop [35],.ord [2,3,36,100000]] hs (y4 (aL h1) (dJ bN (b:Rs) (Eq.refl (b:Rs).length)) (ix (pF aq.cells) (g:List (Rs)) ([b]:List (Rs)) 24 (Eq.refl (g:List (Rs)).length) (Eq.refl ([b]:List (Rs)).length) h2 rfl) (bj h3)) hL
end hH
end Go.Proofs.YtneklnlpgfeplaaGreat.Sym.Path
end
