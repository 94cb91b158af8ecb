/- Lemmas for the statements of this seat. -/
import Derived.Test.YtllmkadmohkbfaaGreatDoorU0
noncomputable section
namespace Go.Proofs.YtllmkadmohkbfaaGreatDoor.Sym.Path
open Go Tryz
set_option maxRecDepth 20000
set_option linter.unusedVariables false
namespace fM
theorem e0(a:aH)(b:Int)(h1:Cp 83 [ae a.p] (vI b))(h2:b≠0):Cp 24 [a.pv] (vI b) :=
 eD func24 90 [1,1] [.q,.h 2 (.pv (vI b)),.q,.t,.q] (y2 h1 (lx h2))
theorem e1(a:aH)(b:Int)(c:Rs)(d:Int)(g:Rs)(i:Int)(h1:Cp 83 [ae a.p] (vI b))(h2:b=0)(h3:Cp 84 [ae a.p] (.aB [ae c,vI d]))(h4:Cp 85 [ae a.p,ae c] (.aB [ae g,vI i]))(h5:g.length≠1):Cp 24 [a.pv] (vI 2) :=
 eD func24 117 [1,1,1,1,1,1] [.q,.h 2 (.pv (vI b)),.q,.f,.h 2 (.pv (.aB [ae c,vI d])),.h 3 (.pv (.aB [ae g,vI i])),.h 1 (iI (g.length:Int)),.t,.q] (y6 h1 (gf h2) h3 h4 (an af.cells g) (ko h5))
theorem e2(a:aH)(b:Int)(c:Rs)(d:Int)(g:Rs)(i:Int)(j:Bool)(k:Int)(h1:Cp 83 [ae a.p] (vI b))(h2:b=0)(h3:Cp 84 [ae a.p] (.aB [ae c,vI d]))(h4:Cp 85 [ae a.p,ae c] (.aB [ae g,vI i]))(h5:g.length=1)(h6:Cp 86 [ae a.p,a.rV.pv] (.aB [vB j,vI k]))(h7:j=false):Cp 24 [a.pv] (vI 14) :=
 eD func24 138 [1,1,1,1,1,1,1,1] [.q,.h 2 (.pv (vI b)),.q,.f,.h 2 (.pv (.aB [ae c,vI d])),.h 3 (.pv (.aB [ae g,vI i])),.h 1 (iI (g.length:Int)),.f,.h 4 (.pv (.aB [vB j,vI k])),.q,.t,.q] (y8 h1 (gf h2) h3 h4 (an af.cells g) (iJ h5) h6 (cv h7))
theorem e3(a:aH)(b:Int)(c:Rs)(d:Int)(g:Rs)(i:Int)(j:Bool)(k:Int)(h1:Cp 83 [ae a.p] (vI b))(h2:b=0)(h3:Cp 84 [ae a.p] (.aB [ae c,vI d]))(h4:Cp 85 [ae a.p,ae c] (.aB [ae g,vI i]))(h5:g.length=1)(h6:Cp 86 [ae a.p,a.rV.pv] (.aB [vB j,vI k]))(h7:j=true):Cp 24 [a.pv] (vI 0) :=
 eD func24 141 [1,1,1,1,1,1,1,1] [.q,.h 2 (.pv (vI b)),.q,.f,.h 2 (.pv (.aB [ae c,vI d])),.h 3 (.pv (.aB [ae g,vI i])),.h 1 (iI (g.length:Int)),.f,.h 4 (.pv (.aB [vB j,vI k])),.q,.f,.q] (y8 h1 (gf h2) h3 h4 (an af.cells g) (iJ h5) h6 (aO h7))
end fM
namespace ra
theorem e0(x a b of:af)(h1:Cp 70 [x.pv,(⟨false,[],[]⟩:af).pv] a.pv)(h2:Cp 88 [a.pv] b.pv)(h3:Cp 89 [vI 1] of.pv):Cp 27 [x.pv] ((⟨[b,of],(⟨a,a⟩:ai)⟩:aH).pv) :=
 eD func27 78 [1,1,1,3] [.q,.h 2 (.pv a.pv),dr 8 1 [.none,(.pv b.pv),(.pv of.pv),(.js 0 0 (([b,of]:Rs).map af.cells))]] (y4 h1 h2 h3 (jY aX ([b,of]:Rs)))
end ra
namespace gx
theorem e0(a:aH)(b c:af)(d:Int)(h1:Cp 226 [a.rV.pv] b.pv)(h2:Cp 208 [ae a.p,b.pv] c.pv)(h3:Cp 124 [c.pv] (vI d))(h4:d=0):Cp 142 [a.pv] ((⟨a.p,(⟨b,b⟩:ai)⟩:aH).pv) :=
 eD func142 105 [1,1,1,1] [.q,.h 2 (.pv b.pv),.aR [.o,.o,.o,(.pv c.pv),(.pv (vI d))],.q,.t,.q,.q] (y4 h1 h2 h3 (a8 h4))
theorem e1(a:aH)(b c:af)(d:Int)(g:af)(i:Int)(h1:Cp 226 [a.rV.pv] b.pv)(h2:Cp 208 [ae a.p,b.pv] c.pv)(h3:Cp 124 [c.pv] (vI d))(h4:d≠0)(h5:Cp 208 [ae a.p,a.rV.lo.pv] g.pv)(h6:Cp 124 [g.pv] (vI i))(h7:d=i):Cp 142 [a.pv] ((⟨a.p,(⟨b,a.rV.hi⟩:ai)⟩:aH).pv) :=
 eD func142 114 [1,1,1,1,1,1,1] [.q,.h 2 (.pv b.pv),.aR [.o,.o,.o,(.pv c.pv),(.pv (vI d))],.q,.f,.aR [.o,.o,.o,.o,.o,.o,(.pv g.pv),(.pv (vI i))],.t,.q,.q] (y7 h1 h2 h3 (bg h4) h5 h6 (a8 h7))
theorem e2(a:aH)(b c:af)(d:Int)(g:af)(i:Int)(h1:Cp 226 [a.rV.pv] b.pv)(h2:Cp 208 [ae a.p,b.pv] c.pv)(h3:Cp 124 [c.pv] (vI d))(h4:d≠0)(h5:Cp 208 [ae a.p,a.rV.lo.pv] g.pv)(h6:Cp 124 [g.pv] (vI i))(h7:d≠i):Cp 142 [a.pv] ((⟨a.p,(⟨a.rV.lo,b⟩:ai)⟩:aH).pv) :=
 eD func142 114 [1,1,1,1,1,1,1] [.q,.h 2 (.pv b.pv),.aR [.o,.o,.o,(.pv c.pv),(.pv (vI d))],.q,.f,.aR [.o,.o,.o,.o,.o,.o,(.pv g.pv),(.pv (vI i))],.f,.q,.q] (y7 h1 h2 h3 (bg h4) h5 h6 (bg h7))
end gx
namespace fQ
theorem e0(p:Rs)(a:aH)(h1:p.length=0):Cp 205 [ae p,a.pv] (vB true) :=
 eD func205 84 [1,1] [.q,.h 1 (iI (p.length:Int)),.t,.q] (y2 (an af.cells p) (aN h1))
theorem e1(p:Rs)(a:aH)(b:Int)(c:af)(d:Int)(h1:p.length≠0)(h2:Cp 69 [a.rV.lo.pv,a.rV.hi.pv] (vI b))(h3:b=0)(h4:Cp 208 [ae p,a.rV.lo.pv] c.pv)(h5:Cp 124 [c.pv] (vI d)):Cp 205 [ae p,a.pv] (vB (d==0)) :=
 eD func205 99 [1,1,1,1,1,1] [.q,.h 1 (iI (p.length:Int)),.f,.h 6 (.pv (vI b)),.t,.aR [.o,.o,.o,.o,(.pv c.pv),(.pv (vI d))]] (y6 (an af.cells p) (aA h1) h2 (a8 h3) h4 h5)
theorem e2(p:Rs)(a:aH)(b:Int)(c:Rs)(d g i:Int)(h1:p.length≠0)(h2:Cp 69 [a.rV.lo.pv,a.rV.hi.pv] (vI b))(h3:b≠0)(h4:Cp 85 [ae p,ae a.p] (.aB [ae c,vI d]))(h5:Cp 207 [ae c,a.rV.lo.pv,a.rV.hi.pv] (.aB [vI g,vI i])):Cp 205 [ae p,a.pv] (vB (decide (g>0))) :=
 eD func205 114 [1,1,1,1,1,1] [.q,.h 1 (iI (p.length:Int)),.f,.h 6 (.pv (vI b)),.f,.h 3 (.pv (.aB [ae c,vI d])),.h 7 (.pv (.aB [vI g,vI i])),.q] (y6 (an af.cells p) (aA h1) h2 (bg h3) h4 h5)
end fQ
namespace dA
@[reducible] def fn:Func:=Tryz.f123
def a7:List eH:=focus [0,2,0,0,2,1,2,0,0] [.code (ay fn)]
def inv1(p:List af)(cx:aH):St:=⟨[(0,(.pv (ae p))),(3,(.ptr 3 0))],[(3,(.lit [(.pv (ae cx.p)),(eB cx.rV.lo.neg),(.pv (aa cx.rV.lo.num)),(.pv (aa cx.rV.lo.den)),(eB cx.rV.hi.neg),(.pv (aa cx.rV.hi.num)),(.pv (aa cx.rV.hi.den))]))]⟩
@[reducible] def ah(p:List af)(cx:aH)(r:PV):Prop:=L bp fn a7 (inv1 p cx) r
theorem e0(p:Rs)(a:aH)(b:Bool)(h1:Cp 205 [ae p,a.pv] (vB b))(h2:b=true):Cp 123 [ae p,a.pv] (vI 0) :=
 eD func123 84 [1,1] [.q,.h 2 (.pv (vB b)),.t,.q] (y2 h1 h2)
theorem e1(p:Rs)(a:aH)(b:Bool){r:PV}(h1:Cp 205 [ae p,a.pv] (vB b))(h2:b=false)(hL:ah p a r):Cp 123 [ae p,a.pv] r :=
 eG func123 87 [1,1] [.q,.h 2 (.pv (vB b)),.f,.aF [0,3]] (y2 h1 h2) hL
theorem l10(p:Rs)(b:aH)(c:ai)(d g:Int)(i:Bool)(h1:Cp 209 [ae p,b.rV.pv] (.aB [c.pv,vI d]))(h2:Cp 210 [c.pv] (.aB [vI g,vB i]))(h3:i=true):ah p b (vI g) :=
 lD 123 [1,1,1] [.a,.h 3 (.pv (.aB [c.pv,vI d])),.h 1 (.pv (.aB [vI g,vB i])),.q,.t,.q] (y3 h1 h2 h3)
theorem cR(p:Rs)(b:aH)(c:ai)(d g:Int)(i:Bool)(j:aH){r:PV}(h1:Cp 209 [ae p,b.rV.pv] (.aB [c.pv,vI d]))(h2:Cp 210 [c.pv] (.aB [vI g,vB i]))(h3:i=false)(h4:Cp 142 [b.pv] j.pv)(hL:ah p j r):ah p b r :=
 lG 126 [1,1,1,1] [.a,.h 3 (.pv (.aB [c.pv,vI d])),.h 1 (.pv (.aB [vI g,vB i])),.q,.f,.h 1 (.pv j.pv),.aF [0,3],.drop [5]] (y4 h1 h2 h3 h4) hL
end dA
namespace nC
theorem e0(a:aH)(x:af)(of:aH)(b:Int)(h1:Cp 27 [x.pv] of.pv)(h2:Cp 123 [ae of.p,a.pv] (vI b)):Cp 72 [a.pv,x.pv] (vI b) :=
 eD func72 72 [1,1] [.q,dr 5 1 [.none,(.pv of.pv),.none,.none,(.pv (vI b))]] (y2 h1 h2)
end nC
namespace cb
@[reducible] def fn:Func:=Tryz.f122
def a7:List eH:=focus [0,2,0,2,0,0] [.code (ay fn)]
def inv1(gcd:List af)(dz cx:aH):St:=⟨[(2,(.ptr 2 0)),(3,(.ptr 3 0)),(5,(.pv (ae gcd)))],[(2,(.lit [(.pv (ae dz.p)),(eB dz.rV.lo.neg),(.pv (aa dz.rV.lo.num)),(.pv (aa dz.rV.lo.den)),(eB dz.rV.hi.neg),(.pv (aa dz.rV.hi.num)),(.pv (aa dz.rV.hi.den))])),(3,(.lit [(.pv (ae cx.p)),(eB cx.rV.lo.neg),(.pv (aa cx.rV.lo.num)),(.pv (aa cx.rV.lo.den)),(eB cx.rV.hi.neg),(.pv (aa cx.rV.hi.num)),(.pv (aa cx.rV.hi.den))]))]⟩
@[reducible] def ah(gcd:List af)(dz cx:aH)(r:PV):Prop:=L bp fn a7 (inv1 gcd dz cx) r
theorem e0(a b:aH)(c:Rs)(d:Int){r:PV}(h1:Cp 85 [ae a.p,ae b.p] (.aB [ae c,vI d]))(hL:ah c a b r):Cp 122 [a.pv,b.pv] r :=
 eG func122 78 [1] [.q,.h 4 (.pv (.aB [ae c,vI d])),.aF [2,3,5],.ord [2,3]] (y1 h1) hL
theorem l10(b:Rs)(c d:aH)(g:Int)(h1:Cp 69 [c.rV.hi.pv,d.rV.lo.pv] (vI g))(h2:g<0):ah b c d (vI (-1)) :=
 lD 102 [1,1] [.a,.h 6 (.pv (vI g)),.t,.q] (y2 h1 (bR h2))
theorem cR(b:Rs)(c d:aH)(g i:Int)(h1:Cp 69 [c.rV.hi.pv,d.rV.lo.pv] (vI g))(h2:0≤g)(h3:Cp 69 [d.rV.hi.pv,c.rV.lo.pv] (vI i))(h4:i<0):ah b c d (vI 1) :=
 lD 117 [1,1,1,1] [.a,.h 6 (.pv (vI g)),.f,.h 6 (.pv (vI i)),.t,.q] (y4 h1 (bf h2) h3 (bR h4))
theorem kM(b:Rs)(c d:aH)(g i j k:Int)(h1:Cp 69 [c.rV.hi.pv,d.rV.lo.pv] (vI g))(h2:0≤g)(h3:Cp 69 [d.rV.hi.pv,c.rV.lo.pv] (vI i))(h4:0≤i)(h5:Cp 69 [d.rV.lo.pv,d.rV.hi.pv] (vI j))(h6:j=0)(h7:Cp 72 [c.pv,d.rV.lo.pv] (vI k)):ah b c d (vI k) :=
 lD 132 [1,1,1,1,1,1,1] [.a,.h 6 (.pv (vI g)),.f,.h 6 (.pv (vI i)),.f,.h 6 (.pv (vI j)),.t,.h 4 (.pv (vI k))] (y7 h1 (bf h2) h3 (bf h4) h5 (a8 h6) h7)
theorem tq(b:Rs)(c d:aH)(g i j k l:Int)(h1:Cp 69 [c.rV.hi.pv,d.rV.lo.pv] (vI g))(h2:0≤g)(h3:Cp 69 [d.rV.hi.pv,c.rV.lo.pv] (vI i))(h4:0≤i)(h5:Cp 69 [d.rV.lo.pv,d.rV.hi.pv] (vI j))(h6:j≠0)(h7:Cp 69 [c.rV.lo.pv,c.rV.hi.pv] (vI k))(h8:k=0)(h9:Cp 72 [d.pv,c.rV.lo.pv] (vI l))(dh:ax (-l)):ah b c d (vI (-l)) :=
 lD 147 [1,1,1,1,1,1,1,1,1,1] [.a,.h 6 (.pv (vI g)),.f,.h 6 (.pv (vI i)),.f,.h 6 (.pv (vI j)),.f,.h 6 (.pv (vI k)),.t,.aR [.o,.o,.o,.o,(.pv (vI l)),(iI (-l))]] (F8 h1 (bf h2) h3 (bf h4) h5 (bg h6) h7 (a8 h8) h9 (x6 dh))
theorem Ew(b:Rs)(c d:aH)(g i j k:Int)(l m:Bool)(n:ai)(p s:Int)(u:af)(v:Int)(h1:Cp 69 [c.rV.hi.pv,d.rV.lo.pv] (vI g))(h2:0≤g)(h3:Cp 69 [d.rV.hi.pv,c.rV.lo.pv] (vI i))(h4:0≤i)(h5:Cp 69 [d.rV.lo.pv,d.rV.hi.pv] (vI j))(h6:j≠0)(h7:Cp 69 [c.rV.lo.pv,c.rV.hi.pv] (vI k))(h8:k≠0)(h9:Cp 205 [ae b,c.pv] (vB l))(dh:l=true)(gb:Cp 205 [ae b,d.pv] (vB m))(kh:m=true)(pB:Cp 206 [c.rV.pv,d.rV.pv] n.pv)(uL:Cp 207 [ae b,n.lo.pv,n.hi.pv] (.aB [vI p,vI s]))(oO:p=1)(yD:Cp 208 [ae b,n.lo.pv] u.pv)(Ad:Cp 124 [u.pv] (vI v))(Ju:v≠0):ah b c d (vI 0) :=
 lD 183 [1,1,1,1,1,1,1,1,1,1,1,1,1,1,1,1,1,1,1,1,1,1,1,1,1,1,1] [.a,.h 6 (.pv (vI g)),.f,.h 6 (.pv (vI i)),.f,.h 6 (.pv (vI j)),.f,.h 6 (.pv (vI k)),.f,.aR [.o,.o,(.pv (vB l)),.o,.o,.o,(.pv (vB m)),(.dec true)],.t,.h 4 (.pv n.pv),.h 5 (.pv (.aB [vI p,vI s])),.aR [.o,.o,.o,.o,.o,.o,(.pv u.pv),(.pv (vI v)),.o,(.dec true)],.t,.q] (Ys h1 (bf h2) h3 (bf h4) h5 (bg h6) h7 (bg h8) h9 dh dh dh gb dh kh pB uL (a8 oO) (a8 oO) (a8 oO) (a8 oO) yD (a8 oO) Ad (a8 oO) (a8 oO) (lx Ju))
theorem TW(b:Rs)(c d:aH)(g i j k:Int)(l m:Bool)(n:ai)(p q:Int)(s:af)(u:Int)(v w:aH){r:PV}(h1:Cp 69 [c.rV.hi.pv,d.rV.lo.pv] (vI g))(h2:0≤g)(h3:Cp 69 [d.rV.hi.pv,c.rV.lo.pv] (vI i))(h4:0≤i)(h5:Cp 69 [d.rV.lo.pv,d.rV.hi.pv] (vI j))(h6:j≠0)(h7:Cp 69 [c.rV.lo.pv,c.rV.hi.pv] (vI k))(h8:k≠0)(h9:Cp 205 [ae b,c.pv] (vB l))(dh:l=true)(gb:Cp 205 [ae b,d.pv] (vB m))(kh:m=true)(pB:Cp 206 [c.rV.pv,d.rV.pv] n.pv)(uL:Cp 207 [ae b,n.lo.pv,n.hi.pv] (.aB [vI p,vI q]))(oO:p=1)(yD:Cp 208 [ae b,n.lo.pv] s.pv)(Ad:Cp 124 [s.pv] (vI u))(Ju:u=0)(Ic:Cp 142 [c.pv] v.pv)(Rm:Cp 142 [d.pv] w.pv)(hL:ah b v w r):ah b c d r :=
 lG 186 [1,1,1,1,1,1,1,1,1,1,1,1,1,1,1,1,1,1,1,1,1,1,1,1,1,1,1,1,1] [.a,.h 6 (.pv (vI g)),.f,.h 6 (.pv (vI i)),.f,.h 6 (.pv (vI j)),.f,.h 6 (.pv (vI k)),.f,.aR [.o,.o,(.pv (vB l)),.o,.o,.o,(.pv (vB m)),(.dec true)],.t,.h 4 (.pv n.pv),.h 5 (.pv (.aB [vI p,vI q])),.aR [.o,.o,.o,.o,.o,.o,(.pv s.pv),(.pv (vI u)),.o,(.dec true)],.f,dr 4 2 [.none,(.pv v.pv),.none,(.pv w.pv)],.aF [2,3,5],.drop [7]] (ZT h1 (bf h2) h3 (bf h4) h5 (bg h6) h7 (bg h8) h9 dh dh dh gb dh kh pB uL (a8 oO) (a8 oO) (a8 oO) (a8 oO) yD (a8 oO) Ad (a8 oO) (a8 oO) (gf Ju) Ic Rm) hL
theorem WM(b:Rs)(c d:aH)(g i j k:Int)(l m:Bool)(n:ai)(p q:Int)(s u:aH){r:PV}(h1:Cp 69 [c.rV.hi.pv,d.rV.lo.pv] (vI g))(h2:0≤g)(h3:Cp 69 [d.rV.hi.pv,c.rV.lo.pv] (vI i))(h4:0≤i)(h5:Cp 69 [d.rV.lo.pv,d.rV.hi.pv] (vI j))(h6:j≠0)(h7:Cp 69 [c.rV.lo.pv,c.rV.hi.pv] (vI k))(h8:k≠0)(h9:Cp 205 [ae b,c.pv] (vB l))(dh:l=true)(gb:Cp 205 [ae b,d.pv] (vB m))(kh:m=true)(pB:Cp 206 [c.rV.pv,d.rV.pv] n.pv)(uL:Cp 207 [ae b,n.lo.pv,n.hi.pv] (.aB [vI p,vI q]))(oO:p≠1)(yD:Cp 142 [c.pv] s.pv)(Ad:Cp 142 [d.pv] u.pv)(hL:ah b s u r):ah b c d r :=
 lG 186 [1,1,1,1,1,1,1,1,1,1,1,1,1,1,1,1,1,1,1,1,1,1,1,1,1,1] [.a,.h 6 (.pv (vI g)),.f,.h 6 (.pv (vI i)),.f,.h 6 (.pv (vI j)),.f,.h 6 (.pv (vI k)),.f,.aR [.o,.o,(.pv (vB l)),.o,.o,.o,(.pv (vB m)),(.dec true)],.t,.h 4 (.pv n.pv),.h 5 (.pv (.aB [vI p,vI q])),.aR [.o,.o,.o,.skip,.skip,.skip,.skip,.skip,.skip,(.dec false)],.a,dr 4 2 [.none,(.pv s.pv),.none,(.pv u.pv)],.aF [2,3,5],.drop [7]] (Yr h1 (bf h2) h3 (bf h4) h5 (bg h6) h7 (bg h8) h9 dh dh dh gb dh kh pB uL (bg oO) (bg oO) (bg oO) (bg oO) (bg oO) (bg oO) (bg oO) yD Ad) hL
theorem Z5(b:Rs)(c d:aH)(g i j k:Int)(l m:Bool)(n p:aH){r:PV}(h1:Cp 69 [c.rV.hi.pv,d.rV.lo.pv] (vI g))(h2:0≤g)(h3:Cp 69 [d.rV.hi.pv,c.rV.lo.pv] (vI i))(h4:0≤i)(h5:Cp 69 [d.rV.lo.pv,d.rV.hi.pv] (vI j))(h6:j≠0)(h7:Cp 69 [c.rV.lo.pv,c.rV.hi.pv] (vI k))(h8:k≠0)(h9:Cp 205 [ae b,c.pv] (vB l))(dh:l=true)(gb:Cp 205 [ae b,d.pv] (vB m))(kh:m=false)(pB:Cp 142 [c.pv] n.pv)(uL:Cp 142 [d.pv] p.pv)(hL:ah b n p r):ah b c d r :=
 lG 165 [1,1,1,1,1,1,1,1,1,1,1,1,1,1,1,1,1] [.a,.h 6 (.pv (vI g)),.f,.h 6 (.pv (vI i)),.f,.h 6 (.pv (vI j)),.f,.h 6 (.pv (vI k)),.f,.aR [.o,.o,(.pv (vB l)),.o,.o,.o,(.pv (vB m)),(.dec true)],.f,dr 4 2 [.none,(.pv n.pv),.none,(.pv p.pv)],.aF [2,3,5]] (P4 h1 (bf h2) h3 (bf h4) h5 (bg h6) h7 (bg h8) h9 dh dh dh gb dh kh pB uL) hL
theorem Z6(b:Rs)(c d:aH)(g i j k:Int)(l:Bool)(m n:aH){r:PV}(h1:Cp 69 [c.rV.hi.pv,d.rV.lo.pv] (vI g))(h2:0≤g)(h3:Cp 69 [d.rV.hi.pv,c.rV.lo.pv] (vI i))(h4:0≤i)(h5:Cp 69 [d.rV.lo.pv,d.rV.hi.pv] (vI j))(h6:j≠0)(h7:Cp 69 [c.rV.lo.pv,c.rV.hi.pv] (vI k))(h8:k≠0)(h9:Cp 205 [ae b,c.pv] (vB l))(dh:l=false)(gb:Cp 142 [c.pv] m.pv)(kh:Cp 142 [d.pv] n.pv)(hL:ah b m n r):ah b c d r :=
 lG 165 [1,1,1,1,1,1,1,1,1,1,1,1,1,1,1] [.a,.h 6 (.pv (vI g)),.f,.h 6 (.pv (vI i)),.f,.h 6 (.pv (vI j)),.f,.h 6 (.pv (vI k)),.f,.aR [.o,.o,(.pv (vB l)),.o,.skip,.skip,.skip,(.dec false)],.a,dr 4 2 [.none,(.pv m.pv),.none,(.pv n.pv)],.aF [2,3,5]] (KL h1 (bf h2) h3 (bf h4) h5 (bg h6) h7 (bg h8) h9 dh dh dh dh gb kh) hL
end cb
namespace jy
theorem e0(a b:aH)(c:Int)(h1:Cp 24 [a.pv] (vI c))(h2:c≠0):Cp 53 [a.pv,b.pv] (.aB [vI 0,vI c]) :=
 eD func53 90 [1,1] [.q,.h 1 (.pv (vI c)),.q,.t,.q] (y2 h1 (lx h2))
theorem e1(a b:aH)(c d:Int)(h1:Cp 24 [a.pv] (vI c))(h2:c=0)(h3:Cp 24 [b.pv] (vI d))(h4:d≠0):Cp 53 [a.pv,b.pv] (.aB [vI 0,vI d]) :=
 eD func53 111 [1,1,1,1] [.q,.h 1 (.pv (vI c)),.q,.f,.h 1 (.pv (vI d)),.q,.t,.q] (y4 h1 (gf h2) h3 (lx h4))
theorem e2(a b:aH)(c d g:Int)(h1:Cp 24 [a.pv] (vI c))(h2:c=0)(h3:Cp 24 [b.pv] (vI d))(h4:d=0)(h5:Cp 122 [a.pv,b.pv] (vI g)):Cp 53 [a.pv,b.pv] (.aB [vI g,vI 0]) :=
 eD func53 114 [1,1,1,1,1] [.q,.h 1 (.pv (vI c)),.q,.f,.h 1 (.pv (vI d)),.q,.f,.h 2 (.pv (vI g))] (y5 h1 (gf h2) h3 (gf h4) h5)
end jy
namespace br
@[reducible] def fn:Func:=Tryz.f68
def a7:List eH:=focus [0,2,0,0] [.code (ay fn)]
def inv1(bits:Int)(dz:aH):St:=⟨[(1,(eI bits)),(2,(.ptr 2 0)),(4,(.ptr 4 0))],[(2,(.lit [(.pv (ae dz.p)),(eB dz.rV.lo.neg),(.pv (aa dz.rV.lo.num)),(.pv (aa dz.rV.lo.den)),(eB dz.rV.hi.neg),(.pv (aa dz.rV.hi.num)),(.pv (aa dz.rV.hi.den))])),(4,(.lit [(eB false),(.pv (.list [])),(.pv (.list [])),(eB false),(.pv (.list [])),(.pv (.list []))]))]⟩
@[reducible] def ah(bits:Int)(dz:aH)(r:PV):Prop:=L bp fn a7 (inv1 bits dz) r
theorem e0 (a : aH) (b : Int) {r : PV}  (hL : ah b a r) : Cp 68 [a.pv, vI b] r :=
 eG func68 72 [] [.q,.aF [1,2,4],.ord [2,4]] True.intro hL
theorem l10(b:Int)(c:aH)(d:af)(g:Int)(i j:af)(k:Int)(h1:Cp 140 [c.rV.lo.pv,vI b] (.aB [d.pv,vI g]))(h2:Cp 71 [vI b] i.pv)(h3:Cp 70 [d.pv,i.pv] j.pv)(h4:Cp 72 [c.pv,d.pv] (vI k))(h5:k=0):ah b c ((⟨d,d⟩:ai).pv) :=
 lD 114 [1,1,1,1,1] [.a,.h 4 (.pv (.aB [d.pv,vI g])),.h 1 (.pv i.pv),.h 2 (.pv j.pv),.h 2 (.pv (vI k)),.t,.q] (y5 h1 h2 h3 h4 (a8 h5))
theorem cR(b:Int)(c:aH)(d:af)(g:Int)(i j:af)(k l:Int)(h1:Cp 140 [c.rV.lo.pv,vI b] (.aB [d.pv,vI g]))(h2:Cp 71 [vI b] i.pv)(h3:Cp 70 [d.pv,i.pv] j.pv)(h4:Cp 72 [c.pv,d.pv] (vI k))(h5:k≠0)(h6:Cp 72 [c.pv,j.pv] (vI l))(h7:l=0):ah b c ((⟨j,j⟩:ai).pv) :=
 lD 138 [1,1,1,1,1,1,1] [.a,.h 4 (.pv (.aB [d.pv,vI g])),.h 1 (.pv i.pv),.h 2 (.pv j.pv),.h 2 (.pv (vI k)),.f,.h 2 (.pv (vI l)),.q,.t,.q] (y7 h1 h2 h3 h4 (bg h5) h6 (a8 h7))
theorem kM(b:Int)(c:aH)(d:af)(g:Int)(i j:af)(k l:Int)(h1:Cp 140 [c.rV.lo.pv,vI b] (.aB [d.pv,vI g]))(h2:Cp 71 [vI b] i.pv)(h3:Cp 70 [d.pv,i.pv] j.pv)(h4:Cp 72 [c.pv,d.pv] (vI k))(h5:k≠0)(h6:Cp 72 [c.pv,j.pv] (vI l))(h7:l≠0)(h8:l=(-1)):ah b c ((⟨d,j⟩:ai).pv) :=
 lD 147 [1,1,1,1,1,1,1,1] [.a,.h 4 (.pv (.aB [d.pv,vI g])),.h 1 (.pv i.pv),.h 2 (.pv j.pv),.h 2 (.pv (vI k)),.f,.h 2 (.pv (vI l)),.q,.f,.q,.t,.q] (y8 h1 h2 h3 h4 (bg h5) h6 (bg h7) (a8 h8))
theorem tq(b:Int)(c:aH)(d:af)(g:Int)(i j:af)(k l:Int)(m:af)(n:Int){r:PV}(h1:Cp 140 [c.rV.lo.pv,vI b] (.aB [d.pv,vI g]))(h2:Cp 71 [vI b] i.pv)(h3:Cp 70 [d.pv,i.pv] j.pv)(h4:Cp 72 [c.pv,d.pv] (vI k))(h5:k≠0)(h6:Cp 72 [c.pv,j.pv] (vI l))(h7:l≠0)(h8:l≠(-1))(h9:Cp 141 [c.rV.pv] m.pv)(dh:Cp 69 [m.pv,i.pv] (vI n))(gb:n≤0)(hL:ah b (⟨c.p,(⟨j,c.rV.hi⟩:ai)⟩:aH) r):ah b c r :=
 lG 162 [1,1,1,1,1,1,1,1,1,1,1] [.a,.h 4 (.pv (.aB [d.pv,vI g])),.h 1 (.pv i.pv),.h 2 (.pv j.pv),.h 2 (.pv (vI k)),.f,.h 2 (.pv (vI l)),.q,.f,.q,.f,dr 6 0 [.none,.none,(.pv m.pv),.none,(.pv (vI n))],.t,.q,.aF [1,2,4],.drop [8,7,5]] (Dg h1 h2 h3 h4 (bg h5) h6 (bg h7) (bg h8) h9 dh (fo gb)) hL
theorem Ew(b:Int)(c:aH)(d:af)(g:Int)(i j:af)(k l:Int)(m:af)(n:Int)(o:aH){r:PV}(h1:Cp 140 [c.rV.lo.pv,vI b] (.aB [d.pv,vI g]))(h2:Cp 71 [vI b] i.pv)(h3:Cp 70 [d.pv,i.pv] j.pv)(h4:Cp 72 [c.pv,d.pv] (vI k))(h5:k≠0)(h6:Cp 72 [c.pv,j.pv] (vI l))(h7:l≠0)(h8:l≠(-1))(h9:Cp 141 [c.rV.pv] m.pv)(dh:Cp 69 [m.pv,i.pv] (vI n))(gb:0<n)(kh:Cp 142 [c.pv] o.pv)(hL:ah b o r):ah b c r :=
 lG 162 [1,1,1,1,1,1,1,1,1,1,1,1] [.a,.h 4 (.pv (.aB [d.pv,vI g])),.h 1 (.pv i.pv),.h 2 (.pv j.pv),.h 2 (.pv (vI k)),.f,.h 2 (.pv (vI l)),.q,.f,.q,.f,dr 6 0 [.none,.none,(.pv m.pv),.none,(.pv (vI n))],.f,.h 1 (.pv o.pv),.aF [1,2,4],.drop [8,7,5]] (KK h1 h2 h3 h4 (bg h5) h6 (bg h7) (bg h8) h9 dh (gM gb) kh) hL
end br
namespace fN
@[reducible] def fn:Func:=Tryz.f71
def a7:List eH:=focus [0,2,0,2,0,2,0,0,2,0,0] [.code (ay fn)]
def inv1(bits:Int)(sK:Nat)(cx TX:af):St:=⟨[(2,(.ptr 2 0)),(3,(.ptr 3 0)),(4,(.ptr 4 0)),(7,(eI bits)),(8,(eI (sK:Int)))],[(2,(.lit [(eB false),(.pv (.list [])),(.pv (.list []))])),(3,(.lit [(eB cx.neg),(.pv (aa cx.num)),(.pv (aa cx.den))])),(4,(.lit [(eB TX.neg),(.pv (aa TX.num)),(.pv (aa TX.den))]))]⟩
@[reducible] def ah(bits:Int)(sK:Nat)(cx TX:af)(r:PV):Prop:=L bp fn a7 (inv1 bits sK cx TX) r
theorem e0(a:Int)(of b:af){r:PV}(h1:Cp 89 [vI 1] of.pv)(h2:Cp 89 [vI 2] b.pv)(hL:ah a 0 of b r):Cp 71 [vI a] r :=
 eG func71 93 [1,1] [.q,.h 0 (.pv of.pv),.h 0 (.pv b.pv),.q,.aF [2,3,4,7,8],.ord [2,3,4]] (y2 h1 h2) hL
theorem l10(b:Int)(c:Nat)(d g i:af)(j:Int){r:PV}(h1:(c:Int)<b)(h2:Cp 148 [d.pv,g.pv] (.aB [i.pv,vI j]))(h3:(c+1)<9223372036854775808)(hL:ah b (c+1) i g r):ah b c d g r :=
 lG 126 [1,1,1] [.a,.q,.t,.h 2 (.pv (.aB [i.pv,vI j])),.h 0 (iI (((c+1):Nat):Int)),.aF [2,3,4,7,8]] (y3 (bR h1) h2 (aM h3)) hL
theorem cR(b:Int)(c:Nat)(d g:af)(h1:b≤(c:Int)):ah b c d g d.pv :=
 lD 126 [1] [.a,.q,.f,.q] (y1 (bf h1))
end fN
namespace gy
theorem e0(a:aH)(b c:Int)(h1:Cp 24 [a.pv] (vI c))(h2:c≠0):Cp 15 [a.pv,vI b] (.aB [(⟨(⟨false,[],[]⟩:af),(⟨false,[],[]⟩:af)⟩:ai).pv,vI c]) :=
 eD func15 90 [1,1] [.q,.h 1 (.pv (vI c)),.q,.t,.q] (y2 h1 (lx h2))
theorem e1(a:aH)(b c:Int)(h1:Cp 24 [a.pv] (vI c))(h2:c=0)(h3:b<0):Cp 15 [a.pv,vI b] (.aB [(⟨(⟨false,[],[]⟩:af),(⟨false,[],[]⟩:af)⟩:ai).pv,vI 3]) :=
 eD func15 105 [1,1,1,1,1] [.q,.h 1 (.pv (vI c)),.q,.f,.aR [.o,.o,.o,.skip,.skip,(.dec true)],.a,.q] (y5 h1 (gf h2) (bR h3) (bR h3) (bR h3))
theorem e2(a:aH)(b c:Int)(h1:Cp 24 [a.pv] (vI c))(h2:c=0)(h3:0≤b)(h4:64<b):Cp 15 [a.pv,vI b] (.aB [(⟨(⟨false,[],[]⟩:af),(⟨false,[],[]⟩:af)⟩:ai).pv,vI 3]) :=
 eD func15 105 [1,1,1,1,1,1] [.q,.h 1 (.pv (vI c)),.q,.f,.h 5 (.dec false),.t,.q] (y6 h1 (gf h2) (bf h3) (bf h3) (bf h3) (bR h4))
theorem e3(a:aH)(b c:Int)(d:ai)(h1:Cp 24 [a.pv] (vI c))(h2:c=0)(h3:0≤b)(h4:b≤64)(h5:Cp 68 [a.pv,vI b] d.pv):Cp 15 [a.pv,vI b] (.aB [d.pv,vI 0]) :=
 eD func15 108 [1,1,1,1,1,1,1] [.q,.h 1 (.pv (vI c)),.q,.f,.h 5 (.dec false),.f,.h 2 (.pv d.pv)] (y7 h1 (gf h2) (bf h3) (bf h3) (bf h3) (bf h4) h5)
end gy
namespace bB
@[reducible] def fn:Func:=Tryz.f16
def a7:List eH:=focus [0,2,0,2,0,0,2,1,2,0,0,2,1,2,0,0,2,0,0] [.code (ay fn)]
def inv1(Ry:Nat)(a b:aH):St:=⟨[(2,(.ptr 2 0)),(3,(.ptr 3 0)),(4,(.ptr 4 0)),(24,(eI (Ry:Int)))],[(2,(.lit [(.pv (ae a.p)),(eB a.rV.lo.neg),(.pv (aa a.rV.lo.num)),(.pv (aa a.rV.lo.den)),(eB a.rV.hi.neg),(.pv (aa a.rV.hi.num)),(.pv (aa a.rV.hi.den))])),(3,(.lit [(.pv (ae b.p)),(eB b.rV.lo.neg),(.pv (aa b.rV.lo.num)),(.pv (aa b.rV.lo.den)),(eB b.rV.hi.neg),(.pv (aa b.rV.hi.num)),(.pv (aa b.rV.hi.den))])),(4,(.lit [(eB false),(.pv (.list [])),(.pv (.list []))]))]⟩
@[reducible] def ah(Ry:Nat)(a b:aH)(r:PV):Prop:=L bp fn a7 (inv1 Ry a b) r
theorem e0(a b:aH)(c d:Int)(h1:Cp 53 [a.pv,b.pv] (.aB [vI c,vI d]))(h2:d≠0):Cp 16 [a.pv,b.pv] (.aB [(⟨false,[],[]⟩:af).pv,vI d]) :=
 eD func16 90 [1,1] [.q,.h 2 (.pv (.aB [vI c,vI d])),.q,.t,.q] (y2 h1 (lx h2))
theorem e1(a b:aH)(c d:Int)(h1:Cp 53 [a.pv,b.pv] (.aB [vI c,vI d]))(h2:d=0)(h3:0≤c):Cp 16 [a.pv,b.pv] (.aB [(⟨false,[],[]⟩:af).pv,vI 3]) :=
 eD func16 105 [1,1,1] [.q,.h 2 (.pv (.aB [vI c,vI d])),.q,.f,.q,.t,.q] (y3 h1 (gf h2) (fo h3))
theorem e2(a b:aH)(c d:Int){r:PV}(h1:Cp 53 [a.pv,b.pv] (.aB [vI c,vI d]))(h2:d=0)(h3:c<0)(hL:ah 0 a b r):Cp 16 [a.pv,b.pv] r :=
 eG func16 117 [1,1,1] [.q,.h 2 (.pv (.aB [vI c,vI d])),.q,.f,.q,.f,.q,.aF [2,3,4,24],.ord [2,3,4]] (y3 h1 (gf h2) (gM h3)) hL
theorem l10(c:Nat)(a b:aH)(d:ai)(g:Int)(i j:af)(k:Int)(h1:c<65)(h2:Cp 68 [a.pv,(vI (c:Int))] d.pv)(h3:Cp 69 [d.lo.pv,d.hi.pv] (vI g))(h4:g=0)(h5:Cp 71 [(vI (c:Int))] i.pv)(h6:Cp 70 [d.hi.pv,i.pv] j.pv)(h7:Cp 72 [b.pv,j.pv] (vI k))(h8:0<k):ah c a b (.aB [j.pv,vI 0]) :=
 lD 189 [1,1,1,1,1,1,1,1] [.a,.q,.t,.q,.h 2 (.pv d.pv),.q,.h 4 (.pv (vI g)),.t,dr 5 1 [.none,.none,.none,(.pv i.pv),(.pv j.pv)],.h 2 (.pv (vI k)),.t,.q] (y8 (aj h1) h2 h3 (a8 h4) h5 h6 h7 (bR h8))
theorem cR(c:Nat)(a b:aH)(d:ai)(g:Int)(i j:af)(k:Int){r:PV}(h1:c<65)(h2:Cp 68 [a.pv,(vI (c:Int))] d.pv)(h3:Cp 69 [d.lo.pv,d.hi.pv] (vI g))(h4:g=0)(h5:Cp 71 [(vI (c:Int))] i.pv)(h6:Cp 70 [d.hi.pv,i.pv] j.pv)(h7:Cp 72 [b.pv,j.pv] (vI k))(h8:k≤0)(h9:(c+1)<9223372036854775808)(hL:ah (c+1) a b r):ah c a b r :=
 lG 192 [1,1,1,1,1,1,1,1,1] [.a,.q,.t,.q,.h 2 (.pv d.pv),.q,.h 4 (.pv (vI g)),.t,dr 5 1 [.none,.none,.none,(.pv i.pv),(.pv j.pv)],.h 2 (.pv (vI k)),.f,.h 0 (iI (((c+1):Nat):Int)),.aF [2,3,4,24],.drop [10,9]] (y9 (aj h1) h2 h3 (a8 h4) h5 h6 h7 (bf h8) (aM h9)) hL
theorem kM(c:Nat)(a b:aH)(d:ai)(g i:Int)(h1:c<65)(h2:Cp 68 [a.pv,(vI (c:Int))] d.pv)(h3:Cp 69 [d.lo.pv,d.hi.pv] (vI g))(h4:g≠0)(h5:Cp 72 [b.pv,d.hi.pv] (vI i))(h6:0<i):ah c a b (.aB [d.hi.pv,vI 0]) :=
 lD 189 [1,1,1,1,1,1] [.a,.q,.t,.q,.h 2 (.pv d.pv),.q,.h 4 (.pv (vI g)),.f,.h 2 (.pv (vI i)),.t,.q] (y6 (aj h1) h2 h3 (bg h4) h5 (bR h6))
theorem tq(c:Nat)(a b:aH)(d:ai)(g i:Int){r:PV}(h1:c<65)(h2:Cp 68 [a.pv,(vI (c:Int))] d.pv)(h3:Cp 69 [d.lo.pv,d.hi.pv] (vI g))(h4:g≠0)(h5:Cp 72 [b.pv,d.hi.pv] (vI i))(h6:i≤0)(h7:(c+1)<9223372036854775808)(hL:ah (c+1) a b r):ah c a b r :=
 lG 192 [1,1,1,1,1,1,1] [.a,.q,.t,.q,.h 2 (.pv d.pv),.q,.h 4 (.pv (vI g)),.f,.h 2 (.pv (vI i)),.f,.h 0 (iI (((c+1):Nat):Int)),.aF [2,3,4,24],.drop [10,9]] (y7 (aj h1) h2 h3 (bg h4) h5 (bf h6) (aM h7)) hL
theorem Ew(c:Nat)(a b:aH)(h1:65≤c):ah c a b (.aB [(⟨false,[],[]⟩:af).pv,vI 4]) :=
 lD 150 [1] [.a,.q,.f,.q] (y1 (ar h1))
end bB
namespace iv
@[reducible] def fn:Func:=Tryz.f59
def a7:List eH:=focus [0,2,0,2,0,0,2,0,0] [.code (ay fn)]
def inv1(kN:List af)(l:List Int)(sK:Nat):St:=⟨[(3,(.row 16 0 kN.length 3)),(6,(.pv (dj gL l))),(7,(eI (l.length:Int))),(8,(eI (sK:Int)))],[(16,(.pure ((kN:List af).map af.cells).flatten))]⟩
@[reducible] def ah(kN:List af)(l:List Int)(sK:Nat)(r:PV):Prop:=L bp fn a7 (inv1 kN l sK) r
theorem e0 (l : List Int) {r : PV}  (hL : ah [] l 0 r) : Cp 59 [dj gL l] r :=
 eG func59 87 [1] [.q,.h 0 .nil,.kx 3 16 3,.h 1 (iI (l.length:Int)),.aF [3,6,7,8]] (y1 (an gL l)) hL
theorem l10(b:Rs)(l:List Int)(c:Nat)(v:Int)(of:af){r:PV}(h1:c<l.length)(h2:l[c]? = some v)(h3:Cp 89 [vI v] of.pv)(h4:((b++[of]):Rs).length*56≤140737488355328)(h5:(c+1)<9223372036854775808)(hL:ah (b++[of]) l (c+1) r):ah b l c r :=
 lG 126 [1,3,1,6,1] [.a,.q,.t,.h 0 (.row c (gL v)),.aR [.o,.o,(.pv of.pv),.o,(.app ((b++[of]):Rs).length (((b++[of]):Rs).map af.cells).flatten)],.h 0 (iI (((c+1):Nat):Int)),.aF [3,6,7,8],.drop [15]] (y5 (aj h1) (bT gL (Eq.refl (((c:Nat):Int):Int)) h2) h3 (iK aX (b:Rs) ([of]:Rs) 56 (Eq.refl (b:Rs).length) (Eq.refl ([of]:Rs).length) h4 rfl) (aM h5)) hL
theorem cR(b:Rs)(l:List Int)(c:Nat)(h1:l.length≤c):ah b l c (ae b) :=
 lD 120 [1,3] [.a,.q,.f,.q,.fW 2 ((b:Rs).map af.cells)] (y2 (ar h1) (df aX (b:Rs) (Eq.refl (b:Rs).length)))
end iv
namespace od
theorem e2(of:Rs)(a:List aH)(b:Rs)(c:List aH)(d g i:Rs)(v v1:aH)(j:Int)(k:ai)(l:af)(m n:ByteArray)(p:Rs)(s:Bool)(h1:Cp 59 [(dj gL [(-2),0,1])] (ae of))(h2:Cp 21 [ae of] (.aB [dj aH.cells a,.az]))(h3:Cp 59 [(dj gL [(-3),0,1])] (ae b))(h4:Cp 21 [ae b] (.aB [dj aH.cells c,.az]))(h5:Cp 59 [(dj gL [2])] (ae d))(h6:Cp 59 [(dj gL [1,1])] (ae g))(h7:Cp 38 [(⟨[d]⟩:bz).pv,ae g] (.aB [ae i,.az]))(h8:a.length=2)(h9:c.length=2)(dh:a[1]? = some v)(gb:c[1]? = some v1)(kh:Cp 35 [v.pv,v1.pv] (.aB [vI j,.az]))(pB:Cp 13 [v.pv,vI 1] (.aB [k.pv,.az]))(uL:Cp 14 [v.pv,v1.pv] (.aB [l.pv,.az]))(oO:j=(-1))(yD:Cp 60 [k.pv] (.str m))(Ad:m=(ByteArray.mk #[49,46,46,51,47,50]))(Ju:Cp 61 [l.pv] (.str n))(Ic:n=(ByteArray.mk #[51,47,50]))(Rm:Cp 59 [(dj gL [(-1),(-2),1])] (ae p))(WN:Cp 42 [ae i,ae p] (vB s)):Cp 12 [] (vB s) :=
 eD func12 123 [3,1,1,3,1,1,3,1,3,3,1,1,1,1,1,1,1,1,1,1,1,1,1,1,1,1,3,3,1,3,1,3,3,1,1,1,1,1,1,1,1,1,1,1,1,1,1,1,1,1,1,1,3,1,1,1,1,1] [.q,.aR [(.js 0 0 (([(-2),0,1]:List Int).map gL)),(.pv (ae of)),(.pv (.aB [dj aH.cells a,.az]))],.aR [(.js 0 0 (([(-3),0,1]:List Int).map gL)),(.pv (ae b)),(.pv (.aB [dj aH.cells c,.az]))],.aR [(.js 0 0 (([2]:List Int).map gL)),(.pv (ae d)),(.js 0 0 (([d]:List (Rs)).map (aC af.cells))),.o,(.js 0 0 (([1,1]:List Int).map gL)),(.pv (ae g)),(.pv (.aB [ae i,.az]))],.aR [.o,.o,.o,.o,.o,.o,.o,.o,.o,.o,.o,.o,(iI (a.length:Int)),.o,.o,.o,.o,(iI (c.length:Int)),.o,(.dec false)],.f,dr 11 1 [.none,(.row 1 (aH.cells v)),.none,.none,(.row 1 (aH.cells v1)),.none,(.pv (.aB [vI j,.az]))],.aR [.o,(.row 1 (aH.cells v)),.o,(.pv (.aB [k.pv,.az]))],dr 12 1 [.none,(.row 1 (aH.cells v)),.none,.none,(.row 1 (aH.cells v1)),.none,(.pv (.aB [l.pv,.az]))],.aR [.o,.o,.o,.o,.o,.o,.o,.o,.o,.o,.o,.o,.o,.o,.o,.o,(.pv (.str m)),.o,(.dec true),.o,.o,(.pv (.str n)),.o,(.dec true),.o,.o,(.js 0 0 (([(-1),(-2),1]:List Int).map gL)),(.pv (ae p)),(.pv (vB s)),(.dec true)]] (cj (jY Bq ([(-2),0,1]:List Int)) (cj h1 (cj h2 (cj (jY Bq ([(-3),0,1]:List Int)) (cj h3 (cj h4 (cj (jY Bq ([2]:List Int)) (cj h5 (cj (jY (rO af.cells) ([d]:List (Rs))) (cj (jY Bq ([1,1]:List Int)) (cj h6 (cj h7 (cj (Eq.refl false) (cj (Eq.refl false) (cj (Eq.refl false) (cj (Eq.refl false) (cj (Eq.refl false) (cj (Eq.refl false) (ZY (an aH.cells a) (Eq.refl false) (iJ h8) (iJ h8) (an aH.cells c) (iJ h8) (iJ h8) (iJ h9) (bT aH.cells (Eq.refl (1:Int)) dh) (bT aH.cells (Eq.refl (1:Int)) gb) kh (bT aH.cells (Eq.refl (1:Int)) dh) pB (bT aH.cells (Eq.refl (1:Int)) dh) (bT aH.cells (Eq.refl (1:Int)) gb) uL (Eq.refl true) (Eq.refl true) (Eq.refl true) (Eq.refl true) (Eq.refl true) (Eq.refl true) (a8 oO) (a8 oO) yD (a8 oO) (a8 oO) (rN Ad) (rN Ad) Ju (rN Ad) (rN Ad) (rN Ic) (rN Ic) (jY Bq ([(-1),(-2),1]:List Int)) (rN Ic) Rm (rN Ic) WN (rN Ic))))))))))))))))))))
end od
namespace dI
@[reducible] def fn:Func:=Tryz.f20
def a7:List eH:=focus [0,2,0,0,2,1,2,0,0,2,0,0] [.code (ay fn)]
def inv1(l:List af)(BD:Nat):St:=⟨[(8,(.pv (ae l))),(9,(eI (l.length:Int))),(10,(eI (BD:Int)))],[]⟩
@[reducible] def ah(l:List af)(BD:Nat)(r:PV):Prop:=L bp fn a7 (inv1 l BD) r
theorem e0(l:Rs)(h1:6<l.length):Cp 20 [ae l] (vB false) :=
 eD func20 84 [1,1] [.q,.h 1 (iI (l.length:Int)),.t,.q] (y2 (an af.cells l) (aj h1))
theorem e1(l:Rs){r:PV}(h1:l.length≤6)(hL:ah l 0 r):Cp 20 [ae l] r :=
 eG func20 96 [1,1,1] [.q,.h 1 (iI (l.length:Int)),.f,.h 1 (iI (l.length:Int)),.aF [8,9,10]] (y3 (an af.cells l) (ar h1) (an af.cells l)) hL
theorem l10(l:Rs)(b:Nat)(v:af)(c:Bool)(h1:b<l.length)(h2:l[b]? = some v)(h3:Cp 74 [v.pv,(vW (1000:UInt32)),(vW (1000:UInt32))] (vB c))(h4:c=false):ah l b (vB false) :=
 lD 141 [1,3,1,1] [.a,.q,.t,.h 0 (.row b (af.cells v)),.h 1 (.pv (vB c)),.t,.q] (y4 (aj h1) (bT af.cells (Eq.refl (((b:Nat):Int):Int)) h2) h3 (cv h4))
theorem cR(l:Rs)(b:Nat)(v:af)(c:Bool){r:PV}(h1:b<l.length)(h2:l[b]? = some v)(h3:Cp 74 [v.pv,(vW (1000:UInt32)),(vW (1000:UInt32))] (vB c))(h4:c=true)(h5:(b+1)<9223372036854775808)(hL:ah l (b+1) r):ah l b r :=
 lG 144 [1,3,1,1,1] [.a,.q,.t,.h 0 (.row b (af.cells v)),.h 1 (.pv (vB c)),.f,.h 0 (iI (((b+1):Nat):Int)),.aF [8,9,10],.drop [4]] (y5 (aj h1) (bT af.cells (Eq.refl (((b:Nat):Int):Int)) h2) h3 (aO h4) (aM h5)) hL
theorem kM(l:Rs)(b:Nat)(h1:l.length≤b):ah l b (vB true) :=
 lD 129 [1] [.a,.q,.f,.q] (y1 (ar h1))
end dI
namespace dJ
@[reducible] def fn:Func:=Tryz.f11
def a7:List eH:=focus [0,2,0,0,2,0,0] [.code (ay fn)]
def inv1(l:List aH)(My:Nat):St:=⟨[(5,(.pv (dj aH.cells l))),(6,(eI (l.length:Int))),(7,(eI (My:Int)))],[]⟩
@[reducible] def ah(l:List aH)(My:Nat)(r:PV):Prop:=L bp fn a7 (inv1 l My) r
theorem e0 (l : List aH) {r : PV}  (hL : ah l 0 r) : Cp 11 [dj aH.cells l] r :=
 eG func11 81 [1] [.q,.h 1 (iI (l.length:Int)),.aF [5,6,7]] (y1 (an aH.cells l)) hL
theorem l10(l:List aH)(b:Nat)(v:aH)(c:Bool)(h1:b<l.length)(h2:l[b]? = some v)(h3:Cp 20 [ae v.p] (vB c))(h4:c=false):ah l b (vB false) :=
 lD 126 [1,3,1,1,1,1,1,1,1,1,1,1,1] [.a,.q,.t,.h 0 (.row b (aH.cells v)),.aR [.o,.o,(.pv (vB c)),.o,.o,.skip,.skip,.skip,.skip,.skip,.skip,.skip,.skip,.skip,(.dec true)],.a,.q] (Js (aj h1) (bT aH.cells (Eq.refl (((b:Nat):Int):Int)) h2) h3 (cv h4) (cv h4) (cv h4) (cv h4) (cv h4) (cv h4) (cv h4) (cv h4) (cv h4) (cv h4))
theorem cR(l:List aH)(b:Nat)(v:aH)(c d:Bool)(h1:b<l.length)(h2:l[b]? = some v)(h3:Cp 20 [ae v.p] (vB c))(h4:c=true)(h5:Cp 20 [(ae [v.rV.lo,v.rV.hi])] (vB d))(h6:d=false):ah l b (vB false) :=
 lD 126 [1,3,1,1,1,1,1,1,1,1,3,1,1,1,1,1] [.a,.q,.t,.h 0 (.row b (aH.cells v)),.aR [.o,.o,(.pv (vB c)),.o,.o,.o,.o,.o,.o,.o,.o,(.js 0 0 (([v.rV.lo,v.rV.hi]:Rs).map af.cells)),(.pv (vB d)),.o,(.dec false)],.t,.q] (Hq (aj h1) (bT aH.cells (Eq.refl (((b:Nat):Int):Int)) h2) h3 (aO h4) (aO h4) (aO h4) (aO h4) (aO h4) (aO h4) (aO h4) (jY aX ([v.rV.lo,v.rV.hi]:Rs)) (aO h4) h5 (aO h4) (aO h4) (cv h6))
theorem kM(l:List aH)(b:Nat)(v:aH)(c d:Bool){r:PV}(h1:b<l.length)(h2:l[b]? = some v)(h3:Cp 20 [ae v.p] (vB c))(h4:c=true)(h5:Cp 20 [(ae [v.rV.lo,v.rV.hi])] (vB d))(h6:d=true)(h7:(b+1)<9223372036854775808)(hL:ah l (b+1) r):ah l b r :=
 lG 129 [1,3,1,1,1,1,1,1,1,1,3,1,1,1,1,1,1] [.a,.q,.t,.h 0 (.row b (aH.cells v)),.aR [.o,.o,(.pv (vB c)),.o,.o,.o,.o,.o,.o,.o,.o,(.js 0 0 (([v.rV.lo,v.rV.hi]:Rs).map af.cells)),(.pv (vB d)),.o,(.dec false)],.f,.h 0 (iI (((b+1):Nat):Int)),.aF [5,6,7],.drop [4]] (P4 (aj h1) (bT aH.cells (Eq.refl (((b:Nat):Int):Int)) h2) h3 (aO h4) (aO h4) (aO h4) (aO h4) (aO h4) (aO h4) (aO h4) (jY aX ([v.rV.lo,v.rV.hi]:Rs)) (aO h4) h5 (aO h4) (aO h4) (aO h6) (aM h7)) hL
theorem tq(l:List aH)(b:Nat)(h1:l.length≤b):ah l b (vB true) :=
 lD 114 [1] [.a,.q,.f,.q] (y1 (ar h1))
end dJ
namespace dM
theorem e0(x:af)(a b:UInt32)(h1:x.num.length<2)(h2:x.den.length<2)(h3:x.num.length=0)(h4:x.den.length=0):Cp 74 [x.pv,vW a,vW b] (vB true) :=
 eD func74 72 [1,1,1,1,1,1,1,1,1,1,1,1,1,1,1,1,1,1,1,1,1,1,1,1,1,1,1,1,1,1,1,1,1,1,1,1] [.q,.aR [.o,.o,(iI (x.num.length:Int)),.o,.o,.o,.o,(iI (x.den.length:Int)),.o,(.dec true),.o,.o,.o,(iI (x.num.length:Int)),.o,.o,.skip,.skip,.skip,.skip,.skip,.skip,(.dec true),(.dec true),.o,.o,.o,(iI (x.den.length:Int)),.o,.o,.skip,.skip,.skip,.skip,.skip,.skip,(.dec true)]] (Yu (an ag x.num) (aj h1) (aj h1) (aj h1) (an ag x.den) (aj h1) (aj h1) (aj h2) (aj h2) (aj h2) (an ag x.num) (aj h2) (aj h2) (aN h3) (aN h3) (aN h3) (aN h3) (aN h3) (aN h3) (aj h2) (aN h3) (aj h2) (Eq.refl true) (Eq.refl true) (Eq.refl true) (an ag x.den) (Eq.refl true) (Eq.refl true) (aN h4) (aN h4) (aN h4) (aN h4) (aN h4) (aN h4) (Eq.refl true) (aN h4))
theorem e1(x:af)(a b v:UInt32)(h1:x.num.length<2)(h2:x.den.length<2)(h3:x.num.length=0)(h4:x.den.length≠0)(h5:x.den[0]? = some v):Cp 74 [x.pv,vW a,vW b] (vB (decide ((v.toNat:Int)≤(b.toNat:Int)))) :=
 eD func74 72 [1,1,1,1,1,1,1,1,1,1,1,1,1,1,1,1,1,1,1,1,1,1,1,1,1,1,1,1,1,1,1,3,1,1,1,1,1] [.q,.aR [.o,.o,(iI (x.num.length:Int)),.o,.o,.o,.o,(iI (x.den.length:Int)),.o,(.dec true),.o,.o,.o,(iI (x.num.length:Int)),.o,.o,.skip,.skip,.skip,.skip,.skip,.skip,(.dec true),(.dec true),.o,.o,.o,(iI (x.den.length:Int)),.o,.o,.o,.o,(.row 0 (ag v)),.o,.o,.o,(.dec false)]] (Yv (an ag x.num) (aj h1) (aj h1) (aj h1) (an ag x.den) (aj h1) (aj h1) (aj h2) (aj h2) (aj h2) (an ag x.num) (aj h2) (aj h2) (aN h3) (aN h3) (aN h3) (aN h3) (aN h3) (aN h3) (aj h2) (aN h3) (aj h2) (Eq.refl true) (Eq.refl true) (Eq.refl true) (an ag x.den) (Eq.refl true) (Eq.refl true) (aA h4) (aA h4) (aA h4) (bT ag (Eq.refl (0:Int)) h5) (aA h4) (aA h4) (aA h4) (Eq.refl true) (aA h4))
theorem e2(x:af)(a b v:UInt32)(h1:x.num.length<2)(h2:x.den.length<2)(h3:x.num.length≠0)(h4:x.num[0]? = some v)(h5:v.toNat≤a.toNat)(h6:x.den.length=0):Cp 74 [x.pv,vW a,vW b] (vB true) :=
 eD func74 72 [1,1,1,1,1,1,1,1,1,1,1,1,1,1,1,1,3,1,1,1,1,1,1,1,1,1,1,1,1,1,1,1,1,1,1,1,1,1] [.q,.aR [.o,.o,(iI (x.num.length:Int)),.o,.o,.o,.o,(iI (x.den.length:Int)),.o,(.dec true),.o,.o,.o,(iI (x.num.length:Int)),.o,.o,.o,.o,(.row 0 (ag v)),.o,.o,.o,(.dec false),(.dec true),.o,.o,.o,(iI (x.den.length:Int)),.o,.o,.skip,.skip,.skip,.skip,.skip,.skip,(.dec true),(.dec true)]] (ZW (an ag x.num) (aj h1) (aj h1) (aj h1) (an ag x.den) (aj h1) (aj h1) (aj h2) (aj h2) (aj h2) (an ag x.num) (aj h2) (aj h2) (aA h3) (aA h3) (aA h3) (bT ag (Eq.refl (0:Int)) h4) (aA h3) (aA h3) (aA h3) (aj h2) (aA h3) (aj h2) (dy h5) (dy h5) (dy h5) (an ag x.den) (dy h5) (dy h5) (aN h6) (aN h6) (aN h6) (aN h6) (aN h6) (aN h6) (dy h5) (aN h6) (dy h5))
theorem e3(x:af)(a b v v1:UInt32)(h1:x.num.length<2)(h2:x.den.length<2)(h3:x.num.length≠0)(h4:x.num[0]? = some v)(h5:v.toNat≤a.toNat)(h6:x.den.length≠0)(h7:x.den[0]? = some v1):Cp 74 [x.pv,vW a,vW b] (vB (decide ((v1.toNat:Int)≤(b.toNat:Int)))) :=
 eD func74 72 [1,1,1,1,1,1,1,1,1,1,1,1,1,1,1,1,3,1,1,1,1,1,1,1,1,1,1,1,1,1,1,1,3,1,1,1,1,1,1] [.q,.aR [.o,.o,(iI (x.num.length:Int)),.o,.o,.o,.o,(iI (x.den.length:Int)),.o,(.dec true),.o,.o,.o,(iI (x.num.length:Int)),.o,.o,.o,.o,(.row 0 (ag v)),.o,.o,.o,(.dec false),(.dec true),.o,.o,.o,(iI (x.den.length:Int)),.o,.o,.o,.o,(.row 0 (ag v1)),.o,.o,.o,(.dec false),(.dec true)]] (ZX (an ag x.num) (aj h1) (aj h1) (aj h1) (an ag x.den) (aj h1) (aj h1) (aj h2) (aj h2) (aj h2) (an ag x.num) (aj h2) (aj h2) (aA h3) (aA h3) (aA h3) (bT ag (Eq.refl (0:Int)) h4) (aA h3) (aA h3) (aA h3) (aj h2) (aA h3) (aj h2) (dy h5) (dy h5) (dy h5) (an ag x.den) (dy h5) (dy h5) (aA h6) (aA h6) (aA h6) (bT ag (Eq.refl (0:Int)) h7) (aA h6) (aA h6) (aA h6) (dy h5) (aA h6) (dy h5))
theorem e4(x:af)(a b v:UInt32)(h1:x.num.length<2)(h2:x.den.length<2)(h3:x.num.length≠0)(h4:x.num[0]? = some v)(h5:a.toNat<v.toNat):Cp 74 [x.pv,vW a,vW b] (vB false) :=
 eD func74 72 [1,1,1,1,1,1,1,1,1,1,1,1,1,1,1,1,3,1,1,1,1,1,1,1,1,1,1,1,1,1] [.q,.aR [.o,.o,(iI (x.num.length:Int)),.o,.o,.o,.o,(iI (x.den.length:Int)),.o,(.dec true),.o,.o,.o,(iI (x.num.length:Int)),.o,.o,.o,.o,(.row 0 (ag v)),.o,.o,.o,(.dec false),(.dec true),.o,.skip,.skip,.skip,.skip,.skip,.skip,.skip,.skip,.skip,.skip,.skip,.skip,(.dec false)]] (ZU (an ag x.num) (aj h1) (aj h1) (aj h1) (an ag x.den) (aj h1) (aj h1) (aj h2) (aj h2) (aj h2) (an ag x.num) (aj h2) (aj h2) (aA h3) (aA h3) (aA h3) (bT ag (Eq.refl (0:Int)) h4) (aA h3) (aA h3) (aA h3) (aj h2) (aA h3) (aj h2) (bQ h5) (bQ h5) (bQ h5) (bQ h5) (bQ h5) (bQ h5) (bQ h5))
theorem e5(x:af)(a b:UInt32)(h1:x.num.length<2)(h2:2≤x.den.length):Cp 74 [x.pv,vW a,vW b] (vB false) :=
 eD func74 72 [1,1,1,1,1,1,1,1,1,1,1,1,1,1,1,1,1,1,1,1] [.q,.aR [.o,.o,(iI (x.num.length:Int)),.o,.o,.o,.o,(iI (x.den.length:Int)),.o,(.dec true),.o,.skip,.skip,.skip,.skip,.skip,.skip,.skip,.skip,.skip,.skip,.skip,.skip,(.dec false),.o,.skip,.skip,.skip,.skip,.skip,.skip,.skip,.skip,.skip,.skip,.skip,.skip]] (Wv (an ag x.num) (aj h1) (aj h1) (aj h1) (an ag x.den) (aj h1) (aj h1) (ar h2) (ar h2) (ar h2) (ar h2) (ar h2) (ar h2) (ar h2) (Eq.refl false) (Eq.refl false) (Eq.refl false) (Eq.refl false) (Eq.refl false) (Eq.refl false))
theorem e6(x:af)(a b:UInt32)(h1:2≤x.num.length):Cp 74 [x.pv,vW a,vW b] (vB false) :=
 eD func74 72 [1,1,1,1,1,1,1,1,1,1,1,1,1,1,1,1,1,1] [.q,.aR [.o,.o,(iI (x.num.length:Int)),.o,.o,.skip,.skip,.skip,.skip,(.dec false),.o,.skip,.skip,.skip,.skip,.skip,.skip,.skip,.skip,.skip,.skip,.skip,.skip,.o,.o,.skip,.skip,.skip,.skip,.skip,.skip,.skip,.skip,.skip,.skip,.skip,.skip]] (TQ (an ag x.num) (ar h1) (ar h1) (ar h1) (ar h1) (ar h1) (Eq.refl false) (Eq.refl false) (Eq.refl false) (Eq.refl false) (Eq.refl false) (Eq.refl false) (Eq.refl false) (Eq.refl false) (Eq.refl false) (Eq.refl false) (Eq.refl false) (Eq.refl false))
end dM
namespace cO
theorem e0(a b:aH)(c:Int)(d g:Bool)(h1:Cp 11 [(dj aH.cells [a,b])] (vB d))(h2:d=false)(h3:Cp 12 [] (vB g)):Cp 3 [a.pv,b.pv,vI c] (vB g) :=
 eD func3 84 [3,1,1,1,1,1,1,1,1,1] [.q,.aR [.o,.o,(.js 0 0 (([a,b]:List aH).map aH.cells)),(.pv (vB d)),.o,.o,.skip,.skip,.skip,.skip,.skip,.skip,(.dec true),.o,.skip,.skip],.a,.h 0 (.pv (vB g))] (F8 (jY pO ([a,b]:List aH)) h1 (cv h2) (cv h2) (cv h2) (cv h2) (cv h2) (Eq.refl true) (Eq.refl true) h3)
theorem e1(a b:aH)(c:Int)(d g:Bool)(h1:Cp 11 [(dj aH.cells [a,b])] (vB d))(h2:d=true)(h3:12<c)(h4:c≤64)(h5:Cp 12 [] (vB g)):Cp 3 [a.pv,b.pv,vI c] (vB g) :=
 eD func3 84 [3,1,1,1,1,1,1,1,1,1,1,1,1,1] [.q,.aR [.o,.o,(.js 0 0 (([a,b]:List aH).map aH.cells)),(.pv (vB d)),.o,.o,.o,.o,.o,.o,.o,(.dec true),(.dec false),.o,.skip,.skip,(.dec true)],.a,.h 0 (.pv (vB g))] (Lk (jY pO ([a,b]:List aH)) h1 (aO h2) (aO h2) (aO h2) (bR h3) (bR h3) (aO h2) (bR h3) (aO h2) (fo h4) (fo h4) (fo h4) h5)
theorem e3(a b:aH)(c:Int)(d g:Bool)(i:ai)(j:Option Int)(k:af)(l:Option Int)(m:ai)(n:Int)(p:af)(s t:Int)(u:Bool)(v:Int)(w:Bool)(h1:Cp 11 [(dj aH.cells [a,b])] (vB d))(h2:d=true)(h3:12<c)(h4:64<c)(h5:Cp 12 [] (vB g))(h6:g=true)(h7:Cp 13 [a.pv,vI c] (.aB [i.pv,bw j]))(h8:Cp 14 [a.pv,b.pv] (.aB [k.pv,bw l]))(h9:Cp 15 [a.pv,vI c] (.aB [m.pv,vI n]))(dh:Cp 16 [a.pv,b.pv] (.aB [p.pv,vI s]))(gb:Cp 17 [bw j] (vI t))(kh:t=n)(pB:Cp 18 [i.pv,m.pv] (vB u))(uL:u=true)(oO:Cp 17 [bw l] (vI v))(yD:v=s)(Ad:Cp 19 [k.pv,p.pv] (vB w)):Cp 3 [a.pv,b.pv,vI c] (vB w) :=
 eD func3 111 [3,1,1,1,1,1,1,1,1,1,1,1,1,1,1,1,1,1,1,1,1,1,1,1,1,1,1,1,1,1,1,1,1,1,1,1] [.q,.aR [.o,.o,(.js 0 0 (([a,b]:List aH).map aH.cells)),(.pv (vB d)),.o,.o,.o,.o,.o,.o,.o,(.dec true),(.dec false),.o,(.pv (vB g)),.o,(.dec false)],.f,.h 2 (.pv (.aB [i.pv,bw j])),.h 2 (.pv (.aB [k.pv,bw l])),.h 2 (.pv (.aB [m.pv,vI n])),.h 2 (.pv (.aB [p.pv,vI s])),.aR [.o,(.pv (vI t)),.o,.o,.o,.o,.o,(.pv (vB u)),(.dec true),.o,.o,(.pv (vI v)),.o,.o,(.dec true),.o,.o,.o,(.pv (vB w)),(.dec true)]] (Yu (jY pO ([a,b]:List aH)) h1 (aO h2) (aO h2) (aO h2) (bR h3) (bR h3) (aO h2) (bR h3) (aO h2) (gM h4) h5 (gM h4) (gM h4) (aO h6) h7 h8 h9 dh gb (a8 kh) (a8 kh) (a8 kh) pB (a8 kh) uL uL oO uL uL uL (a8 yD) (a8 yD) (a8 yD) Ad (a8 yD))
theorem e5(a b:aH)(c:Int)(d g:Bool)(i:ai)(j:Option Int)(k:af)(l:Option Int)(m:ai)(n:Int)(p:af)(s t:Int)(u:Bool)(v:Int)(w:Bool)(h1:Cp 11 [(dj aH.cells [a,b])] (vB d))(h2:d=true)(h3:c≤12)(h4:Cp 12 [] (vB g))(h5:g=true)(h6:Cp 13 [a.pv,vI c] (.aB [i.pv,bw j]))(h7:Cp 14 [a.pv,b.pv] (.aB [k.pv,bw l]))(h8:Cp 15 [a.pv,vI c] (.aB [m.pv,vI n]))(h9:Cp 16 [a.pv,b.pv] (.aB [p.pv,vI s]))(dh:Cp 17 [bw j] (vI t))(gb:t=n)(kh:Cp 18 [i.pv,m.pv] (vB u))(pB:u=true)(uL:Cp 17 [bw l] (vI v))(oO:v=s)(yD:Cp 19 [k.pv,p.pv] (vB w)):Cp 3 [a.pv,b.pv,vI c] (vB w) :=
 eD func3 111 [3,1,1,1,1,1,1,1,1,1,1,1,1,1,1,1,1,1,1,1,1,1,1,1,1,1,1,1,1,1,1,1,1,1,1] [.q,.aR [.o,.o,(.js 0 0 (([a,b]:List aH).map aH.cells)),(.pv (vB d)),.o,.o,.o,.o,.o,.skip,.skip,(.dec false),(.dec false),.o,(.pv (vB g))],.f,.h 2 (.pv (.aB [i.pv,bw j])),.h 2 (.pv (.aB [k.pv,bw l])),.h 2 (.pv (.aB [m.pv,vI n])),.h 2 (.pv (.aB [p.pv,vI s])),.aR [.o,(.pv (vI t)),.o,.o,.o,.o,.o,(.pv (vB u)),(.dec true),.o,.o,(.pv (vI v)),.o,.o,(.dec true),.o,.o,.o,(.pv (vB w)),(.dec true)]] (Yt (jY pO ([a,b]:List aH)) h1 (aO h2) (aO h2) (aO h2) (bf h3) (bf h3) (aO h2) (bf h3) (aO h2) (Eq.refl false) h4 (Eq.refl false) (aO h5) h6 h7 h8 h9 dh (a8 gb) (a8 gb) (a8 gb) kh (a8 gb) pB pB uL pB pB pB (a8 oO) (a8 oO) (a8 oO) yD (a8 oO))
end cO
end Go.Proofs.YtllmkadmohkbfaaGreatDoor.Sym.Path
end
