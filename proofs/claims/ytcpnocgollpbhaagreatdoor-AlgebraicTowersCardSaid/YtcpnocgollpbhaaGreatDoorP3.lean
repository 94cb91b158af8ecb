/- Lemmas for the statements of this seat. -/
import Derived.Test.YtcpnocgollpbhaaGreatDoorT0
noncomputable section
namespace Go.Proofs.YtcpnocgollpbhaaGreatDoor.Sym.Path
open Go Tryz
set_option maxRecDepth 20000
set_option linter.unusedVariables false
namespace tP
theorem e3(a:aW)(b c:Rs)(d:Bool)(h1:Cp 121 [ae a.p] .aC)(h2:a.p.length≠0)(h3:Cp 122 [ae a.p] (.aF [ae b,.aC]))(h4:Cp 123 [ae a.p,ae b] (.aF [ae c,.aC]))(h5:c.length=1)(h6:Cp 124 [ae a.p,a.rV.pv] (.aF [vB d,.aC]))(h7:d=true):Cp 64 [a.pv] .aC :=
 eD func64 [] [.q,.h 2 (.pv .aC),.q,.a,.h 2 (iL a.p),.f,.h 2 (.pv (.aF [ae b,.aC])),.q,.a,.h 3 (.pv (.aF [ae c,.aC])),.q,.a,.h 1 (iL c),.f,.h 4 (.pv (.aF [vB d,.aC])),.q,.f,.q] (EK h1 (an ag.cells a.p) (aB h2) h3 h4 (an ag.cells c) (dk h5) h6 rT rT (bw h7))
end tP
namespace ee
@[reducible] def fn:Func:=Tryz.f26
def aY:List dJ:=focus [0,2,0,2,0,0,2,1,2,0,2,0,0,2,0,0] [.code (aL fn)]
def inv1(p:List ag)(BU:List aW)(Sc:List ak)(qh:Nat):St:=⟨[(0,(.pv (ae p))),(6,(.row 38 0 BU.length 7)),(19,(.pv (bB ak.cells Sc))),(20,(eI (Sc.length:Int))),(21,(eI (qh:Int)))],[(38,(.pure ((BU:List aW).map aW.cells).flatten))]⟩
@[reducible] def ah(p:List ag)(BU:List aW)(Sc:List ak)(qh:Nat)(r:PV):Prop:=L bu fn aY (inv1 p BU Sc qh) r
theorem e0(p:Rs)(b:List ak){r:PV}(h1:Cp 68 [ae p] (.aF [bB ak.cells b,.aC]))(hL:ah p [] b 0 r):Cp 26 [ae p] r :=
 eG func26 [] [.q,.h 1 (.pv (.aF [bB ak.cells b,.aC])),.q,.a,.h 0 .nil,.iK 6 38 7,.h 1 (iL b),.aG [0,6,19,20,21]] (y2 h1 (an ak.cells b)) hL
theorem l10(p:Rs)(b:List aW)(c:List ak)(d:Nat)(v:ak)(g:Rs){r:PV}(h1:d<c.length)(h2:c[d]? = some v)(h3:Cp 69 [ae p] (.aF [ae g,.aC]))(h4:((b++[(⟨g,v⟩:aW)]):List aW).length*136≤140737488355328)(h5:(d+1)<9223372036854775808)(hL:ah p (b++[(⟨g,v⟩:aW)]) c (d+1) r):ah p b c d r :=
 lG [1,3,1,6] [.a,.q,.t,.h 0 (.row d (ak.cells v)),.h 1 (.pv (.aF [ae g,.aC])),.q,.a,.h 5 (.app ((b++[(⟨g,v⟩:aW)]):List aW).length (((b++[(⟨g,v⟩:aW)]):List aW).map aW.cells).flatten),.h 0 (iI (((d+1):Nat):Int)),.aG [0,6,19,20,21],.drop [37,8]] (y5 (ai h1) (ba ak.cells (rN d) h2) h3 (fv yk (b:List aW) ([(⟨g,v⟩:aW)]:List aW) 136 (Eq.refl (b:List aW).length) (Eq.refl ([(⟨g,v⟩:aW)]:List aW).length) h4 rfl) (aJ h5)) hL
theorem jT(p:Rs)(b:List aW)(c:List ak)(d:Nat)(h1:c.length≤d):ah p b c d (.aF [bB aW.cells b,.aC]) :=
 lD [1,3] [.a,.q,.f,.q,.dH 2 ((b:List aW).map aW.cells)] (y2 (ar h1) (bU yk (b:List aW) (Eq.refl (b:List aW).length)))
end ee
namespace hJ
theorem e0(a:aW)(x:ag)(b c:Int)(h1:Cp 17 [a.rV.lo.pv,a.rV.hi.pv] (vI b))(h2:b=0)(h3:Cp 17 [a.rV.lo.pv,x.pv] (vI c)):Cp 72 [a.pv,x.pv] (.aF [vI c,.aC]) :=
 eD func72 [] [.q,.h 6 (.pv (vI b)),.t,.h 4 (.pv (vI c))] (y3 h1 (aU h2) h3)
theorem e1(a:aW)(x:ag)(b c:Int)(h1:Cp 17 [a.rV.lo.pv,a.rV.hi.pv] (vI b))(h2:b≠0)(h3:Cp 17 [x.pv,a.rV.lo.pv] (vI c))(h4:c≤0):Cp 72 [a.pv,x.pv] (.aF [vI 1,.aC]) :=
 eD func72 [] [.q,.h 6 (.pv (vI b)),.f,.h 4 (.pv (vI c)),.t,.q] (y4 h1 (bf h2) h3 (bg h4))
theorem e2(a:aW)(x:ag)(b c d:Int)(h1:Cp 17 [a.rV.lo.pv,a.rV.hi.pv] (vI b))(h2:b≠0)(h3:Cp 17 [x.pv,a.rV.lo.pv] (vI c))(h4:0<c)(h5:Cp 17 [x.pv,a.rV.hi.pv] (vI d))(h6:0≤d):Cp 72 [a.pv,x.pv] (.aF [(vI (-1)),.aC]) :=
 eD func72 [] [.q,.h 6 (.pv (vI b)),.f,.h 4 (.pv (vI c)),.f,.h 4 (.pv (vI d)),.t,.q] (y6 h1 (bf h2) h3 (fc h4) h5 (bg h6))
theorem e3(a:aW)(x:ag)(b c d:Int)(g i:ag)(j k:Int)(h1:Cp 17 [a.rV.lo.pv,a.rV.hi.pv] (vI b))(h2:b≠0)(h3:Cp 17 [x.pv,a.rV.lo.pv] (vI c))(h4:0<c)(h5:Cp 17 [x.pv,a.rV.hi.pv] (vI d))(h6:d<0)(h7:Cp 139 [ae a.p,x.pv] (.aF [g.pv,.aC]))(h8:Cp 139 [ae a.p,a.rV.lo.pv] (.aF [i.pv,.aC]))(h9:Cp 119 [g.pv] (vI j))(bQ:Cp 119 [i.pv] (vI k))(dU:ay (j*k)):Cp 72 [a.pv,x.pv] (.aF [(vI (j*k)),.aC]) :=
 eD func72 [] [.q,.h 6 (.pv (vI b)),.f,.h 4 (.pv (vI c)),.f,.h 4 (.pv (vI d)),.f,.h 3 (.pv (.aF [g.pv,.aC])),.q,.a,.h 5 (.pv (.aF [i.pv,.aC])),.q,.a,dr 5 2 [.none,(.pv (vI j)),.none,(.pv (vI k)),(iI (j*k))]] (EK h1 (bf h2) h3 (fc h4) h5 (fc h6) h7 h8 h9 bQ (pL dU))
end hJ
namespace jJ
theorem e0(a:aW)(b:Int)(h1:Cp 17 [a.rV.lo.pv,a.rV.hi.pv] (vI b))(h2:b=0):Cp 178 [a.pv] (.aF [a.pv,.aC]) :=
 eD func178 [] [.q,.h 6 (.pv (vI b)),.t,.q] (y2 h1 (aU h2))
theorem e1(a:aW)(b:Int)(c:ag)(d:Int)(g:ak)(h1:Cp 17 [a.rV.lo.pv,a.rV.hi.pv] (vI b))(h2:b≠0)(h3:Cp 127 [a.rV.pv] c.pv)(h4:Cp 72 [a.pv,c.pv] (.aF [vI d,.aC]))(h5:d=0)(h6:Cp 73 [c.pv] g.pv):Cp 178 [a.pv] (.aF [(⟨a.p,g⟩:aW).pv,.aC]) :=
 eD func178 [] [.q,.h 6 (.pv (vI b)),.f,.h 2 (.pv c.pv),.h 2 (.pv (.aF [vI d,.aC])),.q,.a,.q,.q,.t,dr 5 2 [.none,.none,.none,(.pv g.pv)]] (y6 h1 (bf h2) h3 h4 (aU h5) h6)
theorem e2(a:aW)(b:Int)(c:ag)(d:Int)(h1:Cp 17 [a.rV.lo.pv,a.rV.hi.pv] (vI b))(h2:b≠0)(h3:Cp 127 [a.rV.pv] c.pv)(h4:Cp 72 [a.pv,c.pv] (.aF [vI d,.aC]))(h5:d≠0)(h6:d=1):Cp 178 [a.pv] (.aF [(⟨a.p,(⟨c,a.rV.hi⟩:ak)⟩:aW).pv,.aC]) :=
 eD func178 [] [.q,.h 6 (.pv (vI b)),.f,.h 2 (.pv c.pv),.h 2 (.pv (.aF [vI d,.aC])),.q,.a,.q,.q,.f,.q,.t,.q] (y6 h1 (bf h2) h3 h4 (bf h5) (aU h6))
theorem e3(a:aW)(b:Int)(c:ag)(d:Int)(h1:Cp 17 [a.rV.lo.pv,a.rV.hi.pv] (vI b))(h2:b≠0)(h3:Cp 127 [a.rV.pv] c.pv)(h4:Cp 72 [a.pv,c.pv] (.aF [vI d,.aC]))(h5:d≠0)(h6:d≠1):Cp 178 [a.pv] (.aF [(⟨a.p,(⟨a.rV.lo,c⟩:ak)⟩:aW).pv,.aC]) :=
 eD func178 [] [.q,.h 6 (.pv (vI b)),.f,.h 2 (.pv c.pv),.h 2 (.pv (.aF [vI d,.aC])),.q,.a,.q,.q,.f,.q,.f,.q] (y6 h1 (bf h2) h3 h4 (bf h5) (bf h6))
end jJ
namespace qk
theorem e1(p:Rs)(a:aW)(b:Rs)(h1:p.length≠0)(h2:Cp 123 [ae p,ae a.p] (.aF [ae b,.aC]))(h3:b.length<2):Cp 177 [ae p,a.pv] (.aF [vB false,.aC]) :=
 eD func177 [] [.q,.h 1 (iL p),.f,.h 3 (.pv (.aF [ae b,.aC])),.q,.a,.h 1 (iL b),.t,.q] (y5 (an ag.cells p) (aB h1) h2 (an ag.cells b) (ai h3))
end qk
namespace tQ
theorem e0(a b:aW)(c:Bool)(h1:Cp 177 [ae b.p,a.pv] (.aF [vB c,.aC]))(h2:c=false):Cp 125 [a.pv,b.pv] (.aF [vB false,.aC]) :=
 eD func125 [] [.q,.h 3 (.pv (.aF [vB c,.aC])),.q,.t,.q] (y4 h1 rF rF (dm h2))
end tQ
namespace fV
@[reducible] def fn:Func:=Tryz.f126
def aY:List dJ:=focus [0,2,0,0,0] [.code (aL fn)]
def inv1(lW tj:aW):St:=⟨[(2,(.ptr 2 0)),(3,(.ptr 3 0)),(4,(.ptr 4 0)),(5,(.ptr 5 0))],[(2,(.lit [(.pv (ae lW.p)),(eB lW.rV.lo.neg),(.pv (af lW.rV.lo.num)),(.pv (af lW.rV.lo.den)),(eB lW.rV.hi.neg),(.pv (af lW.rV.hi.num)),(.pv (af lW.rV.hi.den))])),(3,(.lit [(.pv (ae tj.p)),(eB tj.rV.lo.neg),(.pv (af tj.rV.lo.num)),(.pv (af tj.rV.lo.den)),(eB tj.rV.hi.neg),(.pv (af tj.rV.hi.num)),(.pv (af tj.rV.hi.den))])),(4,(.lit [(.pv (.list [])),(eB false),(.pv (.list [])),(.pv (.list [])),(eB false),(.pv (.list [])),(.pv (.list []))])),(5,(.lit [(.pv (.list [])),(eB false),(.pv (.list [])),(.pv (.list [])),(eB false),(.pv (.list [])),(.pv (.list []))]))]⟩
@[reducible] def ah(lW tj:aW)(r:PV):Prop:=L bu fn aY (inv1 lW tj) r
theorem e0 (a b : aW) {r : PV}  (hL : ah a b r) : Cp 126 [a.pv, b.pv] r :=
 eG func126 [] [.q,.aG [2,3,4,5],.ord [2,3,4,5]] True.intro hL
theorem l10(b c:aW)(d g:Int)(i j:aW){r:PV}(h1:Cp 17 [b.rV.hi.pv,c.rV.lo.pv] (vI d))(h2:0<d)(h3:Cp 17 [c.rV.hi.pv,b.rV.lo.pv] (vI g))(h4:0<g)(h5:Cp 178 [b.pv] (.aF [i.pv,.aC]))(h6:Cp 178 [c.pv] (.aF [j.pv,.aC]))(hL:ah i j r):ah b c r :=
 lG [] [.a,.aR [.o,.o,.o,.o,.o,.o,(.pv (vI d)),.o,.o,.o,.o,.o,.o,.o,.o,(.pv (vI g)),.o,(.dec true)],.t,.q,.h 1 (.pv (.aF [i.pv,.aC])),.q,.a,.h 1 (.pv (.aF [j.pv,.aC])),.q,.a,.aG [2,3,4,5]] (Nv h1 (bA h2) (bA h2) (bA h2) (bA h2) (bA h2) (bA h2) (bA h2) h3 (bA h2) (bA h2) (bA h4) h5 h6) hL
theorem Bz(b c:aW)(d:Int)(h1:Cp 17 [b.rV.hi.pv,c.rV.lo.pv] (vI d))(h2:d≤0):ah b c (.aF [b.pv,c.pv,.aC]) :=
 lD [] [.a,.aR [.o,.o,.o,.o,.o,.o,(.pv (vI d)),.o,.o,.skip,.skip,.skip,.skip,.skip,.skip,.skip,.skip,(.dec false)],.a,dr 3 2 []] (JT h1 (bm h2) (bm h2) (bm h2) (bm h2) (bm h2) (bm h2) (bm h2) (bm h2) (bm h2))
end fV
namespace wH
theorem e1(a b:aW)(c:Bool)(d g:aW)(i j:ag)(k:Int)(h1:Cp 125 [a.pv,b.pv] (.aF [vB c,.aC]))(h2:c=false)(h3:Cp 126 [a.pv,b.pv] (.aF [d.pv,g.pv,.aC]))(h4:Cp 127 [d.rV.pv] i.pv)(h5:Cp 127 [g.rV.pv] j.pv)(h6:Cp 17 [i.pv,j.pv] (vI k))(h7:k<0):Cp 65 [a.pv,b.pv] (.aF [(vI (-1)),.aC]) :=
 eD func65 [] [.q,.h 2 (.pv (.aF [vB c,.aC])),.q,.f,.h 2 (.pv (.aF [d.pv,g.pv,.aC])),.q,.a,dr 8 0 [.none,.none,(.pv i.pv),.none,.none,(.pv j.pv),(.pv (vI k))],.t,.q] (y8 h1 rF h2 h3 h4 h5 h6 (bA h7))
end wH
namespace lC
@[reducible] def fn:Func:=Tryz.f23
def aY:List dJ:=focus [0,2,0,0,2,0,0] [.code (aL fn)]
def inv1(Du:Nat)(a b:aW):St:=⟨[(2,(.ptr 2 0)),(3,(.ptr 3 0)),(11,(.row 11 0 2 7)),(12,(eI 2)),(13,(eI (Du:Int)))],[(2,(.lit [(.pv (ae a.p)),(eB a.rV.lo.neg),(.pv (af a.rV.lo.num)),(.pv (af a.rV.lo.den)),(eB a.rV.hi.neg),(.pv (af a.rV.hi.num)),(.pv (af a.rV.hi.den))])),(3,(.lit [(.pv (ae b.p)),(eB b.rV.lo.neg),(.pv (af b.rV.lo.num)),(.pv (af b.rV.lo.den)),(eB b.rV.hi.neg),(.pv (af b.rV.hi.num)),(.pv (af b.rV.hi.den))])),(11,(.pure (([a,b]:List aW).map aW.cells).flatten))]⟩
@[reducible] def ah(Du:Nat)(a b:aW)(r:PV):Prop:=L bu fn aY (inv1 Du a b) r
theorem e0 (a b : aW) {r : PV}  (hL : ah 0 a b r) : Cp 23 [a.pv, b.pv] r :=
 eG func23 [] [.q,.q,.aG [2,3,11,12,13],.ord [2,3,11]] True.intro hL
theorem l10(c:Nat)(a b v:aW){r:PV}(h1:c<2)(h2:[a,b][c]? = some v)(h3:Cp 64 [v.pv] .aC)(h4:(c+1)<9223372036854775808)(hL:ah (c+1) a b r):ah c a b r :=
 lG [1,2,2] [.a,.q,.t,.aR [(.nat c),(.JZ [ae v.p,vB v.rV.lo.neg,af v.rV.lo.num,af v.rV.lo.den,vB v.rV.hi.neg,af v.rV.hi.num,af v.rV.hi.den])],.h 1 (.pv .aC),.q,.a,.h 0 (iI (((c+1):Nat):Int)),.aG [2,3,11,12,13],.drop [7]] (y5 (ai h1) (cj (rN c) h1) (tL yk h2) h3 (aJ h4)) hL
theorem jT(c:Nat)(a b:aW)(d:Int)(g:Option Int)(h1:2≤c)(h2:Cp 65 [a.pv,b.pv] (.aF [vI d,bW g])):ah c a b (.aF [vI d,bW g]) :=
 lD [] [.a,.q,.f,.h 2 (.pv (.aF [vI d,bW g]))] (y2 (ar h1) h2)
end lC
namespace iP
@[reducible] def fn:Func:=Tryz.f71
def aY:List dJ:=focus [0,2,0,2,0,0,2,0,0] [.code (aL fn)]
def inv1(bits:Int)(Pz:Nat)(n jt:az):St:=⟨[(2,(.ptr 2 0)),(4,(.ptr 4 0)),(6,(.ptr 6 0)),(8,(eI bits)),(9,(eI (Pz:Int)))],[(2,(.lit [(eB n.neg),(.pv (af n.cJ))])),(4,(.lit [(eB false),(.pv (.list [])),(.pv (.list []))])),(6,(.lit [(eB jt.neg),(.pv (af jt.cJ))]))]⟩
@[reducible] def ah(bits:Int)(Pz:Nat)(n jt:az)(r:PV):Prop:=L bu fn aY (inv1 bits Pz n jt) r
theorem e0(n:az)(a:Int)(of:az){r:PV}(h1:Cp 56 [vI 1] of.pv)(hL:ah a 0 n of r):Cp 71 [n.pv,vI a] r :=
 eG func71 [] [.q,.h 0 (.pv of.pv),.q,.aG [2,4,6,8,9],.ord [2,4,6]] (y1 h1) hL
theorem l10(b:Int)(c:Nat)(n d g:az){r:PV}(h1:(c:Int)<b)(h2:Cp 74 [d.pv,d.pv] g.pv)(h3:(c+1)<9223372036854775808)(hL:ah b (c+1) n g r):ah b c n d r :=
 lG [] [.a,.q,.t,.h 2 (.pv g.pv),.h 0 (iI (((c+1):Nat):Int)),.aG [2,4,6,8,9]] (y3 (bA h1) h2 (aJ h3)) hL
theorem cB(b:Int)(c:Nat)(n d:az)(g:ag)(i:Option Int)(h1:b≤(c:Int))(h2:Cp 138 [n.pv,d.pv] (.aF [g.pv,bW i])):ah b c n d (.aF [g.pv,bW i]) :=
 lD [] [.a,.q,.f,.h 2 (.pv (.aF [g.pv,bW i]))] (y2 (bm h1) h2)
end iP
namespace ko
@[reducible] def fn:Func:=Tryz.f136
def aY:List dJ:=focus [0,2,0,0,2,0,0] [.code (aL fn)]
def inv1(bits:Int)(Ve:Nat)(lW:ag):St:=⟨[(2,(.ptr 2 0)),(4,(.ptr 4 0)),(5,(eI bits)),(6,(eI (Ve:Int)))],[(2,(.lit [(eB lW.neg),(.pv (af lW.num)),(.pv (af lW.den))])),(4,(.lit [(eB false),(.pv (.list []))]))]⟩
@[reducible] def ah(bits:Int)(Ve:Nat)(lW:ag)(r:PV):Prop:=L bu fn aY (inv1 bits Ve lW) r
theorem e0 (x : ag) (a : Int) {r : PV}  (hL : ah a 0 x r) : Cp 136 [x.pv, vI a] r :=
 eG func136 [] [.q,.q,.aG [2,4,5,6],.ord [2,4]] True.intro hL
theorem l10(b:Int)(c:Nat)(d g:ag){r:PV}(h1:(c:Int)<b)(h2:Cp 62 [d.pv,d.pv] g.pv)(h3:(c+1)<9223372036854775808)(hL:ah b (c+1) g r):ah b c d r :=
 lG [] [.a,.q,.t,.h 2 (.pv g.pv),.h 0 (iI (((c+1):Nat):Int)),.aG [2,4,5,6]] (y3 (bA h1) h2 (aJ h3)) hL
theorem cB(b:Int)(c:Nat)(d:ag)(g:az)(h1:b≤(c:Int))(h2:Cp 188 [d.pv] g.pv):ah b c d g.pv :=
 lD [] [.a,.q,.f,.h 1 (.pv g.pv)] (y2 (bm h1) h2)
end ko
namespace cY
@[reducible] def fn:Func:=Tryz.f70
def aY:List dJ:=focus [0,2,0,2,0,0,0] [.code (aL fn)]
def inv1(bits:Int)(a:aW)(jt eH:az):St:=⟨[(1,(eI bits)),(2,(.ptr 2 0)),(4,(.ptr 4 0)),(6,(.ptr 6 0)),(7,(.ptr 7 0))],[(2,(.lit [(.pv (ae a.p)),(eB a.rV.lo.neg),(.pv (af a.rV.lo.num)),(.pv (af a.rV.lo.den)),(eB a.rV.hi.neg),(.pv (af a.rV.hi.num)),(.pv (af a.rV.hi.den))])),(4,(.lit [(eB false),(.pv (.list []))])),(6,(.lit [(eB jt.neg),(.pv (af jt.cJ))])),(7,(.lit [(eB eH.neg),(.pv (af eH.cJ))]))]⟩
@[reducible] def ah(bits:Int)(a:aW)(jt eH:az)(r:PV):Prop:=L bu fn aY (inv1 bits a jt eH) r
theorem e0(a:aW)(b:Int)(c d of g:az){r:PV}(h1:Cp 136 [a.rV.lo.pv,vI b] c.pv)(h2:Cp 136 [a.rV.hi.pv,vI b] d.pv)(h3:Cp 56 [vI 1] of.pv)(h4:Cp 74 [d.pv,of.pv] g.pv)(hL:ah b a c g r):Cp 70 [a.pv,vI b] r :=
 eG func70 [] [.q,dr 14 2 [.none,.none,.none,.none,(.pv c.pv),.none,.none,.none,.none,(.pv d.pv),(.pv of.pv),(.pv g.pv)],.aG [1,2,4,6,7],.ord [2,4,6,7]] (y4 h1 h2 h3 h4) hL
theorem l10(b:Int)(a:aW)(c d g of:az)(i:Int)(j k l m:az)(n:Option Int)(p:ag)(s:Int){r:PV}(h1:Cp 137 [d.pv,c.pv] g.pv)(h2:Cp 56 [vI 1] of.pv)(h3:Cp 53 [g.pv,of.pv] (vI i))(h4:0<i)(h5:Cp 74 [c.pv,d.pv] j.pv)(h6:Cp 56 [vI 2] k.pv)(h7:Cp 111 [j.pv,k.pv] (.aF [l.pv,m.pv,bW n]))(h8:Cp 71 [l.pv,vI b] (.aF [p.pv,.aC]))(h9:Cp 72 [a.pv,p.pv] (.aF [vI s,.aC]))(bQ:0≤s)(hL:ah b a l d r):ah b a c d r :=
 lG [] [.a,.aR [.o,.o,(.pv g.pv),(.pv of.pv),(.pv (vI i))],.t,.aR [.o,.o,(.pv j.pv),(.pv k.pv),(.pv (.aF [l.pv,m.pv,bW n]))],.h 2 (.pv (.aF [p.pv,.aC])),.q,.a,.h 2 (.pv (.aF [vI s,.aC])),.q,.a,.q,.t,.q,.aG [1,2,4,6,7],.drop [11,9,8]] (JT h1 h2 h3 (bA h4) h5 h6 h7 h8 h9 (bg bQ)) hL
theorem cB(b:Int)(a:aW)(c d g of:az)(i:Int)(j k l m:az)(n:Option Int)(p:ag)(s:Int){r:PV}(h1:Cp 137 [d.pv,c.pv] g.pv)(h2:Cp 56 [vI 1] of.pv)(h3:Cp 53 [g.pv,of.pv] (vI i))(h4:0<i)(h5:Cp 74 [c.pv,d.pv] j.pv)(h6:Cp 56 [vI 2] k.pv)(h7:Cp 111 [j.pv,k.pv] (.aF [l.pv,m.pv,bW n]))(h8:Cp 71 [l.pv,vI b] (.aF [p.pv,.aC]))(h9:Cp 72 [a.pv,p.pv] (.aF [vI s,.aC]))(bQ:s<0)(hL:ah b a c l r):ah b a c d r :=
 lG [] [.a,.aR [.o,.o,(.pv g.pv),(.pv of.pv),(.pv (vI i))],.t,.aR [.o,.o,(.pv j.pv),(.pv k.pv),(.pv (.aF [l.pv,m.pv,bW n]))],.h 2 (.pv (.aF [p.pv,.aC])),.q,.a,.h 2 (.pv (.aF [vI s,.aC])),.q,.a,.q,.f,.q,.aG [1,2,4,6,7],.drop [11,9,8]] (JT h1 h2 h3 (bA h4) h5 h6 h7 h8 h9 (fc bQ)) hL
theorem Bz(b:Int)(a:aW)(c d g of:az)(i:Int)(h1:Cp 137 [d.pv,c.pv] g.pv)(h2:Cp 56 [vI 1] of.pv)(h3:Cp 53 [g.pv,of.pv] (vI i))(h4:i≤0):ah b a c d (.aF [c.pv,.aC]) :=
 lD [] [.a,.aR [.o,.o,(.pv g.pv),(.pv of.pv),(.pv (vI i))],.f,.q] (y4 h1 h2 h3 (bm h4))
end cY
namespace uK
theorem e3(a:aW)(b:Int)(c:az)(d:ag)(g:Int)(of i:az)(j:ag)(k:Option Int)(h1:Cp 64 [a.pv] .aC)(h2:0≤b)(h3:b≤64)(h4:Cp 70 [a.pv,vI b] (.aF [c.pv,.aC]))(h5:Cp 71 [c.pv,vI b] (.aF [d.pv,.aC]))(h6:Cp 72 [a.pv,d.pv] (.aF [vI g,.aC]))(h7:g≠0)(h8:Cp 56 [vI 1] of.pv)(h9:Cp 74 [c.pv,of.pv] i.pv)(bQ:Cp 71 [i.pv,vI b] (.aF [j.pv,bW k])):Cp 28 [a.pv,vI b] (.aF [(⟨d,j⟩:ak).pv,bW k]) :=
 eD func28 [] [.q,.h 1 (.pv .aC),.q,.a,.h 5 (.dec false),.f,.h 2 (.pv (.aF [c.pv,.aC])),.q,.a,.h 2 (.pv (.aF [d.pv,.aC])),.q,.a,.h 2 (.pv (.aF [vI g,.aC])),.q,.a,.q,.f,dr 10 1 [.none,(.pv of.pv),(.pv i.pv),.none,(.pv (.aF [j.pv,bW k]))],.q] (IF h1 (bm h2) (bm h2) (bm h2) (bm h3) h4 h5 h6 (bf h7) h8 h9 bQ)
end uK
namespace j6
@[reducible] def fn:Func:=Tryz.f29
def aY:List dJ:=focus [0,2,0,2,0,0,2,1,2,0,0,2,1,2,0,0,2,0,0] [.code (aL fn)]
def inv1(Vi:Nat)(a b:aW):St:=⟨[(2,(.ptr 2 0)),(3,(.ptr 3 0)),(4,(.ptr 4 0)),(27,(eI (Vi:Int)))],[(2,(.lit [(.pv (ae a.p)),(eB a.rV.lo.neg),(.pv (af a.rV.lo.num)),(.pv (af a.rV.lo.den)),(eB a.rV.hi.neg),(.pv (af a.rV.hi.num)),(.pv (af a.rV.hi.den))])),(3,(.lit [(.pv (ae b.p)),(eB b.rV.lo.neg),(.pv (af b.rV.lo.num)),(.pv (af b.rV.lo.den)),(eB b.rV.hi.neg),(.pv (af b.rV.hi.num)),(.pv (af b.rV.hi.den))])),(4,(.lit [(eB false),(.pv (.list [])),(.pv (.list []))]))]⟩
@[reducible] def ah(Vi:Nat)(a b:aW)(r:PV):Prop:=L bu fn aY (inv1 Vi a b) r
theorem e1(a b:aW)(c:Int){r:PV}(h1:Cp 23 [a.pv,b.pv] (.aF [vI c,.aC]))(h2:c<0)(hL:ah 0 a b r):Cp 29 [a.pv,b.pv] r :=
 eG func29 [] [.q,.h 2 (.pv (.aF [vI c,.aC])),.q,.a,.q,.f,.q,.aG [2,3,4,27],.ord [2,3,4]] (y2 h1 (fc h2)) hL
theorem l10(c:Nat)(a b:aW)(d of g:az)(i:ag)(j:Int)(h1:c<65)(h2:Cp 70 [a.pv,(vI (c:Int))] (.aF [d.pv,.aC]))(h3:Cp 56 [vI 1] of.pv)(h4:Cp 74 [d.pv,of.pv] g.pv)(h5:Cp 71 [g.pv,(vI (c:Int))] (.aF [i.pv,.aC]))(h6:Cp 72 [b.pv,i.pv] (.aF [vI j,.aC]))(h7:0<j):ah c a b (.aF [i.pv,.aC]) :=
 lD [] [.a,.q,.t,.q,.h 2 (.pv (.aF [d.pv,.aC])),.q,.a,dr 10 1 [.none,(.pv of.pv),(.pv g.pv),.none,(.pv (.aF [i.pv,.aC]))],.q,.a,.h 2 (.pv (.aF [vI j,.aC])),.q,.a,.q,.t,.q] (y7 (ai h1) h2 h3 h4 h5 h6 (bA h7))
theorem cB(c:Nat)(a b:aW)(d of g:az)(i:ag)(j:Int){r:PV}(h1:c<65)(h2:Cp 70 [a.pv,(vI (c:Int))] (.aF [d.pv,.aC]))(h3:Cp 56 [vI 1] of.pv)(h4:Cp 74 [d.pv,of.pv] g.pv)(h5:Cp 71 [g.pv,(vI (c:Int))] (.aF [i.pv,.aC]))(h6:Cp 72 [b.pv,i.pv] (.aF [vI j,.aC]))(h7:j≤0)(h8:(c+1)<9223372036854775808)(hL:ah (c+1) a b r):ah c a b r :=
 lG [] [.a,.q,.t,.q,.h 2 (.pv (.aF [d.pv,.aC])),.q,.a,dr 10 1 [.none,(.pv of.pv),(.pv g.pv),.none,(.pv (.aF [i.pv,.aC]))],.q,.a,.h 2 (.pv (.aF [vI j,.aC])),.q,.a,.q,.f,.h 0 (iI (((c+1):Nat):Int)),.aG [2,3,4,27],.drop [11,9]] (y8 (ai h1) h2 h3 h4 h5 h6 (bm h7) (aJ h8)) hL
end j6
namespace gf
@[reducible] def fn:Func:=Tryz.f43
def aY:List dJ:=focus [0,2,0,2,0,0,2,1,2,0,2,0,0,2,0,0] [.code (aL fn)]
def inv1(p:List ag)(gk:List aW)(Sc:List ak)(qh:Nat):St:=⟨[(0,(.pv (ae p))),(6,(.row 35 0 gk.length 7)),(19,(.pv (bB ak.cells Sc))),(20,(eI (Sc.length:Int))),(21,(eI (qh:Int)))],[(35,(.pure ((gk:List aW).map aW.cells).flatten))]⟩
@[reducible] def ah(p:List ag)(gk:List aW)(Sc:List ak)(qh:Nat)(r:PV):Prop:=L bu fn aY (inv1 p gk Sc qh) r
theorem e1(p:Rs)(a:List ak)(b:Int){r:PV}(h1:Cp 93 [ae p] (.aF [bB ak.cells a,vI b]))(h2:b=0)(hL:ah p [] a 0 r):Cp 43 [ae p] r :=
 eG func43 [] [.q,.h 1 (.pv (.aF [bB ak.cells a,vI b])),.q,.f,.h 0 .nil,.iK 6 35 7,.h 1 (iL a),.aG [0,6,19,20,21]] (y3 h1 (gr h2) (an ak.cells a)) hL
theorem l10(p:Rs)(b:List aW)(c:List ak)(d:Nat)(v:ak)(g:Rs)(i:Int){r:PV}(h1:d<c.length)(h2:c[d]? = some v)(h3:Cp 94 [ae p] (.aF [ae g,vI i]))(h4:((b++[(⟨g,v⟩:aW)]):List aW).length*136≤140737488355328)(h5:(d+1)<9223372036854775808)(hL:ah p (b++[(⟨g,v⟩:aW)]) c (d+1) r):ah p b c d r :=
 lG [1,3,1,6] [.a,.q,.t,.h 0 (.row d (ak.cells v)),.h 1 (.pv (.aF [ae g,vI i])),.h 5 (.app ((b++[(⟨g,v⟩:aW)]):List aW).length (((b++[(⟨g,v⟩:aW)]):List aW).map aW.cells).flatten),.h 0 (iI (((d+1):Nat):Int)),.aG [0,6,19,20,21],.drop [34,8]] (y5 (ai h1) (ba ak.cells (rN d) h2) h3 (fv yk (b:List aW) ([(⟨g,v⟩:aW)]:List aW) 136 (Eq.refl (b:List aW).length) (Eq.refl ([(⟨g,v⟩:aW)]:List aW).length) h4 rfl) (aJ h5)) hL
theorem cB(p:Rs)(b:List aW)(c:List ak)(d:Nat)(h1:c.length≤d):ah p b c d (.aF [bB aW.cells b,vI 0]) :=
 lD [1,3] [.a,.q,.f,.q,.dH 2 ((b:List aW).map aW.cells)] (y2 (ar h1) (bU yk (b:List aW) (Eq.refl (b:List aW).length)))
end gf
namespace qm
theorem e0(a b:aW)(c d:Bool)(h1:Cp 12 [ae a.p,ae b.p] (vB c))(h2:c=true)(h3:Cp 47 [a.rV.pv,b.rV.pv] (vB d)):Cp 13 [a.pv,b.pv] (vB d) :=
 eD func13 [] [.q,.aR [.o,.o,.o,.o,(.pv (vB c)),.o,.o,.o,.o,.o,(.pv (vB d)),(.dec true)]] (y8 h1 h2 h2 h2 h2 h2 h3 h2)
end qm
namespace fM
@[reducible] def fn:Func:=Tryz.f112
def aY:List dJ:=focus [0,2,0,0,2,1,2,0,0,2,0,0] [.code (aL fn)]
def inv1(t:aA)(xg:Nat):St:=⟨[(1,(.ptr 1 0)),(13,(.pv (bB (bp ag.cells) t.roots))),(14,(eI (t.roots.length:Int))),(15,(eI (xg:Int)))],[(1,(.lit [(.pv (bB (bp ag.cells) t.roots))]))]⟩
@[reducible] def ah(t:aA)(xg:Nat)(r:PV):Prop:=L bu fn aY (inv1 t xg) r
theorem e0(t:aA)(h1:5<t.roots.length):Cp 112 [t.pv] (.iface 75 (vI 4)) :=
 eD func112 [] [.q,.h 2 (iL t.roots),.t,.q] (y2 (an lR t.roots) (ai h1))
theorem e1(t:aA){r:PV}(h1:t.roots.length≤5)(hL:ah t 0 r):Cp 112 [t.pv] r :=
 eG func112 [] [.q,.h 2 (iL t.roots),.f,.h 2 (iL t.roots),.aG [1,13,14,15]] (y3 (an lR t.roots) (ar h1) (an lR t.roots)) hL
theorem l10(t:aA)(b:Nat)(v:Rs)(h1:b<t.roots.length)(h2:t.roots[b]? = some v)(h3:b≤64)(h4:(1*2^b)<9223372036854775808)(h5:v.length≠(1*2^b)):ah t b (.iface 75 (vI 10)) :=
 lD [1,3] [.a,.q,.t,.h 1 (.row b (lR v)),.aR [.o,(iL v),.o,(iI (((1*2^b):Nat):Int))],.t,.q] (y5 (ai h1) (ba lR (rN b) h2) (an ag.cells v) (bS (k := .i64) h3 h4) (dj h5))
theorem cB(t:aA)(b:Nat)(v:Rs)(c:Int)(h1:b<t.roots.length)(h2:t.roots[b]? = some v)(h3:b≤64)(h4:(1*2^b)<9223372036854775808)(h5:v.length=(1*2^b))(h6:b≤t.roots.length)(h7:Cp 113 [(⟨(t.roots.take b)⟩:aA).pv,ae v] .aC)(h8:Cp 63 [(⟨(t.roots.take b)⟩:aA).pv,ae v] (vI c))(h9:c<0):ah t b (.iface 75 (vI 3)) :=
 lD [1,3,1,1,1,6] [.a,.q,.t,.h 1 (.row b (lR v)),.aR [.o,(iL v),.o,(iI (((1*2^b):Nat):Int))],.f,.h 3 (.fj 0 b (((t.roots.take b):List (Rs)).map lR)),.h 2 (.pv .aC),.q,.a,.h 2 (.pv (vI c)),.t,.q] (y9 (ai h1) (ba lR (rN b) h2) (an ag.cells v) (bS (k := .i64) h3 h4) (dk h5) (fY (iM ag.cells) (t.roots:List (Rs)) (rN b) h6) h7 h8 (bA h9))
theorem jT(t:aA)(b:Nat)(v:Rs)(c:Int){r:PV}(h1:b<t.roots.length)(h2:t.roots[b]? = some v)(h3:b≤64)(h4:(1*2^b)<9223372036854775808)(h5:v.length=(1*2^b))(h6:b≤t.roots.length)(h7:Cp 113 [(⟨(t.roots.take b)⟩:aA).pv,ae v] .aC)(h8:Cp 63 [(⟨(t.roots.take b)⟩:aA).pv,ae v] (vI c))(h9:0≤c)(bQ:(b+1)<9223372036854775808)(hL:ah t (b+1) r):ah t b r :=
 lG [1,3,1,1,1,6] [.a,.q,.t,.h 1 (.row b (lR v)),.aR [.o,(iL v),.o,(iI (((1*2^b):Nat):Int))],.f,.h 3 (.fj 0 b (((t.roots.take b):List (Rs)).map lR)),.h 2 (.pv .aC),.q,.a,.h 2 (.pv (vI c)),.f,.h 0 (iI (((b+1):Nat):Int)),.aG [1,13,14,15],.drop [5]] (JT (ai h1) (ba lR (rN b) h2) (an ag.cells v) (bS (k := .i64) h3 h4) (dk h5) (fY (iM ag.cells) (t.roots:List (Rs)) (rN b) h6) h7 h8 (bm h9) (aJ bQ)) hL
theorem tN(t:aA)(b:Nat)(v:Rs)(c:Int)(h1:b<t.roots.length)(h2:t.roots[b]? = some v)(h3:b≤64)(h4:(1*2^b)<9223372036854775808)(h5:v.length=(1*2^b))(h6:b≤t.roots.length)(h7:Cp 113 [(⟨(t.roots.take b)⟩:aA).pv,ae v] (.iface 75 (vI c))):ah t b (.iface 75 (vI c)) :=
 lD [1,3,1,1,1,6] [.a,.q,.t,.h 1 (.row b (lR v)),.aR [.o,(iL v),.o,(iI (((1*2^b):Nat):Int))],.f,.h 3 (.fj 0 b (((t.roots.take b):List (Rs)).map lR)),.h 2 (.pv (.iface 75 (vI c))),.q,.a,.q] (y7 (ai h1) (ba lR (rN b) h2) (an ag.cells v) (bS (k := .i64) h3 h4) (dk h5) (fY (iM ag.cells) (t.roots:List (Rs)) (rN b) h6) h7)
theorem Bz(t:aA)(b:Nat)(h1:t.roots.length≤b):ah t b .aC :=
 lD [] [.a,.q,.f,.q] (y1 (ar h1))
end fM
namespace eP
@[reducible] def fn:Func:=Tryz.f58
def aY:List dJ:=focus [0,2,0,0,2,0,2,1,2,0,0,2,0,0] [.code (aL fn)]
def inv1(list:List (List ag))(KL:Nat)(t:aA):St:=⟨[(2,(.ptr 2 0)),(14,(.pv (bB (bp ag.cells) list))),(15,(eI (list.length:Int))),(16,(eI (KL:Int)))],[(2,(.lit [(.pv (bB (bp ag.cells) t.roots))]))]⟩
@[reducible] def ah(list:List (List ag))(KL:Nat)(t:aA)(r:PV):Prop:=L bu fn aY (inv1 list KL t) r
theorem e0(t:aA)(b:List (Rs)){r:PV}(h1:Cp 112 [t.pv] .aC)(hL:ah b 0 t r):Cp 58 [t.pv,(bB lR b)] r :=
 eG func58 [] [.q,.h 1 (.pv .aC),.q,.a,.h 1 (iL b),.aG [2,14,15,16]] (y2 h1 (an lR b)) hL
theorem e1(t:aA)(b:List (Rs))(c:Int)(h1:Cp 112 [t.pv] (.iface 75 (vI c))):Cp 58 [t.pv,(bB lR b)] (.iface 75 (vI c)) :=
 eD func58 [] [.q,.h 1 (.pv (.iface 75 (vI c))),.q,.a,.q] (y1 h1)
theorem l10(b:List (Rs))(c:Nat)(t:aA)(v:Rs){r:PV}(h1:c<b.length)(h2:b[c]? = some v)(h3:Cp 113 [t.pv,ae v] .aC)(h4:(c+1)<9223372036854775808)(hL:ah b (c+1) t r):ah b c t r :=
 lG [1,3] [.a,.q,.t,.h 0 (.row c (lR v)),.h 2 (.pv .aC),.q,.a,.h 0 (iI (((c+1):Nat):Int)),.aG [2,14,15,16]] (y4 (ai h1) (ba lR (rN c) h2) h3 (aJ h4)) hL
theorem cB(b:List (Rs))(c:Nat)(t:aA)(v:Rs)(d:Int)(h1:c<b.length)(h2:b[c]? = some v)(h3:Cp 113 [t.pv,ae v] (.iface 75 (vI d))):ah b c t (.iface 75 (vI d)) :=
 lD [1,3] [.a,.q,.t,.h 0 (.row c (lR v)),.h 2 (.pv (.iface 75 (vI d))),.q,.a,.q] (y3 (ai h1) (ba lR (rN c) h2) h3)
theorem jT(b:List (Rs))(c:Nat)(t:aA)(h1:b.length≤c):ah b c t .aC :=
 lD [] [.a,.q,.f,.q] (y1 (ar h1))
end eP
namespace gm
@[reducible] def fn:Func:=Tryz.f113
def aY:List dJ:=focus [0,2,0,0,2,0,0,2,0,2,1,2,0,0,2,0,0] [.code (aL fn)]
def inv1(a:List ag)(z8:Nat):St:=⟨[(23,(.pv (ae a))),(24,(eI (a.length:Int))),(25,(eI (z8:Int)))],[]⟩
@[reducible] def ah(a:List ag)(z8:Nat)(r:PV):Prop:=L bu fn aY (inv1 a z8) r
theorem e0(t:aA)(a:Rs)(b:Int)(h1:0<a.length)(h2:Cp 114 [ae a] (vI b))(h3:b<0):Cp 113 [t.pv,ae a] (.iface 75 (vI 10)) :=
 eD func113 [] [.q,.h 1 (iL a),.t,.h 1 (.pv (vI b)),.aR [.o,.o,.o,.skip,.skip,.skip,.skip,.skip,(.dec true)],.a,.q] (y9 (an ag.cells a) (ai h1) h2 (bA h3) (bA h3) (bA h3) (bA h3) (bA h3) (bA h3))
theorem e1(t:aA)(a:Rs)(b:Int)(h1:0<a.length)(h2:Cp 114 [ae a] (vI b))(h3:0≤b)(h4:(t.roots.length:Int)<b):Cp 113 [t.pv,ae a] (.iface 75 (vI 10)) :=
 eD func113 [] [.q,.h 1 (iL a),.t,.h 1 (.pv (vI b)),.aR [.o,.o,.o,.o,.o,.o,(iL t.roots),.o,(.dec false)],.t,.q] (EK (an ag.cells a) (ai h1) h2 (bm h3) (bm h3) (bm h3) (bm h3) (an lR t.roots) (bm h3) (bm h3) (bA h4))
theorem e2(t:aA)(a:Rs)(b:Int){r:PV}(h1:0<a.length)(h2:Cp 114 [ae a] (vI b))(h3:0≤b)(h4:b≤(t.roots.length:Int))(hL:ah a 0 r):Cp 113 [t.pv,ae a] r :=
 eG func113 [] [.q,.h 1 (iL a),.t,.h 1 (.pv (vI b)),.aR [.o,.o,.o,.o,.o,.o,(iL t.roots),.o,(.dec false)],.f,.h 1 (iL a),.aG [23,24,25],.drop [2]] (IF (an ag.cells a) (ai h1) h2 (bm h3) (bm h3) (bm h3) (bm h3) (an lR t.roots) (bm h3) (bm h3) (bm h4) (an ag.cells a)) hL
theorem e3(t:aA)(a:Rs){r:PV}(h1:a.length≤0)(hL:ah a 0 r):Cp 113 [t.pv,ae a] r :=
 eG func113 [] [.q,.h 1 (iL a),.f,.h 1 (iL a),.aG [23,24,25],.drop [2]] (y3 (an ag.cells a) (ar h1) (an ag.cells a)) hL
theorem l10(a:Rs)(b:Nat)(v:ag)(c:Bool)(h1:b<a.length)(h2:a[b]? = some v)(h3:Cp 102 [v.pv] (vB c))(h4:c=false):ah a b (.iface 75 (vI 2)) :=
 lD [1,3] [.a,.q,.t,.h 0 (.row b (ag.cells v)),.h 1 (.pv (vB c)),.t,.q] (y4 (ai h1) (ba ag.cells (rN b) h2) h3 (dm h4))
theorem cB(a:Rs)(b:Nat)(v:ag)(c:Bool){r:PV}(h1:b<a.length)(h2:a[b]? = some v)(h3:Cp 102 [v.pv] (vB c))(h4:c=true)(h5:(b+1)<9223372036854775808)(hL:ah a (b+1) r):ah a b r :=
 lG [1,3] [.a,.q,.t,.h 0 (.row b (ag.cells v)),.h 1 (.pv (vB c)),.f,.h 0 (iI (((b+1):Nat):Int)),.aG [23,24,25],.drop [7]] (y5 (ai h1) (ba ag.cells (rN b) h2) h3 (bw h4) (aJ h5)) hL
theorem jT(a:Rs)(b:Nat)(h1:a.length≤b):ah a b .aC :=
 lD [] [.a,.q,.f,.q] (y1 (ar h1))
end gm
namespace ct
@[reducible] def fn:Func:=Tryz.f114
def aY:List dJ:=focus [0,2,0,2,0,0,0] [.code (aL fn)]
def inv1(a:List ag)(k_3:Nat):St:=⟨[(0,(.pv (ae a))),(3,(eI (k_3:Int)))],[]⟩
@[reducible] def ah(a:List ag)(k_3:Nat)(r:PV):Prop:=L bu fn aY (inv1 a k_3) r
theorem e0 (a : Rs) {r : PV}  (hL : ah a 0 r) : Cp 114 [ae a] r :=
 eG func114 [] [.q,.q,.aG [0,3]] True.intro hL
theorem l10(a:Rs)(b:Nat){r:PV}(h1:b≤64)(h2:(1*2^b)<9223372036854775808)(h3:(1*2^b)<a.length)(h4:(b+1)<9223372036854775808)(hL:ah a (b+1) r):ah a b r :=
 lG [] [.a,.aR [.o,(iI (((1*2^b):Nat):Int)),.o,(iL a)],.t,.h 1 (iI (((b+1):Nat):Int)),.aG [0,3]] (y4 (bS (k := .i64) h1 h2) (an ag.cells a) (ai h3) (aJ h4)) hL
theorem cB(a:Rs)(b:Nat)(h1:b≤64)(h2:(1*2^b)<9223372036854775808)(h3:a.length≤(1*2^b))(h4:(1*2^b)≠a.length):ah a b (vI (-1)) :=
 lD [] [.a,.aR [.o,(iI (((1*2^b):Nat):Int)),.o,(iL a)],.f,.aR [.o,(iI (((1*2^b):Nat):Int)),.o,(iL a)],.t,.q] (y6 (bS (k := .i64) h1 h2) (an ag.cells a) (ar h3) (bS (k := .i64) h1 h2) (an ag.cells a) (dj h4))
theorem jT(a:Rs)(b:Nat)(h1:b≤64)(h2:(1*2^b)<9223372036854775808)(h3:a.length≤(1*2^b))(h4:(1*2^b)=a.length):ah a b (vI (b:Int)) :=
 lD [] [.a,.aR [.o,(iI (((1*2^b):Nat):Int)),.o,(iL a)],.f,.aR [.o,(iI (((1*2^b):Nat):Int)),.o,(iL a)],.f,.q] (y6 (bS (k := .i64) h1 h2) (an ag.cells a) (ar h3) (bS (k := .i64) h1 h2) (an ag.cells a) (dk h4))
end ct
namespace kp
theorem e0(t:aA)(a b:Rs)(h1:Cp 59 [ae a] (ae b))(h2:b.length=0):Cp 63 [t.pv,ae a] (vI 0) :=
 eD func63 [] [.q,.h 1 (.pv (ae b)),.h 1 (iL b),.t,.q] (y3 h1 (an ag.cells b) (aM h2))
theorem e1(t:aA)(a b:Rs)(v:ag)(c:Int)(h1:Cp 59 [ae a] (ae b))(h2:b.length≠0)(h3:b.length=1)(h4:b[0]? = some v)(h5:Cp 119 [v.pv] (vI c)):Cp 63 [t.pv,ae a] (vI c) :=
 eD func63 [1,1,1,1,1,3] [.q,.h 1 (.pv (ae b)),.h 1 (iL b),.f,.h 1 (iL b),.t,.aR [.o,(.row 0 (ag.cells v)),.o,(.pv (vI c))]] (y7 h1 (an ag.cells b) (aB h2) (an ag.cells b) (aM h3) (ba ag.cells (Eq.refl (0:Int)) h4) h5)
theorem e2(t:aA)(a b:Rs)(c d g:Int)(k:Nat)(v:Rs)(i:Int)(h1:Cp 59 [ae a] (ae b))(h2:b.length≠0)(h3:b.length≠1)(h4:b.length<9223372036854775808)(h5:(b.length/2)≤b.length)(h6:Cp 63 [t.pv,(ae (b.take (b.length/2)))] (vI c))(h7:(b.length/2)≤(b:Rs).length)(h8:Cp 63 [t.pv,(ae (b.drop (b.length/2)))] (vI d))(h9:Cp 114 [ae b] (vI g))(bQ:ay (g-1))(dU:(g-1)=(k:Int))(fP:t.roots[k]? = some v)(k7:Cp 63 [t.pv,ae v] (vI i))(oS:i=0):Cp 63 [t.pv,ae a] (vI c) :=
 eD func63 [1,1,1,1,1,1,1,6,1,6,1,1,1,3] [.q,.h 1 (.pv (ae b)),.h 1 (iL b),.f,.h 1 (iL b),.f,.aR [.o,(iL b),(iI (((b.length/2):Nat):Int))],dr 10 2 [.none,.none,.none,(.fj 0 (b.length/2) (((b.take (b.length/2)):Rs).map ag.cells)),(.pv (vI c)),.none,.none,.none,(.fj (b.length/2) ((b:Rs).length) (((b.drop (b.length/2)):Rs).map ag.cells)),(.pv (vI d))],dr 10 0 [.none,.none,.none,.none,(.pv (vI g)),(iI (g-1)),(.row k (lR v)),.none,(.pv (vI i))],.t,.q] (HM h1 (an ag.cells b) (aB h2) (an ag.cells b) (aB h3) (an ag.cells b) (cC (y:=2) (by decide) h4) (fY aD (b:Rs) (rN (b.length/2)) h5) h6 (mD aD (b:Rs) (rN (b.length/2)) h7) h8 h9 (aQ bQ) (ba lR dU fP) k7 (aU oS))
theorem e3(t:aA)(a b:Rs)(c d g:Int)(k:Nat)(v:Rs)(i:Int)(h1:Cp 59 [ae a] (ae b))(h2:b.length≠0)(h3:b.length≠1)(h4:b.length<9223372036854775808)(h5:(b.length/2)≤b.length)(h6:Cp 63 [t.pv,(ae (b.take (b.length/2)))] (vI c))(h7:(b.length/2)≤(b:Rs).length)(h8:Cp 63 [t.pv,(ae (b.drop (b.length/2)))] (vI d))(h9:Cp 114 [ae b] (vI g))(bQ:ay (g-1))(dU:(g-1)=(k:Int))(fP:t.roots[k]? = some v)(k7:Cp 63 [t.pv,ae v] (vI i))(oS:i≠0)(nz:c=d):Cp 63 [t.pv,ae a] (vI c) :=
 eD func63 [1,1,1,1,1,1,1,6,1,6,1,1,1,3] [.q,.h 1 (.pv (ae b)),.h 1 (iL b),.f,.h 1 (iL b),.f,.aR [.o,(iL b),(iI (((b.length/2):Nat):Int))],dr 10 2 [.none,.none,.none,(.fj 0 (b.length/2) (((b.take (b.length/2)):Rs).map ag.cells)),(.pv (vI c)),.none,.none,.none,(.fj (b.length/2) ((b:Rs).length) (((b.drop (b.length/2)):Rs).map ag.cells)),(.pv (vI d))],dr 10 0 [.none,.none,.none,.none,(.pv (vI g)),(iI (g-1)),(.row k (lR v)),.none,(.pv (vI i))],.f,.aR [.o,.o,.o,.o,.skip,.skip,(.dec true)],.a,.q] (YT h1 (an ag.cells b) (aB h2) (an ag.cells b) (aB h3) (an ag.cells b) (cC (y:=2) (by decide) h4) (fY aD (b:Rs) (rN (b.length/2)) h5) h6 (mD aD (b:Rs) (rN (b.length/2)) h7) h8 h9 (aQ bQ) (ba lR dU fP) k7 (bf oS) (aU nz) (aU nz) (aU nz))
theorem e4(t:aA)(a b:Rs)(c d g:Int)(k:Nat)(v:Rs)(i:Int)(h1:Cp 59 [ae a] (ae b))(h2:b.length≠0)(h3:b.length≠1)(h4:b.length<9223372036854775808)(h5:(b.length/2)≤b.length)(h6:Cp 63 [t.pv,(ae (b.take (b.length/2)))] (vI c))(h7:(b.length/2)≤(b:Rs).length)(h8:Cp 63 [t.pv,(ae (b.drop (b.length/2)))] (vI d))(h9:Cp 114 [ae b] (vI g))(bQ:ay (g-1))(dU:(g-1)=(k:Int))(fP:t.roots[k]? = some v)(k7:Cp 63 [t.pv,ae v] (vI i))(oS:i≠0)(nz:c≠d)(wU:d=0):Cp 63 [t.pv,ae a] (vI c) :=
 eD func63 [1,1,1,1,1,1,1,6,1,6,1,1,1,3] [.q,.h 1 (.pv (ae b)),.h 1 (iL b),.f,.h 1 (iL b),.f,.aR [.o,(iL b),(iI (((b.length/2):Nat):Int))],dr 10 2 [.none,.none,.none,(.fj 0 (b.length/2) (((b.take (b.length/2)):Rs).map ag.cells)),(.pv (vI c)),.none,.none,.none,(.fj (b.length/2) ((b:Rs).length) (((b.drop (b.length/2)):Rs).map ag.cells)),(.pv (vI d))],dr 10 0 [.none,.none,.none,.none,(.pv (vI g)),(iI (g-1)),(.row k (lR v)),.none,(.pv (vI i))],.f,.h 6 (.dec false),.t,.q] (Pu h1 (an ag.cells b) (aB h2) (an ag.cells b) (aB h3) (an ag.cells b) (cC (y:=2) (by decide) h4) (fY aD (b:Rs) (rN (b.length/2)) h5) h6 (mD aD (b:Rs) (rN (b.length/2)) h7) h8 h9 (aQ bQ) (ba lR dU fP) k7 (bf oS) (bf nz) (bf nz) (bf nz) (aU wU))
theorem e5(t:aA)(a b:Rs)(c d g:Int)(k:Nat)(v:Rs)(i:Int)(h1:Cp 59 [ae a] (ae b))(h2:b.length≠0)(h3:b.length≠1)(h4:b.length<9223372036854775808)(h5:(b.length/2)≤b.length)(h6:Cp 63 [t.pv,(ae (b.take (b.length/2)))] (vI c))(h7:(b.length/2)≤(b:Rs).length)(h8:Cp 63 [t.pv,(ae (b.drop (b.length/2)))] (vI d))(h9:Cp 114 [ae b] (vI g))(bQ:ay (g-1))(dU:(g-1)=(k:Int))(fP:t.roots[k]? = some v)(k7:Cp 63 [t.pv,ae v] (vI i))(oS:i≠0)(nz:c≠d)(wU:d≠0)(zv:c=0):Cp 63 [t.pv,ae a] (vI d) :=
 eD func63 [1,1,1,1,1,1,1,6,1,6,1,1,1,3] [.q,.h 1 (.pv (ae b)),.h 1 (iL b),.f,.h 1 (iL b),.f,.aR [.o,(iL b),(iI (((b.length/2):Nat):Int))],dr 10 2 [.none,.none,.none,(.fj 0 (b.length/2) (((b.take (b.length/2)):Rs).map ag.cells)),(.pv (vI c)),.none,.none,.none,(.fj (b.length/2) ((b:Rs).length) (((b.drop (b.length/2)):Rs).map ag.cells)),(.pv (vI d))],dr 10 0 [.none,.none,.none,.none,(.pv (vI g)),(iI (g-1)),(.row k (lR v)),.none,(.pv (vI i))],.f,.h 6 (.dec false),.f,.q,.t,.q] (U4 h1 (an ag.cells b) (aB h2) (an ag.cells b) (aB h3) (an ag.cells b) (cC (y:=2) (by decide) h4) (fY aD (b:Rs) (rN (b.length/2)) h5) h6 (mD aD (b:Rs) (rN (b.length/2)) h7) h8 h9 (aQ bQ) (ba lR dU fP) k7 (bf oS) (bf nz) (bf nz) (bf nz) (bf wU) (aU zv))
theorem e6(t:aA)(a b:Rs)(c d g:Int)(k:Nat)(v:Rs)(i:Int)(j:Rs)(l:Int)(h1:Cp 59 [ae a] (ae b))(h2:b.length≠0)(h3:b.length≠1)(h4:b.length<9223372036854775808)(h5:(b.length/2)≤b.length)(h6:Cp 63 [t.pv,(ae (b.take (b.length/2)))] (vI c))(h7:(b.length/2)≤(b:Rs).length)(h8:Cp 63 [t.pv,(ae (b.drop (b.length/2)))] (vI d))(h9:Cp 114 [ae b] (vI g))(bQ:ay (g-1))(dU:(g-1)=(k:Int))(fP:t.roots[k]? = some v)(k7:Cp 63 [t.pv,ae v] (vI i))(oS:i≠0)(nz:c≠d)(wU:d≠0)(zv:c≠0)(HN:Cp 120 [t.pv,ae b] (ae j))(EL:Cp 63 [t.pv,ae j] (vI l))(Nz:ay (c*l)):Cp 63 [t.pv,ae a] (vI (c*l)) :=
 eD func63 [1,1,1,1,1,1,1,6,1,6,1,1,1,3] [.q,.h 1 (.pv (ae b)),.h 1 (iL b),.f,.h 1 (iL b),.f,.aR [.o,(iL b),(iI (((b.length/2):Nat):Int))],dr 10 2 [.none,.none,.none,(.fj 0 (b.length/2) (((b.take (b.length/2)):Rs).map ag.cells)),(.pv (vI c)),.none,.none,.none,(.fj (b.length/2) ((b:Rs).length) (((b.drop (b.length/2)):Rs).map ag.cells)),(.pv (vI d))],dr 10 0 [.none,.none,.none,.none,(.pv (vI g)),(iI (g-1)),(.row k (lR v)),.none,(.pv (vI i))],.f,.h 6 (.dec false),.f,.q,.f,dr 7 1 [.none,.none,.none,.none,(.pv (ae j)),(.pv (vI l)),(iI (c*l))]] (Xx h1 (an ag.cells b) (aB h2) (an ag.cells b) (aB h3) (an ag.cells b) (cC (y:=2) (by decide) h4) (fY aD (b:Rs) (rN (b.length/2)) h5) h6 (mD aD (b:Rs) (rN (b.length/2)) h7) h8 h9 (aQ bQ) (ba lR dU fP) k7 (bf oS) (bf nz) (bf nz) (bf nz) (bf wU) (bf zv) HN EL (pL Nz))
end kp
namespace hO
@[reducible] def fn:Func:=Tryz.f59
def aY:List dJ:=focus [0,2,0,0,2,0,2,1,2,0,2,0,0,0] [.code (aL fn)]
def inv1(a:List ag)(n_4:Nat):St:=⟨[(0,(.pv (ae a))),(4,(eI (n_4:Int)))],[]⟩
@[reducible] def ah(a:List ag)(n_4:Nat)(r:PV):Prop:=L bu fn aY (inv1 a n_4) r
theorem e2(a:Rs)(b:Int){r:PV}(h1:Cp 114 [ae a] (vI b))(h2:0<a.length)(h3:0≤b)(h4:b≤5)(hL:ah a a.length r):Cp 59 [ae a] r :=
 eG func59 [] [.q,.h 1 (.pv (vI b)),.aR [.o,(iL a),.o,.o,.o,.o,.o,.o,.o,(.dec false),(.dec true)],.f,.h 1 (iL a),.aG [0,4]] (IF h1 (an ag.cells a) (ai h2) (ai h2) (ai h2) (bm h3) (bm h3) (ai h2) (bm h3) (ai h2) (bm h4) (an ag.cells a)) hL
theorem e3(a:Rs)(b:Int){r:PV}(h1:Cp 114 [ae a] (vI b))(h2:a.length≤0)(hL:ah a a.length r):Cp 59 [ae a] r :=
 eG func59 [] [.q,.h 1 (.pv (vI b)),.aR [.o,(iL a),.o,.o,.skip,.skip,.skip,.skip,.skip,.skip,(.dec false)],.a,.h 1 (iL a),.aG [0,4]] (y8 h1 (an ag.cells a) (ar h2) (ar h2) (ar h2) (ar h2) (ar h2) (an ag.cells a)) hL
theorem l10(a:Rs)(b:Nat)(c:Bool){r:PV}(h1:1<b)(h2:b<9223372036854775808)(h3:b≤a.length)(h4:(b/2)≤b)(h5:Cp 115 [(ae ((a.take b).drop (b/2)))] (vB c))(h6:c=true)(hL:ah a (b/2) r):ah a b r :=
 lG [1,1,1,1,1,1,6] [.a,.aR [.o,.o,.o,.o,.o,(iI (((b/2):Nat):Int)),.o,(.fj (b/2) b ((((a.take b).drop (b/2)):Rs).map ag.cells)),(.pv (vB c)),(.dec true)],.t,.h 1 (iI (((b/2):Nat):Int)),.aG [0,4]] (IF (ai h1) (ai h1) (ai h1) (cC (y:=2) (by decide) h2) (ai h1) (ai h1) (R8 aD (a:Rs) (rN (b/2)) (rN b) h4 h3) (ai h1) h5 (ai h1) h6 (cC (y:=2) (by decide) h2)) hL
theorem tN(a:Rs)(b:Nat)(c:Bool)(d:Rs)(h1:1<b)(h2:b<9223372036854775808)(h3:b≤a.length)(h4:(b/2)≤b)(h5:Cp 115 [(ae ((a.take b).drop (b/2)))] (vB c))(h6:c=false)(h7:b≠1)(h8:Cp 78 [(ae (a.take b))] (ae d)):ah a b (ae d) :=
 lD [1,1,1,1,1,1,6,1,1,1,1,1,1,1,1,6] [.a,.aR [.o,.o,.o,.o,.o,(iI (((b/2):Nat):Int)),.o,(.fj (b/2) b ((((a.take b).drop (b/2)):Rs).map ag.cells)),(.pv (vB c)),(.dec true)],.f,.aR [.o,.o,.o,.skip,.skip,.skip,(.dec false)],.a,.aR [.o,.o,(.fj 0 b (((a.take b):Rs).map ag.cells)),(.pv (ae d))]] (Ny (ai h1) (ai h1) (ai h1) (cC (y:=2) (by decide) h2) (ai h1) (ai h1) (R8 aD (a:Rs) (rN (b/2)) (rN b) h4 h3) (ai h1) h5 (ai h1) h6 (aB h7) (aB h7) (aB h7) (aB h7) (fY aD (a:Rs) (rN b) h3) h8)
theorem Bz(a:Rs)(b:Nat)(c:Bool)(h1:b≤1)(h2:b=1)(h3:1≤a.length)(h4:Cp 115 [(ae (a.take 1))] (vB c))(h5:c=true):ah a b (ae []) :=
 lD [1,1,1,1,1,1,1,1,1,6] [.a,.aR [.o,.o,.o,.skip,.skip,.skip,.skip,.skip,.skip,(.dec false)],.a,.aR [.o,.o,.o,.o,(.fj 0 1 (((a.take 1):Rs).map ag.cells)),(.pv (vB c)),(.dec true)],.t,.q] (Nv (ar h1) (ar h1) (ar h1) (ar h1) (ar h1) (ar h1) (ar h1) (aM h2) (aM h2) (fY aD (a:Rs) (Eq.refl (1:Int)) h3) (aM h2) h4 (aM h2) h5)
theorem Vj(a:Rs)(b:Nat)(c:Bool)(d:Rs)(h1:b≤1)(h2:b=1)(h3:1≤a.length)(h4:Cp 115 [(ae (a.take 1))] (vB c))(h5:c=false)(h6:b≤a.length)(h7:Cp 78 [(ae (a.take b))] (ae d)):ah a b (ae d) :=
 lD [1,1,1,1,1,1,1,1,1,6,1,1,1,1,6] [.a,.aR [.o,.o,.o,.skip,.skip,.skip,.skip,.skip,.skip,(.dec false)],.a,.aR [.o,.o,.o,.o,(.fj 0 1 (((a.take 1):Rs).map ag.cells)),(.pv (vB c)),(.dec true)],.f,.aR [.o,.o,(.fj 0 b (((a.take b):Rs).map ag.cells)),(.pv (ae d))]] (HM (ar h1) (ar h1) (ar h1) (ar h1) (ar h1) (ar h1) (ar h1) (aM h2) (aM h2) (fY aD (a:Rs) (Eq.refl (1:Int)) h3) (aM h2) h4 (aM h2) h5 (fY aD (a:Rs) (rN b) h6) h7)
theorem XB(a:Rs)(b:Nat)(c:Rs)(h1:b≤1)(h2:b≠1)(h3:b≤a.length)(h4:Cp 78 [(ae (a.take b))] (ae c)):ah a b (ae c) :=
 lD [1,1,1,1,1,1,1,1,1,1,1,6] [.a,.aR [.o,.o,.o,.skip,.skip,.skip,.skip,.skip,.skip,(.dec false)],.a,.aR [.o,.o,.o,.skip,.skip,.skip,(.dec false)],.a,.aR [.o,.o,(.fj 0 b (((a.take b):Rs).map ag.cells)),(.pv (ae c))]] (IG (ar h1) (ar h1) (ar h1) (ar h1) (ar h1) (ar h1) (ar h1) (aB h2) (aB h2) (aB h2) (aB h2) (fY aD (a:Rs) (rN b) h3) h4)
end hO
namespace je
@[reducible] def fn:Func:=Tryz.f115
def aY:List dJ:=focus [0,2,0,0,2,0,0] [.code (aL fn)]
def inv1(a:List ag)(PC:Nat):St:=⟨[(5,(.pv (ae a))),(6,(eI (a.length:Int))),(7,(eI (PC:Int)))],[]⟩
@[reducible] def ah(a:List ag)(PC:Nat)(r:PV):Prop:=L bu fn aY (inv1 a PC) r
theorem e0 (a : Rs) {r : PV}  (hL : ah a 0 r) : Cp 115 [ae a] r :=
 eG func115 [] [.q,.h 1 (iL a),.aG [5,6,7]] (y1 (an ag.cells a)) hL
theorem l10(a:Rs)(b:Nat)(v:ag)(h1:b<a.length)(h2:a[b]? = some v)(h3:v.neg=true):ah a b (vB false) :=
 lD [1,3] [.a,.q,.t,.h 0 (.row b (ag.cells v)),.aR [.o,.o,.o,.skip,.skip,.skip,.skip,(.dec true),.o,.skip,.skip,.skip,.skip],.a,.q] (EK (ai h1) (ba ag.cells (rN b) h2) h3 h3 h3 h3 h3 rT rT rT rT)
theorem cB(a:Rs)(b:Nat)(v:ag)(h1:b<a.length)(h2:a[b]? = some v)(h3:v.neg=false)(h4:0<v.num.length):ah a b (vB false) :=
 lD [1,3] [.a,.q,.t,.h 0 (.row b (ag.cells v)),.aR [.o,.o,.o,.o,.o,(iL v.num),.o,(.dec false),.o,.skip,.skip,.skip,.skip,(.dec true)],.a,.q] (IG (ai h1) (ba ag.cells (rN b) h2) h3 h3 h3 (an aj v.num) h3 h3 (ai h4) (ai h4) (ai h4) (ai h4) (ai h4))
theorem jT(a:Rs)(b:Nat)(v:ag)(h1:b<a.length)(h2:a[b]? = some v)(h3:v.neg=false)(h4:v.num.length≤0)(h5:0<v.den.length):ah a b (vB false) :=
 lD [1,3] [.a,.q,.t,.h 0 (.row b (ag.cells v)),.aR [.o,.o,.o,.o,.o,(iL v.num),.o,(.dec false),.o,.o,.o,(iL v.den),.o,(.dec false)],.t,.q] (Nx (ai h1) (ba ag.cells (rN b) h2) h3 h3 h3 (an aj v.num) h3 h3 (ar h4) (ar h4) (ar h4) (an aj v.den) (ar h4) (ar h4) (ai h5))
theorem tN(a:Rs)(b:Nat)(v:ag){r:PV}(h1:b<a.length)(h2:a[b]? = some v)(h3:v.neg=false)(h4:v.num.length≤0)(h5:v.den.length≤0)(h6:(b+1)<9223372036854775808)(hL:ah a (b+1) r):ah a b r :=
 lG [1,3] [.a,.q,.t,.h 0 (.row b (ag.cells v)),.aR [.o,.o,.o,.o,.o,(iL v.num),.o,(.dec false),.o,.o,.o,(iL v.den),.o,(.dec false)],.f,.h 0 (iI (((b+1):Nat):Int)),.aG [5,6,7],.drop [4]] (HM (ai h1) (ba ag.cells (rN b) h2) h3 h3 h3 (an aj v.num) h3 h3 (ar h4) (ar h4) (ar h4) (an aj v.den) (ar h4) (ar h4) (ar h5) (aJ h6)) hL
theorem Bz(a:Rs)(b:Nat)(h1:a.length≤b):ah a b (vB true) :=
 lD [] [.a,.q,.f,.q] (y1 (ar h1))
end je
namespace mR
@[reducible] def fn:Func:=Tryz.f78
def aY:List dJ:=focus [0,2,0,2,0,0,2,0,0] [.code (aL fn)]
def inv1(o9 a:List ag)(tW:Nat):St:=⟨[(3,(.row 25 0 o9.length 3)),(6,(.pv (ae a))),(7,(eI (a.length:Int))),(8,(eI (tW:Int)))],[(25,(.pure ((o9:List ag).map ag.cells).flatten))]⟩
@[reducible] def ah(o9 a:List ag)(tW:Nat)(r:PV):Prop:=L bu fn aY (inv1 o9 a tW) r
theorem e0 (a : Rs) {r : PV}  (hL : ah [] a 0 r) : Cp 78 [ae a] r :=
 eG func78 [] [.q,.h 0 .nil,.iK 3 25 3,.h 1 (iL a),.aG [3,6,7,8]] (y1 (an ag.cells a)) hL
theorem Dz(o9 a:List ag)(tW:Nat)(v:ag):qF bu Fi fn [0,2,0,2,0,0,2,0,0,0,0,2,0,0,2,0,0,0,2] [0] [.none,.none,.none,.none,.none,.none,(.fj (v.num:List UInt32).length 0 ((v.num:List UInt32).map aj)),.none,.none,.none,(.fj (v.den:List UInt32).length 0 ((v.den:List UInt32).map aj)),.none,.none,(.app ((o9++[v]):List ag).length (((o9++[v]):List ag).map ag.cells).flatten),.none] ⟨[(3,(.row 25 0 o9.length 3)),(5,(.ptr 5 0)),(6,(.pv (ae a))),(7,(eI (a.length:Int))),(8,(eI (tW:Int)))],[(5,(.lit [(eB v.neg),(.pv (af v.num)),(.pv (af v.den))])),(25,(pC ag.cells o9))]⟩:=by unfold qF z6;kernel_rfl
theorem l10(b a:Rs)(c:Nat)(v:ag){r:PV}(h1:c<a.length)(h2:a[c]? = some v)(h3:(([]:Ws)++v.num:Ws).length*4≤140737488355328)(h4:(([]:Ws)++v.den:Ws).length*4≤140737488355328)(h5:((b++[v]):Rs).length*56≤140737488355328)(h6:(c+1)<9223372036854775808)(hL:ah (b++[v]) a (c+1) r):ah b a c r :=
 lG [1,3,6,3,6,3,6] [.a,.q,.t,.h 0 (.row c (ag.cells v)),.aG [3,5,6,7,8],.any [0] [.none,.none,.none,.none,.none,.none,(.fj (v.num:Ws).length 0 ((v.num:Ws).map aj)),.none,.none,.none,(.fj (v.den:Ws).length 0 ((v.den:Ws).map aj)),.none,.none,(.app ((b++[v]):Rs).length (((b++[v]):Rs).map ag.cells).flatten),.none],.h 0 (iI (((c+1):Nat):Int)),.aG [3,6,7,8],.drop [24,5]] (y9 (ai h1) (ba ag.cells (rN c) h2) (iw bc ([]:Ws) (v.num:Ws) 4 (Eq.refl ([]:Ws).length) h3 rfl) (bU bc (v.num:Ws) (Eq.refl (v.num:Ws).length)) (iw bc ([]:Ws) (v.den:Ws) 4 (Eq.refl ([]:Ws).length) h4 rfl) (bU bc (v.den:Ws) (Eq.refl (v.den:Ws).length)) (fv aD (b:Rs) ([v]:Rs) 56 (Eq.refl (b:Rs).length) (Eq.refl ([v]:Rs).length) h5 rfl) (Dz b a c v) (aJ h6)) hL
theorem cB(b a:Rs)(c:Nat)(h1:a.length≤c):ah b a c (ae b) :=
 lD [1,3] [.a,.q,.f,.q,.dH 2 ((b:Rs).map ag.cells)] (y2 (ar h1) (bU aD (b:Rs) (Eq.refl (b:Rs).length)))
end mR
namespace et
theorem e0(t:aA)(a b:Rs)(c:Bool)(h1:a.length<b.length)(h2:Cp 116 [ae b] (vB c))(h3:c=true):Cp 60 [t.pv,ae a,ae b] (ae []) :=
 eD func60 [] [.q,.aR [.o,(iL a),.o,(iL b)],.t,.q,.aR [.o,(.pv (vB c)),.o,.skip,.skip,(.dec true)],.a,.q] (y7 (an ag.cells a) (an ag.cells b) (ai h1) h2 h3 h3 h3)
theorem e1(t:aA)(a b:Rs)(c d:Bool)(h1:a.length<b.length)(h2:Cp 116 [ae b] (vB c))(h3:c=false)(h4:Cp 116 [ae a] (vB d))(h5:d=true):Cp 60 [t.pv,ae a,ae b] (ae []) :=
 eD func60 [] [.q,.aR [.o,(iL a),.o,(iL b)],.t,.q,.aR [.o,(.pv (vB c)),.o,.o,(.pv (vB d)),(.dec false)],.t,.q] (y9 (an ag.cells a) (an ag.cells b) (ai h1) h2 h3 h3 h4 h3 h5)
theorem e3(t:aA)(a b:Rs)(c d:Bool)(g i j:Rs)(h1:a.length<b.length)(h2:Cp 116 [ae b] (vB c))(h3:c=false)(h4:Cp 116 [ae a] (vB d))(h5:d=false)(h6:b.length≠1)(h7:b.length<9223372036854775808)(h8:(b.length/2)≤b.length)(h9:(b.length/2)≤(b:Rs).length)(bQ:a.length≤(b.length/2))(dU:Cp 60 [t.pv,(ae (b.take (b.length/2))),ae a] (ae g))(fP:Cp 60 [t.pv,(ae (b.drop (b.length/2))),ae a] (ae i))(k7:Cp 118 [ae g,ae i,(vI (((b.length/2):Nat):Int))] (ae j)):Cp 60 [t.pv,ae a,ae b] (ae j) :=
 eD func60 [1,1,1,1,1,1,1,1,1,1,1,1,1,6,6] [.q,.aR [.o,(iL a),.o,(iL b)],.t,.q,.aR [.o,(.pv (vB c)),.o,.o,(.pv (vB d)),(.dec false)],.f,.h 1 (iL b),.f,.aR [.o,(iL b),(iI (((b.length/2):Nat):Int))],dr 7 1 [.none,.none,(.fj 0 (b.length/2) (((b.take (b.length/2)):Rs).map ag.cells)),.none,.none,(.fj (b.length/2) ((b:Rs).length) (((b.drop (b.length/2)):Rs).map ag.cells))],.h 1 (iL a),.t,dr 10 1 [.none,.none,.none,(.pv (ae g)),.none,.none,.none,(.pv (ae i)),.none,(.pv (ae j))]] (Pu (an ag.cells a) (an ag.cells b) (ai h1) h2 h3 h3 h4 h3 h5 (an ag.cells b) (aB h6) (an ag.cells b) (cC (y:=2) (by decide) h7) (fY aD (b:Rs) (rN (b.length/2)) h8) (mD aD (b:Rs) (rN (b.length/2)) h9) (an ag.cells a) (cI bQ) dU fP k7)
theorem e5(t:aA)(a b:Rs)(c:Bool)(h1:b.length≤a.length)(h2:Cp 116 [ae a] (vB c))(h3:c=true):Cp 60 [t.pv,ae a,ae b] (ae []) :=
 eD func60 [] [.q,.aR [.o,(iL a),.o,(iL b)],.f,.aR [.o,(.pv (vB c)),.o,.skip,.skip,(.dec true)],.a,.q] (y7 (an ag.cells a) (an ag.cells b) (ar h1) h2 h3 h3 h3)
theorem e6(t:aA)(a b:Rs)(c d:Bool)(h1:b.length≤a.length)(h2:Cp 116 [ae a] (vB c))(h3:c=false)(h4:Cp 116 [ae b] (vB d))(h5:d=true):Cp 60 [t.pv,ae a,ae b] (ae []) :=
 eD func60 [] [.q,.aR [.o,(iL a),.o,(iL b)],.f,.aR [.o,(.pv (vB c)),.o,.o,(.pv (vB d)),(.dec false)],.t,.q] (y9 (an ag.cells a) (an ag.cells b) (ar h1) h2 h3 h3 h4 h3 h5)
theorem e7(t:aA)(a b:Rs)(c d:Bool)(v v1 g:ag)(h1:b.length≤a.length)(h2:Cp 116 [ae a] (vB c))(h3:c=false)(h4:Cp 116 [ae b] (vB d))(h5:d=false)(h6:a.length=1)(h7:a[0]? = some v)(h8:b[0]? = some v1)(h9:Cp 117 [v.pv,v1.pv] g.pv):Cp 60 [t.pv,ae a,ae b] (ae [g]) :=
 eD func60 [1,1,1,1,1,1,1,1,1,1,1,3,3,1,3] [.q,.aR [.o,(iL a),.o,(iL b)],.f,.aR [.o,(.pv (vB c)),.o,.o,(.pv (vB d)),(.dec false)],.f,.h 1 (iL a),.t,dr 8 1 [.none,(.row 0 (ag.cells v)),.none,.none,(.row 0 (ag.cells v1)),.none,(.pv g.pv)],.dH 6 (([g]:Rs).map ag.cells)] (Nx (an ag.cells a) (an ag.cells b) (ar h1) h2 h3 h3 h4 h3 h5 (an ag.cells a) (aM h6) (ba ag.cells (Eq.refl (0:Int)) h7) (ba ag.cells (Eq.refl (0:Int)) h8) h9 (bU aD ([g]:Rs) (Eq.refl ([g]:Rs).length)))
theorem e8(t:aA)(a b:Rs)(c d:Bool)(g i j:Rs)(h1:b.length≤a.length)(h2:Cp 116 [ae a] (vB c))(h3:c=false)(h4:Cp 116 [ae b] (vB d))(h5:d=false)(h6:a.length≠1)(h7:a.length<9223372036854775808)(h8:(a.length/2)≤a.length)(h9:(a.length/2)≤(a:Rs).length)(bQ:b.length≤(a.length/2))(dU:Cp 60 [t.pv,(ae (a.take (a.length/2))),ae b] (ae g))(fP:Cp 60 [t.pv,(ae (a.drop (a.length/2))),ae b] (ae i))(k7:Cp 118 [ae g,ae i,(vI (((a.length/2):Nat):Int))] (ae j)):Cp 60 [t.pv,ae a,ae b] (ae j) :=
 eD func60 [1,1,1,1,1,1,1,1,1,1,1,1,1,6,6] [.q,.aR [.o,(iL a),.o,(iL b)],.f,.aR [.o,(.pv (vB c)),.o,.o,(.pv (vB d)),(.dec false)],.f,.h 1 (iL a),.f,.aR [.o,(iL a),(iI (((a.length/2):Nat):Int))],dr 7 1 [.none,.none,(.fj 0 (a.length/2) (((a.take (a.length/2)):Rs).map ag.cells)),.none,.none,(.fj (a.length/2) ((a:Rs).length) (((a.drop (a.length/2)):Rs).map ag.cells))],.h 1 (iL b),.t,dr 10 1 [.none,.none,.none,(.pv (ae g)),.none,.none,.none,(.pv (ae i)),.none,(.pv (ae j))]] (Pu (an ag.cells a) (an ag.cells b) (ar h1) h2 h3 h3 h4 h3 h5 (an ag.cells a) (aB h6) (an ag.cells a) (cC (y:=2) (by decide) h7) (fY aD (a:Rs) (rN (a.length/2)) h8) (mD aD (a:Rs) (rN (a.length/2)) h9) (an ag.cells b) (cI bQ) dU fP k7)
theorem e9(t:aA)(a b:Rs)(c d:Bool)(g:Int)(k:Nat)(v i j l m n p s u:Rs)(h1:b.length≤a.length)(h2:Cp 116 [ae a] (vB c))(h3:c=false)(h4:Cp 116 [ae b] (vB d))(h5:d=false)(h6:a.length≠1)(h7:a.length<9223372036854775808)(h8:(a.length/2)≤a.length)(h9:(a.length/2)≤(a:Rs).length)(bQ:(a.length/2)<b.length)(dU:(a.length/2)≤b.length)(fP:(a.length/2)≤(b:Rs).length)(k7:Cp 114 [ae a] (vI g))(oS:ay (g-1))(nz:(g-1)=(k:Int))(wU:t.roots[k]? = some v)(zv:Cp 60 [t.pv,(ae (a.take (a.length/2))),(ae (b.take (a.length/2)))] (ae i))(HN:Cp 60 [t.pv,(ae (a.drop (a.length/2))),(ae (b.drop (a.length/2)))] (ae j))(EL:Cp 60 [t.pv,ae j,ae v] (ae l))(Nz:Cp 61 [ae i,ae l] (ae m))(Vk:Cp 60 [t.pv,(ae (a.take (a.length/2))),(ae (b.drop (a.length/2)))] (ae n))(XC:Cp 60 [t.pv,(ae (a.drop (a.length/2))),(ae (b.take (a.length/2)))] (ae p))(h23:Cp 61 [ae n,ae p] (ae s))(h24:Cp 118 [ae m,ae s,(vI (((a.length/2):Nat):Int))] (ae u)):Cp 60 [t.pv,ae a,ae b] (ae u) :=
 eD func60 [1,1,1,1,1,1,1,1,1,1,1,1,1,6,6,1,1,6,6,1,1,3] [.q,.aR [.o,(iL a),.o,(iL b)],.f,.aR [.o,(.pv (vB c)),.o,.o,(.pv (vB d)),(.dec false)],.f,.h 1 (iL a),.f,.aR [.o,(iL a),(iI (((a.length/2):Nat):Int))],dr 7 1 [.none,.none,(.fj 0 (a.length/2) (((a.take (a.length/2)):Rs).map ag.cells)),.none,.none,(.fj (a.length/2) ((a:Rs).length) (((a.drop (a.length/2)):Rs).map ag.cells))],.h 1 (iL b),.f,dr 7 1 [.none,.none,(.fj 0 (a.length/2) (((b.take (a.length/2)):Rs).map ag.cells)),.none,.none,(.fj (a.length/2) ((b:Rs).length) (((b.drop (a.length/2)):Rs).map ag.cells))],dr 7 1 [.none,.none,.none,(.pv (vI g)),(iI (g-1)),(.row k (lR v))],dr 12 1 [.none,.none,.none,(.pv (ae i)),.none,.none,.none,.none,(.pv (ae j)),.none,(.pv (ae l)),(.pv (ae m))],dr 12 1 [.none,.none,.none,.none,(.pv (ae n)),.none,.none,.none,(.pv (ae p)),(.pv (ae s)),.none,(.pv (ae u))]] (YU (an ag.cells a) (an ag.cells b) (ar h1) h2 h3 h3 h4 h3 h5 (an ag.cells a) (aB h6) (an ag.cells a) (cC (y:=2) (by decide) h7) (fY aD (a:Rs) (rN (a.length/2)) h8) (mD aD (a:Rs) (rN (a.length/2)) h9) (an ag.cells b) (bn bQ) (fY aD (b:Rs) (rN (a.length/2)) dU) (mD aD (b:Rs) (rN (a.length/2)) fP) k7 (aQ oS) (ba lR nz wU) zv HN EL Nz Vk XC h23 h24)
end et
namespace nN
@[reducible] def fn:Func:=Tryz.f116
def aY:List dJ:=focus [0,2,0,0,2,0,0] [.code (aL fn)]
def inv1(a:List ag)(PC:Nat):St:=⟨[(5,(.pv (ae a))),(6,(eI (a.length:Int))),(7,(eI (PC:Int)))],[]⟩
@[reducible] def ah(a:List ag)(PC:Nat)(r:PV):Prop:=L bu fn aY (inv1 a PC) r
theorem e0 (a : Rs) {r : PV}  (hL : ah a 0 r) : Cp 116 [ae a] r :=
 eG func116 [] [.q,.h 1 (iL a),.aG [5,6,7]] (y1 (an ag.cells a)) hL
theorem l10(a:Rs)(b:Nat)(v:ag)(c:Int)(h1:b<a.length)(h2:a[b]? = some v)(h3:Cp 119 [v.pv] (vI c))(h4:c≠0):ah a b (vB false) :=
 lD [1,3] [.a,.q,.t,.h 0 (.row b (ag.cells v)),.h 1 (.pv (vI c)),.t,.q] (y4 (ai h1) (ba ag.cells (rN b) h2) h3 (kg h4))
theorem cB(a:Rs)(b:Nat)(v:ag)(c:Int){r:PV}(h1:b<a.length)(h2:a[b]? = some v)(h3:Cp 119 [v.pv] (vI c))(h4:c=0)(h5:(b+1)<9223372036854775808)(hL:ah a (b+1) r):ah a b r :=
 lG [1,3] [.a,.q,.t,.h 0 (.row b (ag.cells v)),.h 1 (.pv (vI c)),.f,.h 0 (iI (((b+1):Nat):Int)),.aG [5,6,7],.drop [4]] (y5 (ai h1) (ba ag.cells (rN b) h2) h3 (gr h4) (aJ h5)) hL
theorem jT(a:Rs)(b:Nat)(h1:a.length≤b):ah a b (vB true) :=
 lD [] [.a,.q,.f,.q] (y1 (ar h1))
end nN
namespace qn
@[reducible] def fn:Func:=Tryz.f61
def aY:List dJ:=focus [0,2,0,2,0,2,0,0,2,0,0] [.code (aL fn)]
def inv1(n:Nat)(wid:List ag)(KM:Nat)(jn:List ag):St:=⟨[(0,(.row 14 0 n 3)),(1,(.pv (ae wid))),(19,(eI (n:Int))),(20,(eI (KM:Int)))],[(14,(.pure ((jn:List ag).map ag.cells).flatten))]⟩
@[reducible] def ah(n:Nat)(wid:List ag)(KM:Nat)(jn:List ag)(r:PV):Prop:=L bu fn aY (inv1 n wid KM jn) r
theorem e0(a b z:Rs)(n:Nat)(c:Rs){r:PV}(h1:au bu 77 [.pv (ae a),.pv (vI (((max a.length b.length):Nat):Int))] [] (.row 0 0 n 3) [(0,(pC ag.cells z))])(h2:Cp 77 [ae b,(vI (((max a.length b.length):Nat):Int))] (ae c))(hL:ah n c 0 z r):Cp 61 [ae a,ae b] r :=
 eG func61 [] [.q,.aR [.o,(iL a),.o,(iL b),(iI (((max a.length b.length):Nat):Int))],.aR [.o,.o,(.bJ [] (some (0,14)) (.row 0 0 n 3) [(0,(pC ag.cells z))]),.o,.o,(.pv (ae c))],.q,.aG [0,1,19,20]] (y5 (an ag.cells a) (an ag.cells b) (oK a.length b.length) h1 h2) hL
theorem l10(n:Nat)(b:Rs)(c:Nat)(d:Rs)(v v1 g:ag){r:PV}(h1:c<n)(h2:d[c]? = some v)(h3:b[c]? = some v1)(h4:Cp 62 [v.pv,v1.pv] g.pv)(h5:c<d.length)(h6:(c+1)<9223372036854775808)(hL:ah n b (c+1) (d.set c g) r):ah n b c d r :=
 lG [1,2,2,3,1,2,2] [.a,.q,.t,.q,dr 12 1 [.none,.none,.none,.none,(.nat c),(.JZ [vB v.neg,af v.num,af v.den]),.none,.none,(.row c (ag.cells v1)),.none,(.pv g.pv),(.nat c),(.cells (.pure (((d.set c g):Rs).map ag.cells).flatten))],.h 0 (iI (((c+1):Nat):Int)),.aG [0,1,19,20]] (y8 (ai h1) (cj (rN c) h1) (tL aD h2) (ba ag.cells (rN c) h3) h4 (cj (rN c) h1) (gu aD (d:Rs) g h5) (aJ h6)) hL
theorem cB(n:Nat)(b:Rs)(c:Nat)(d:Rs)(h1:n≤c)(h2:n=d.length):ah n b c d (ae d) :=
 lD [1,3] [.a,.q,.f,.q,.dH 4 ((d:Rs).map ag.cells)] (y2 (ar h1) (bU aD (d:Rs) h2))
end qn
namespace DA
theorem e0(a:Rs)(n:Int)(m:Nat)(h1:n=(m:Int))(h2:56*m≤140737488355328)(h3:(min a.length m)≤(List.replicate m (⟨false,[],[]⟩:ag):Rs).length)(h4:m=(a.take (min a.length m)++(List.replicate m (⟨false,[],[]⟩:ag)).drop (min a.length m)).length):Cp 77 [ae a,vI n] (ae (a.take (min a.length m)++(List.replicate m (⟨false,[],[]⟩:ag)).drop (min a.length m))) :=
 eD func77 [5,4,3] [.q,.h 1 (.app m ((List.replicate m (⟨false,[],[]⟩:ag):Rs).map ag.cells).flatten),.h 2 (.app (min a.length m) (((a.take (min a.length m)++(List.replicate m (⟨false,[],[]⟩:ag)).drop (min a.length m)):Rs).map ag.cells).flatten),.q,.dH 4 (((a.take (min a.length m)++(List.replicate m (⟨false,[],[]⟩:ag)).drop (min a.length m)):Rs).map ag.cells)] (y3 (sj ag.cells (⟨false,[],[]⟩:ag) 56 m h1 h2 rfl) (Pr aD (List.replicate m (⟨false,[],[]⟩:ag):Rs) (a:Rs) (Eq.refl (min a.length m)) h3) (bU aD ((a.take (min a.length m)++(List.replicate m (⟨false,[],[]⟩:ag)).drop (min a.length m)):Rs) h4))
end DA
namespace A8
theorem e0(a:Rs)(n:Int)(m:Nat)(h1:n=(m:Int))(h2:56*m≤140737488355328)(h3:(min a.length m)≤(List.replicate m (⟨false,[],[]⟩:ag):Rs).length):au bu 77 [(.pv (ae a)),eI n] [] (.row 0 0 m 3) [(0,(.pure ((((a.take (min a.length m)++(List.replicate m (⟨false,[],[]⟩:ag)).drop (min a.length m)).take m):Rs).map ag.cells).flatten))] :=
 HL func77 [5,4] [.q,.h 1 (.app m ((List.replicate m (⟨false,[],[]⟩:ag):Rs).map ag.cells).flatten),.h 2 (.app (min a.length m) (((a.take (min a.length m)++(List.replicate m (⟨false,[],[]⟩:ag)).drop (min a.length m)):Rs).map ag.cells).flatten),.q,.pn 7 0,.cut 0 (m*3) ((((a.take (min a.length m)++(List.replicate m (⟨false,[],[]⟩:ag)).drop (min a.length m)).take m):Rs).map ag.cells).flatten,.ord [0]] (y3 (sj ag.cells (⟨false,[],[]⟩:ag) 56 m h1 h2 rfl) (Pr aD (List.replicate m (⟨false,[],[]⟩:ag):Rs) (a:Rs) (Eq.refl (min a.length m)) h3) (uz aD ((a.take (min a.length m)++(List.replicate m (⟨false,[],[]⟩:ag)).drop (min a.length m)):Rs) m))
end A8
namespace oi
@[reducible] def fn:Func:=Tryz.f66
def aY:List dJ:=focus [0,2,0,2,0,0,2,0,0] [.code (aL fn)]
def inv1(a:List ag)(Dy:Nat)(eH:List ag):St:=⟨[(0,(.pv (ae a))),(3,(.row 7 0 a.length 3)),(9,(eI (a.length:Int))),(10,(eI (Dy:Int)))],[(7,(.pure ((eH:List ag).map ag.cells).flatten))]⟩
@[reducible] def ah(a:List ag)(Dy:Nat)(eH:List ag)(r:PV):Prop:=L bu fn aY (inv1 a Dy eH) r
theorem e0(a:Rs){r:PV}(h1:56*a.length≤140737488355328)(hL:ah a 0 (List.replicate a.length (⟨false,[],[]⟩:ag)) r):Cp 66 [ae a] r :=
 eG func66 [1,5] [.q,.aR [.o,(iL a),(.app a.length ((List.replicate a.length (⟨false,[],[]⟩:ag):Rs).map ag.cells).flatten)],.h 1 (iL a),.aG [0,3,9,10]] (y3 (an ag.cells a) (sj ag.cells (⟨false,[],[]⟩:ag) 56 a.length (rN a.length) h1 rfl) (an ag.cells a)) hL
theorem l10(a:Rs)(b:Nat)(c:Rs)(v d:ag){r:PV}(h1:b<a.length)(h2:a[b]? = some v)(h3:Cp 128 [v.pv] d.pv)(h4:b<c.length)(h5:(b+1)<9223372036854775808)(hL:ah a (b+1) (c.set b d) r):ah a b c r :=
 lG [1,3,1,2,2] [.a,.q,.t,.q,.aR [.o,.o,.o,.o,(.row b (ag.cells v)),.o,(.pv d.pv),(.nat b),(.cells (.pure (((c.set b d):Rs).map ag.cells).flatten))],.h 0 (iI (((b+1):Nat):Int)),.aG [0,3,9,10]] (y6 (ai h1) (ba ag.cells (rN b) h2) h3 (cj (rN b) h1) (gu aD (c:Rs) d h4) (aJ h5)) hL
theorem cB(a:Rs)(b:Nat)(c:Rs)(h1:a.length≤b)(h2:a.length=c.length):ah a b c (ae c) :=
 lD [1,3] [.a,.q,.f,.q,.dH 2 ((c:Rs).map ag.cells)] (y2 (ar h1) (bU aD (c:Rs) h2))
end oi
namespace DB
theorem e0(a b:Rs)(n:Int)(z:Rs)(n1:Nat)(c:Rs)(h1:au bu 77 [.pv (ae a),.pv (vI n)] [] (.row 0 0 n1 3) [(0,(pC ag.cells z))])(h2:Cp 77 [ae b,vI n] (ae c))(h3:z.length=n1)(h4:((z++c):Rs).length*56≤140737488355328):Cp 118 [ae a,ae b,vI n] (ae (z++c)) :=
 eD func118 [1,1,6,3] [.q,.aR [.o,.o,(.bJ [] (some (0,9)) (.row 0 0 n1 3) [(0,(pC ag.cells z))]),.o,.o,(.pv (ae c)),(.app ((z++c):Rs).length (((z++c):Rs).map ag.cells).flatten)],.dH 6 (((z++c):Rs).map ag.cells)] (y4 h1 h2 (iw aD (z:Rs) (c:Rs) 56 h3 h4 rfl) (bU aD ((z++c):Rs) (Eq.refl ((z++c):Rs).length)))
end DB
namespace DC
theorem e0(t:aA)(a b c:Rs)(d:Int)(k:Nat)(v g i j:Rs)(h1:a.length<9223372036854775808)(h2:(a.length/2)≤a.length)(h3:(a.length/2)≤(a:Rs).length)(h4:Cp 60 [t.pv,(ae (a.take (a.length/2))),(ae (a.take (a.length/2)))] (ae b))(h5:Cp 60 [t.pv,(ae (a.drop (a.length/2))),(ae (a.drop (a.length/2)))] (ae c))(h6:Cp 114 [ae a] (vI d))(h7:ay (d-1))(h8:(d-1)=(k:Int))(h9:t.roots[k]? = some v)(bQ:Cp 60 [t.pv,ae c,ae v] (ae g))(dU:Cp 66 [ae g] (ae i))(fP:Cp 61 [ae b,ae i] (ae j)):Cp 120 [t.pv,ae a] (ae j) :=
 eD func120 [1,1,6,6,1,1,1,1,3] [.q,.aR [.o,(iL a),(iI (((a.length/2):Nat):Int))],dr 7 1 [.none,.none,(.fj 0 (a.length/2) (((a.take (a.length/2)):Rs).map ag.cells)),.none,.none,(.fj (a.length/2) ((a:Rs).length) (((a.drop (a.length/2)):Rs).map ag.cells))],dr 19 1 [.none,.none,.none,(.pv (ae b)),.none,.none,.none,.none,(.pv (ae c)),.none,.none,.none,(.pv (vI d)),(iI (d-1)),(.row k (lR v)),.none,(.pv (ae g)),(.pv (ae i)),(.pv (ae j))]] (IF (an ag.cells a) (cC (y:=2) (by decide) h1) (fY aD (a:Rs) (rN (a.length/2)) h2) (mD aD (a:Rs) (rN (a.length/2)) h3) h4 h5 h6 (aQ h7) (ba lR h8 h9) bQ dU fP)
end DC
namespace Fo
theorem e0(t:aA)(a b c:Rs)(h1:Cp 58 [t.pv,(bB lR [a])] .aC)(h2:Cp 66 [ae a] (ae b))(h3:Cp 59 [ae b] (ae c)):Cp 79 [t.pv,ae a] (.aF [ae c,.aC]) :=
 eD func79 [3] [.q,.aR [.o,.o,(.fj 0 0 (([a]:List (Rs)).map lR)),(.pv .aC)],.q,.a,.aR [.o,(.pv (ae b)),(.pv (ae c))]] (y4 (kV (iM ag.cells) ([a]:List (Rs))) h1 h2 h3)
end Fo
namespace Fp
theorem e0(t:aA)(a b c d:Rs)(h1:Cp 58 [t.pv,(bB lR [a,b])] .aC)(h2:Cp 60 [t.pv,ae a,ae b] (ae c))(h3:Cp 59 [ae c] (ae d)):Cp 19 [t.pv,ae a,ae b] (.aF [ae d,.aC]) :=
 eD func19 [3] [.q,.aR [.o,.o,.o,(.fj 0 0 (([a,b]:List (Rs)).map lR)),(.pv .aC)],.q,.a,.aR [.o,.o,.o,(.pv (ae c)),(.pv (ae d))]] (y4 (kV (iM ag.cells) ([a,b]:List (Rs))) h1 h2 h3)
end Fp
namespace Fq
theorem e0(t:aA)(a b c d g:Rs)(h1:Cp 58 [t.pv,(bB lR [a,b])] .aC)(h2:Cp 66 [ae b] (ae c))(h3:Cp 61 [ae a,ae c] (ae d))(h4:Cp 59 [ae d] (ae g)):Cp 147 [t.pv,ae a,ae b] (.aF [ae g,.aC]) :=
 eD func147 [3] [.q,.aR [.o,.o,.o,(.fj 0 0 (([a,b]:List (Rs)).map lR)),(.pv .aC)],.q,.a,.aR [.o,.o,(.pv (ae c)),(.pv (ae d)),(.pv (ae g))]] (y5 (kV (iM ag.cells) ([a,b]:List (Rs))) h1 h2 h3 h4)
end Fq
namespace Fs
theorem e0(t:aA)(a b c d:Rs)(h1:Cp 58 [t.pv,(bB lR [a,b])] .aC)(h2:Cp 61 [ae a,ae b] (ae c))(h3:Cp 59 [ae c] (ae d)):Cp 20 [t.pv,ae a,ae b] (.aF [ae d,.aC]) :=
 eD func20 [3] [.q,.aR [.o,.o,.o,(.fj 0 0 (([a,b]:List (Rs)).map lR)),(.pv .aC)],.q,.a,.aR [.o,.o,(.pv (ae c)),(.pv (ae d))]] (y4 (kV (iM ag.cells) ([a,b]:List (Rs))) h1 h2 h3)
end Fs
namespace Aa
theorem e1(t:aA)(a:Rs)(b:Bool)(c:Rs)(h1:Cp 148 [t.pv,ae a] (vB b))(h2:b=true)(h3:Cp 59 [ae a] (ae c))(h4:c.length=0):Cp 81 [t.pv,ae a] (.aF [(⟨false,[],[]⟩:ag).pv,vB true]) :=
 eD func81 [] [.q,.h 2 (.pv (vB b)),.f,.h 1 (.pv (ae c)),.h 1 (iL c),.q,.t,.q] (y5 h1 (bw h2) h3 (an ag.cells c) (aM h4))
theorem e2(t:aA)(a:Rs)(b:Bool)(c:Rs)(v:ag)(h1:Cp 148 [t.pv,ae a] (vB b))(h2:b=true)(h3:Cp 59 [ae a] (ae c))(h4:c.length≠0)(h5:c.length=1)(h6:c[0]? = some v):Cp 81 [t.pv,ae a] (.aF [v.pv,vB true]) :=
 eD func81 [1,1,1,1,1,1,3] [.q,.h 2 (.pv (vB b)),.f,.h 1 (.pv (ae c)),.h 1 (iL c),.q,.f,.q,.t,.h 1 (.row 0 (ag.cells v))] (y7 h1 (bw h2) h3 (an ag.cells c) (aB h4) (aM h5) (ba ag.cells (Eq.refl (0:Int)) h6))
end Aa
namespace A9
theorem e0(t:aA)(a:Rs)(h1:Cp 58 [t.pv,(bB lR [a])] .aC):Cp 148 [t.pv,ae a] (vB true) :=
 eD func148 [3] [.q,.aR [.o,.o,(.fj 0 0 (([a]:List (Rs)).map lR)),(.pv .aC)]] (y2 (kV (iM ag.cells) ([a]:List (Rs))) h1)
end A9
namespace xl
theorem e0(t:aA)(a b c:Rs)(h1:Cp 58 [t.pv,(bB lR [a])] .aC)(h2:Cp 78 [ae a] (ae b))(h3:t.roots.length≤64)(h4:(1*2^t.roots.length)<9223372036854775808)(h5:Cp 77 [ae b,(vI (((1*2^t.roots.length):Nat):Int))] (ae c)):Cp 32 [t.pv,ae a] (.aF [ae c,.aC]) :=
 eD func32 [3] [.q,.aR [.o,.o,(.fj 0 0 (([a]:List (Rs)).map lR)),(.pv .aC)],.q,.a,dr 7 2 [.none,(.pv (ae b)),.none,.none,(iL t.roots),(iI (((1*2^t.roots.length):Nat):Int)),(.pv (ae c))]] (y6 (kV (iM ag.cells) ([a]:List (Rs))) h1 h2 (an lR t.roots) (bS (k := .i64) h3 h4) h5)
theorem e1(t:aA)(a:Rs)(b:Int)(h1:Cp 58 [t.pv,(bB lR [a])] (.iface 75 (vI b))):Cp 32 [t.pv,ae a] (.aF [(ae []),(.iface 75 (vI b))]) :=
 eD func32 [3] [.q,.aR [.o,.o,(.fj 0 0 (([a]:List (Rs)).map lR)),(.pv (.iface 75 (vI b)))],.q,.a,.q] (y2 (kV (iM ag.cells) ([a]:List (Rs))) h1)
end xl
namespace IN
theorem e0(x a:ag)(b:Rs)(h1:Cp 62 [x.pv,(⟨false,[],[]⟩:ag).pv] a.pv)(h2:Cp 59 [(ae [a])] (ae b)):Cp 21 [x.pv] (ae b) :=
 eD func21 [1,3] [.q,.aR [.o,.o,(.pv a.pv),(.fj 0 0 (([a]:Rs).map ag.cells)),(.pv (ae b))]] (y3 h1 (kV aD ([a]:Rs)) h2)
end IN
namespace Ft
theorem e0(t:aA)(a b c d:Rs)(g:Int)(h1:Cp 58 [t.pv,(bB lR [a,b])] .aC)(h2:Cp 66 [ae b] (ae c))(h3:Cp 61 [ae a,ae c] (ae d))(h4:Cp 63 [t.pv,ae d] (vI g)):Cp 24 [t.pv,ae a,ae b] (.aF [vI g,.aC]) :=
 eD func24 [3] [.q,.aR [.o,.o,.o,(.fj 0 0 (([a,b]:List (Rs)).map lR)),(.pv .aC)],.q,.a,dr 6 2 [.none,.none,.none,(.pv (ae c)),(.pv (ae d)),(.pv (vI g))]] (y5 (kV (iM ag.cells) ([a,b]:List (Rs))) h1 h2 h3 h4)
end Ft
end Go.Proofs.YtcpnocgollpbhaaGreatDoor.Sym.Path
end
