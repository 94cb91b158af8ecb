/- Lemmas for the statements of this seat. -/
import Derived.Test.YtcpnocgollpbhaaGreatDoorT0
noncomputable section
namespace Go.Proofs.YtcpnocgollpbhaaGreatDoor.Sym.Path
open Go Tryz
set_option maxRecDepth 20000
set_option linter.unusedVariables false
namespace Es
theorem e1(p b c d g i:Rs)(h1:Cp 121 [ae p] .ay)(h2:p.length≠0)(h3:Cp 134 [ae p] (ae b))(h4:Cp 133 [ae p,ae b] (ae c))(h5:Cp 132 [ae p,ae c] (.aF [ae d,ae g]))(h6:Cp 135 [ae d] (ae i)):Cp 69 [ae p] (.aF [ae i,.ay]) :=
 eD func69 [] [.q,.h 1 (.pv .ay),.q,.a,.h 1 (iL p),.f,.aR [.o,.o,.o,(.pv (ae b)),(.pv (ae c)),(.pv (.aF [ae d,ae g]))],.h 1 (.pv (ae i))] (y7 h1 (ak ag.cells p) (ax h2) h3 h4 h5 h6)
end Es
namespace kj
@[reducible] def fn:Func:=Tryz.f82
def a8:List eR:=focus [0,2,0,2,0,0,2,0,0] [.code (aP fn)]
def inv1(dy l:List ag)(xo:Nat):St:=⟨[(3,(.row 17 0 dy.length 3)),(6,(.pv (ae l))),(7,(eI (l.length:Int))),(8,(eI (xo:Int)))],[(17,(.pure ((dy:List ag).map ag.cells).flatten))]⟩
@[reducible] def ai(dy l:List ag)(xo:Nat)(r:PV):Prop:=L bp fn a8 (inv1 dy l xo) r
def qP:List eR:=focus [0,2,0,2,0,0,2,0,0,0,0,2,0,1,2,2,2,2,0,0,0] [.code (aP fn)]
def inv2(dy:List ag):St:=⟨[(3,(.row 17 0 dy.length 3))],[(17,(.pure ((dy:List ag).map ag.cells).flatten))]⟩
@[reducible] def bD(dy:List ag)(r:PV):Prop:=L bp fn qP (inv2 dy) r
theorem e0 (l : Rs) {r : PV}  (hL : ai [] l 0 r) : Cp 82 [ae l] r :=
 eG func82 [] [.q,.h 0 .nil,.lL 3 17 3,.h 1 (iL l),.aH [3,6,7,8]] (y1 (ak ag.cells l)) hL
theorem l10(b l:Rs)(c:Nat)(v d:ag){r:PV}(h1:c<l.length)(h2:l[c]? = some v)(h3:Cp 62 [v.pv,(⟨false,[],[]⟩:ag).pv] d.pv)(h4:((b++[d]):Rs).length*56≤140737488355328)(h5:(c+1)<9223372036854775808)(hL:ai (b++[d]) l (c+1) r):ai b l c r :=
 lG [1,3,1,6] [.a,.q,.t,.h 0 (.row c (ag.cells v)),.aR [.o,.o,.o,(.pv d.pv),.o,(.app ((b++[d]):Rs).length (((b++[d]):Rs).map ag.cells).flatten)],.h 0 (iI (((c+1):Nat):Int)),.aH [3,6,7,8],.drop [16,5]] (y5 (aj h1) (bm ag.cells (rN c) h2) h3 (iQ aD (b:Rs) ([d]:Rs) 56 (Eq.refl (b:Rs).length) (Eq.refl ([d]:Rs).length) h4 rfl) (aL h5)) hL
theorem c9(b l:Rs)(c:Nat){r:PV}(h1:l.length≤c)(hL:bD b r):ai b l c r :=
 lG [] [.a,.q,.f,.aH [3]] (y1 (aq h1)) hL
theorem BZ(b:Rs)(k:Nat)(v:ag)(c:Int)(u:Nat){r:PV}(h1:0<b.length)(h2:az ((b.length:Int)-1))(h3:((b.length:Int)-1)=(k:Int))(h4:k<b.length)(h5:b[k]? = some v)(h6:Cp 119 [v.pv] (vI c))(h7:c=0)(h8:((b.length:Int)-1)=(u:Int))(h9:u≤(b:Rs).length)(hL:bD (b.take u) r):bD b r :=
 lG [1,1,1,1,1,1,2,1,2,1,1,1,1,1,1,5] [.a,.aR [.o,.o,.o,.o,.o,.o,.o,(iI ((b.length:Int)-1)),(.nat k),(.Ns [vB v.neg,af v.num,af v.den]),(.pv (vI c)),.o,(.dec true)],.t,.aR [.o,.o,.o,(iI ((b.length:Int)-1)),(.fR 0 ((b.take u).length) [])],.cut 17 (u*3) (((b.take u):Rs).map ag.cells).flatten,.aH [3]] (QN (aj h1) (aj h1) (aj h1) (aj h1) (aU h2) (aj h1) (cj h3 h4) (aj h1) (xl aD h5) (aj h1) h6 (aj h1) (aj h1) (bQ h7) (aU h2) (Lh (b:Rs) h8 h9) (xm aD (b:Rs) u)) hL
theorem FM(b:Rs)(k:Nat)(v:ag)(c:Int)(h1:0<b.length)(h2:az ((b.length:Int)-1))(h3:((b.length:Int)-1)=(k:Int))(h4:k<b.length)(h5:b[k]? = some v)(h6:Cp 119 [v.pv] (vI c))(h7:c≠0):bD b (ae b) :=
 lD [1,1,1,1,1,1,2,1,2,1,1,1,1,1,3] [.a,.aR [.o,.o,.o,.o,.o,.o,.o,(iI ((b.length:Int)-1)),(.nat k),(.Ns [vB v.neg,af v.num,af v.den]),(.pv (vI c)),.o,(.dec true)],.f,.q,.fF 2 ((b:Rs).map ag.cells)] (NJ (aj h1) (aj h1) (aj h1) (aj h1) (aU h2) (aj h1) (cj h3 h4) (aj h1) (xl aD h5) (aj h1) h6 (aj h1) (aj h1) (bA h7) (cJ aD (b:Rs) (Eq.refl (b:Rs).length)))
theorem RC(b:Rs)(h1:b.length≤0):bD b (ae b) :=
 lD [1,1,1,1,1,1,1,1,1,3] [.a,.aR [.o,.o,.o,.o,.skip,.skip,.skip,.skip,.skip,.skip,.skip,.skip,(.dec false)],.a,.q,.fF 2 ((b:Rs).map ag.cells)] (JU (aq h1) (aq h1) (aq h1) (aq h1) (aq h1) (aq h1) (aq h1) (aq h1) (aq h1) (cJ aD (b:Rs) (Eq.refl (b:Rs).length)))
end kj
namespace jb
@[reducible] def fn:Func:=Tryz.f82
def a8:List eR:=focus [0,2,0,2,0,0,2,0,0] [.code (aP fn)]
def inv1(dy l:List ag)(xo:Nat):St:=⟨[(3,(.row 17 0 dy.length 3)),(6,(.pv (ae l))),(7,(eI (l.length:Int))),(8,(eI (xo:Int)))],[(17,(.pure ((dy:List ag).map ag.cells).flatten))]⟩
@[reducible] def ai(dy l:List ag)(xo:Nat)(sin:aS)(r:EV)(sout:aS):Prop:=LX bp fn a8 (inv1 dy l xo) sin r sout
def qP:List eR:=focus [0,2,0,2,0,0,2,0,0,0,0,2,0,1,2,2,2,2,0,0,0] [.code (aP fn)]
def inv2(dy:List ag):St:=⟨[(3,(.row 17 0 dy.length 3))],[(17,(.pure ((dy:List ag).map ag.cells).flatten))]⟩
@[reducible] def bD(dy:List ag)(sin:aS)(r:EV)(sout:aS):Prop:=LX bp fn qP (inv2 dy) sin r sout
theorem e0 (l : Rs) {r : EV} {sout : aS}  (hL : ai [] l 0 [] r sout) : au bp 82 [(.pv (ae l))] [] r sout :=
 NH func82 [] [.q,.h 0 .nil,.lL 3 17 3,.h 1 (iL l),.aH [3,6,7,8]] (y1 (ak ag.cells l)) hL
theorem l10(b l:Rs)(c:Nat)(v d:ag){r:EV}{sout:aS}{sin:aS}(hs:kF fn sin)(h1:c<l.length)(h2:l[c]? = some v)(h3:Cp 62 [v.pv,(⟨false,[],[]⟩:ag).pv] d.pv)(h4:((b++[d]):Rs).length*56≤140737488355328)(h5:(c+1)<9223372036854775808)(hL:ai (b++[d]) l (c+1) sin r sout):ai b l c sin r sout :=
 Li [1,3,1,6] [.a,.q,.t,.h 0 (.row c (ag.cells v)),.aR [.o,.o,.o,(.pv d.pv),.o,(.app ((b++[d]):Rs).length (((b++[d]):Rs).map ag.cells).flatten)],.h 0 (iI (((c+1):Nat):Int)),.aH [3,6,7,8],.drop [16,5]] hs (y5 (aj h1) (bm ag.cells (rN c) h2) h3 (iQ aD (b:Rs) ([d]:Rs) 56 (Eq.refl (b:Rs).length) (Eq.refl ([d]:Rs).length) h4 rfl) (aL h5)) hL
theorem c9(b l:Rs)(c:Nat){r:EV}{sout:aS}{sin:aS}(hs:kF fn sin)(h1:l.length≤c)(hL:bD b sin r sout):ai b l c sin r sout :=
 Li [] [.a,.q,.f,.aH [3]] hs (y1 (aq h1)) hL
theorem BZ(b:Rs)(k:Nat)(v:ag)(c:Int)(u:Nat){r:EV}{sout:aS}{sin:aS}(hs:kF fn sin)(h1:0<b.length)(h2:az ((b.length:Int)-1))(h3:((b.length:Int)-1)=(k:Int))(h4:k<b.length)(h5:b[k]? = some v)(h6:Cp 119 [v.pv] (vI c))(h7:c=0)(h8:((b.length:Int)-1)=(u:Int))(h9:u≤(b:Rs).length)(hL:bD (b.take u) sin r sout):bD b sin r sout :=
 Li [1,1,1,1,1,1,2,1,2,1,1,1,1,1,1,5] [.a,.aR [.o,.o,.o,.o,.o,.o,.o,(iI ((b.length:Int)-1)),(.nat k),(.Ns [vB v.neg,af v.num,af v.den]),(.pv (vI c)),.o,(.dec true)],.t,.aR [.o,.o,.o,(iI ((b.length:Int)-1)),(.fR 0 ((b.take u).length) [])],.cut 17 (u*3) (((b.take u):Rs).map ag.cells).flatten,.aH [3]] hs (QN (aj h1) (aj h1) (aj h1) (aj h1) (aU h2) (aj h1) (cj h3 h4) (aj h1) (xl aD h5) (aj h1) h6 (aj h1) (aj h1) (bQ h7) (aU h2) (Lh (b:Rs) h8 h9) (xm aD (b:Rs) u)) hL
theorem FM(b:Rs)(k:Nat)(v:ag)(c:Int){sin:aS}(hs:kF fn sin)(hi:sin.all (fun p=>vJ p.1||(aS.get [(0,(pC ag.cells b))] p.1).isSome)=true)(h1:0<b.length)(h2:az ((b.length:Int)-1))(h3:((b.length:Int)-1)=(k:Int))(h4:k<b.length)(h5:b[k]? = some v)(h6:Cp 119 [v.pv] (vI c))(h7:c≠0):bD b sin (.row 0 0 b.length 3) [(0,(pC ag.cells b))] :=
 FI [1,1,1,1,1,1,2,1,2] [.a,.aR [.o,.o,.o,.o,.o,.o,.o,(iI ((b.length:Int)-1)),(.nat k),(.Ns [vB v.neg,af v.num,af v.den]),(.pv (vI c)),.o,(.dec true)],.f,.q,.rJ 17 0,.ord [0]] hs hi (NI (aj h1) (aj h1) (aj h1) (aj h1) (aU h2) (aj h1) (cj h3 h4) (aj h1) (xl aD h5) (aj h1) h6 (aj h1) (aj h1) (bA h7))
theorem RC(b:Rs){sin:aS}(hs:kF fn sin)(hi:sin.all (fun p=>vJ p.1||(aS.get [(0,(pC ag.cells b))] p.1).isSome)=true)(h1:b.length≤0):bD b sin (.row 0 0 b.length 3) [(0,(pC ag.cells b))] :=
 FI [] [.a,.aR [.o,.o,.o,.o,.skip,.skip,.skip,.skip,.skip,.skip,.skip,.skip,(.dec false)],.a,.q,.rJ 17 0,.ord [0]] hs hi (y9 (aq h1) (aq h1) (aq h1) (aq h1) (aq h1) (aq h1) (aq h1) (aq h1) (aq h1))
end jb
namespace dR
@[reducible] def fn:Func:=Tryz.f121
def a8:List eR:=focus [0,2,0,0,2,1,2,0,0,2,0,0] [.code (aP fn)]
def inv1(p:List ag)(J3:Nat):St:=⟨[(0,(.pv (ae p))),(9,(.pv (ae p))),(10,(eI (p.length:Int))),(11,(eI (J3:Int)))],[]⟩
@[reducible] def ai(p:List ag)(J3:Nat)(r:PV):Prop:=L bp fn a8 (inv1 p J3) r
theorem e0(p:Rs)(h1:65<p.length):Cp 121 [ae p] (.iface 75 (vI 4)) :=
 eD func121 [] [.q,.h 1 (iL p),.t,.q] (y2 (ak ag.cells p) (aj h1))
theorem e1(p:Rs){r:PV}(h1:p.length≤65)(hL:ai p 0 r):Cp 121 [ae p] r :=
 eG func121 [] [.q,.h 1 (iL p),.f,.h 1 (iL p),.aH [0,9,10,11]] (y3 (ak ag.cells p) (aq h1) (ak ag.cells p)) hL
theorem l10(p:Rs)(b:Nat)(v:ag)(c:Bool)(h1:b<p.length)(h2:p[b]? = some v)(h3:Cp 102 [v.pv] (vB c))(h4:c=false):ai p b (.iface 75 (vI 2)) :=
 lD [1,3] [.a,.q,.t,.h 0 (.row b (ag.cells v)),.h 1 (.pv (vB c)),.t,.q] (y4 (aj h1) (bm ag.cells (rN b) h2) h3 (cA h4))
theorem c9(p:Rs)(b:Nat)(v:ag)(c:Bool){r:PV}(h1:b<p.length)(h2:p[b]? = some v)(h3:Cp 102 [v.pv] (vB c))(h4:c=true)(h5:(b+1)<9223372036854775808)(hL:ai p (b+1) r):ai p b r :=
 lG [1,3] [.a,.q,.t,.h 0 (.row b (ag.cells v)),.h 1 (.pv (vB c)),.f,.h 0 (iI (((b+1):Nat):Int)),.aH [0,9,10,11],.drop [4]] (y5 (aj h1) (bm ag.cells (rN b) h2) h3 (aM h4) (aL h5)) hL
theorem kA(p:Rs)(b k:Nat)(v:ag)(c:Int)(h1:p.length≤b)(h2:0<p.length)(h3:az ((p.length:Int)-1))(h4:((p.length:Int)-1)=(k:Int))(h5:p[k]? = some v)(h6:Cp 119 [v.pv] (vI c))(h7:c=0):ai p b (.iface 75 (vI 8)) :=
 lD [1,1,1,1,1,1,1,1,1,3] [.a,.q,.f,.aR [.o,(iL p),.o,.o,.o,.o,(iL p),(iI ((p.length:Int)-1)),(.row k (ag.cells v)),.o,(.pv (vI c)),.o,(.dec true)],.t,.q] (Lj (aq h1) (ak ag.cells p) (aj h2) (aj h2) (aj h2) (ak ag.cells p) (aj h2) (aU h3) (aj h2) (bm ag.cells h4 h5) (aj h2) (aj h2) h6 (aj h2) (aj h2) (bQ h7))
theorem uA(p:Rs)(b k:Nat)(v:ag)(c:Int)(h1:p.length≤b)(h2:0<p.length)(h3:az ((p.length:Int)-1))(h4:((p.length:Int)-1)=(k:Int))(h5:p[k]? = some v)(h6:Cp 119 [v.pv] (vI c))(h7:c≠0):ai p b .ay :=
 lD [1,1,1,1,1,1,1,1,1,3] [.a,.q,.f,.aR [.o,(iL p),.o,.o,.o,.o,(iL p),(iI ((p.length:Int)-1)),(.row k (ag.cells v)),.o,(.pv (vI c)),.o,(.dec true)],.f,.q] (Lj (aq h1) (ak ag.cells p) (aj h2) (aj h2) (aj h2) (ak ag.cells p) (aj h2) (aU h3) (aj h2) (bm ag.cells h4 h5) (aj h2) (aj h2) h6 (aj h2) (aj h2) (bA h7))
theorem Dp(p:Rs)(b:Nat)(h1:p.length≤b)(h2:p.length≤0):ai p b .ay :=
 lD [] [.a,.q,.f,.aR [.o,(iL p),.o,.o,.skip,.skip,.skip,.skip,.skip,.skip,.skip,.skip,(.dec false)],.a,.q] (HY (aq h1) (ak ag.cells p) (aq h2) (aq h2) (aq h2) (aq h2) (aq h2) (aq h2) (aq h2) (aq h2) (aq h2))
end dR
namespace zM
theorem e0(p b:Rs)(h1:Cp 121 [ae p] .ay)(h2:Cp 134 [ae p] (ae b)):Cp 122 [ae p] (.aF [ae b,.ay]) :=
 eD func122 [] [.q,.h 1 (.pv .ay),.q,.a,.h 1 (.pv (ae b))] (y2 h1 h2)
end zM
namespace H2
theorem e0(p q b:Rs)(h1:Cp 174 [(dp lR [p,q])] .ay)(h2:Cp 133 [ae p,ae q] (ae b)):Cp 123 [ae p,ae q] (.aF [ae b,.ay]) :=
 eD func123 [3] [.q,.aR [.o,.o,(.fR 0 0 (([p,q]:List (Rs)).map lR)),(.pv .ay)],.q,.a,.h 2 (.pv (ae b))] (y3 (oB (qM ag.cells) ([p,q]:List (Rs))) h1 h2)
end H2
namespace iE
@[reducible] def fn:Func:=Tryz.f132
def a8:List eR:=focus [0,2,0,2,0,2,0,2,0,0,0] [.code (aP fn)]
def inv1(q:List ag)(wb m:Nat)(v:ag)(iY sw:List ag):St:=⟨[(1,(.pv (ae q))),(6,(.row 15 0 wb 3)),(7,(.row 23 0 m 3)),(8,(.ptr 8 0))],[(8,(.lit [(eB v.neg),(.pv (af v.num)),(.pv (af v.den))])),(15,(.pure ((iY:List ag).map ag.cells).flatten)),(23,(.pure ((sw:List ag).map ag.cells).flatten))]⟩
@[reducible] def ai(q:List ag)(wb m:Nat)(v:ag)(iY sw:List ag)(r:PV):Prop:=L bp fn a8 (inv1 q wb m v iY sw) r
def qP:List eR:=focus [0,2,0,2,0,2,0,2,0,0,0,0,0,0,2,0,2,0,0,2,0,2,0,2,0,0,2,0,0] [.code (aP fn)]
def inv2(q:List ag)(wb m:Nat)(FQ:Int)(UF:Nat)(v div:ag)(iY sw:List ag):St:=⟨[(1,(.pv (ae q))),(6,(.row 15 0 wb 3)),(7,(.row 23 0 m 3)),(8,(.ptr 8 0)),(9,(eI FQ)),(10,(.ptr 10 0)),(55,(.pv (ae q))),(56,(eI (q.length:Int))),(57,(eI (UF:Int)))],[(8,(.lit [(eB v.neg),(.pv (af v.num)),(.pv (af v.den))])),(10,(.lit [(eB div.neg),(.pv (af div.num)),(.pv (af div.den))])),(15,(.pure ((iY:List ag).map ag.cells).flatten)),(23,(.pure ((sw:List ag).map ag.cells).flatten))]⟩
@[reducible] def bD(q:List ag)(wb m:Nat)(FQ:Int)(UF:Nat)(v div:ag)(iY sw:List ag)(r:PV):Prop:=L bp fn qP (inv2 q wb m FQ UF v div iY sw) r
theorem e0(p q z:Rs)(n m k:Nat)(v:ag){r:PV}(h1:au bp 82 [.pv (ae p)] [] (.row 0 0 n 3) [(0,(pC ag.cells z))])(h2:az ((p.length:Int)-(q.length:Int)))(h3:az (((p.length:Int)-(q.length:Int))+1))(h4:(max 0 (((p.length:Int)-(q.length:Int))+1))=(m:Int))(h5:56*m≤140737488355328)(h6:az ((q.length:Int)-1))(h7:((q.length:Int)-1)=(k:Int))(h8:q[k]? = some v)(hL:ai q n m v z (List.replicate m (⟨false,[],[]⟩:ag)) r):Cp 132 [ae p,ae q] r :=
 eG func132 [1,1,1,1,1,1,5,1,1,3] [.q,.h 1 (.bG [] (some (0,15)) (.row 0 0 n 3) [(0,(pC ag.cells z))]),.aR [.o,(iL p),.o,(iL q),(iI ((p.length:Int)-(q.length:Int))),(iI (((p.length:Int)-(q.length:Int))+1)),(iI (max 0 (((p.length:Int)-(q.length:Int))+1))),(.app m ((List.replicate m (⟨false,[],[]⟩:ag):Rs).map ag.cells).flatten)],.aR [.o,.o,(iL q),(iI ((q.length:Int)-1)),(.row k (ag.cells v))],.aH [1,6,7,8],.ord [8,15,23]] (JU h1 (ak ag.cells p) (ak ag.cells q) (aU h2) (vT h3) (OR 0 (((p.length:Int)-(q.length:Int))+1)) (tH ag.cells (⟨false,[],[]⟩:ag) 56 m h4 h5 rfl) (ak ag.cells q) (aU h6) (bm ag.cells h7 h8)) hL
theorem l10(q:Rs)(b m:Nat)(v:ag)(c d:Rs)(k:Nat)(v1 g:ag)(i:Option Int)(k1:Nat){r:PV}(h1:q.length≤b)(h2:az ((b:Int)-(q.length:Int)))(h3:az ((b:Int)-1))(h4:((b:Int)-1)=(k:Int))(h5:k<b)(h6:c[k]? = some v1)(h7:Cp 180 [v1.pv,v.pv] (.aF [g.pv,bJ i]))(h8:((b:Int)-(q.length:Int))=(k1:Int))(h9:k1<m)(cw:k1<d.length)(hL:bD q b m ((b:Int)-(q.length:Int)) 0 v g c (d.set k1 g) r):ai q b m v c d r :=
 lG [1,1,1,1,1,2,2,1,2,2] [.a,.h 3 (iL q),.t,.aR [.o,.o,.o,(iL q),(iI ((b:Int)-(q.length:Int)))],dr 13 1 [.none,.none,.none,(iI ((b:Int)-1)),(.nat k),(.Ns [vB v1.neg,af v1.num,af v1.den]),.none,(.pv (.aF [g.pv,bJ i]))],.aR [.o,.o,.o,(.nat k1),(.cells (.pure (((d.set k1 g):Rs).map ag.cells).flatten))],.h 1 (iL q),.aH [1,6,7,8,9,10,55,56,57],.ord [8,10,15,23]] (HY (ak ag.cells q) (cH h1) (ak ag.cells q) (aU h2) (aU h3) (cj h4 h5) (xl aD h6) h7 (cj h8 h9) (gV aD (d:Rs) g cw) (ak ag.cells q)) hL
theorem c9(q:Rs)(b m:Nat)(v:ag)(c d g:Rs)(h1:b<q.length)(h2:m=d.length)(h3:Cp 82 [ae d] (ae g))(h4:b=c.length):ai q b m v c d (.aF [ae g,ae c]) :=
 lD [1,1,3,1,3] [.a,.h 3 (iL q),.f,.fF 7 ((d:Rs).map ag.cells),.h 1 (.pv (ae g)),.fF 5 ((c:Rs).map ag.cells)] (y5 (ak ag.cells q) (bh h1) (cJ aD (d:Rs) h2) h3 (cJ aD (c:Rs) h4))
theorem BZ(q:Rs)(b m:Nat)(c:Int)(d:Nat)(v g:ag)(i j:Rs)(v1:ag)(k:Nat)(v2 l n:ag)(k1:Nat){r:PV}(h1:d<q.length)(h2:q[d]? = some v1)(h3:az (c+(d:Int)))(h4:(c+(d:Int))=(k:Int))(h5:k<b)(h6:i[k]? = some v2)(h7:Cp 117 [g.pv,v1.pv] l.pv)(h8:Cp 186 [v2.pv,l.pv] n.pv)(h9:(c+(d:Int))=(k1:Int))(cw:k1<b)(fg:k1<i.length)(iC:(d+1)<9223372036854775808)(hL:bD q b m c (d+1) v g (i.set k1 n) j r):bD q b m c d v g i j r :=
 lG [1,3,1,1,2,2,1,1,2,2] [.a,.q,.t,.h 1 (.row d (ag.cells v1)),dr 15 1 [.none,.none,.none,(iI (c+(d:Int))),.none,.none,.none,(iI (c+(d:Int))),(.nat k),(.Ns [vB v2.neg,af v2.num,af v2.den]),.none,.none,(.pv l.pv),(.pv n.pv),(.nat k1),(.cells (.pure (((i.set k1 n):Rs).map ag.cells).flatten))],.h 0 (iI (((d+1):Nat):Int)),.aH [1,6,7,8,9,10,55,56,57],.drop [13]] (HY (aj h1) (bm ag.cells (rN d) h2) (vT h3) (vT h3) (cj h4 h5) (xl aD h6) h7 h8 (cj h9 cw) (gV aD (i:Rs) n fg) (aL iC)) hL
theorem FM(q:Rs)(b m:Nat)(c:Int)(d:Nat)(v g:ag)(i j z:Rs)(n:Nat){r:PV}(h1:q.length≤d)(h2:b=i.length)(h3:au bp 82 [.pv (ae i)] [] (.row 0 0 n 3) [(0,(pC ag.cells z))])(hL:ai q n m v z j r):bD q b m c d v g i j r :=
 lG [1,3] [.a,.q,.f,.fF 6 ((i:Rs).map ag.cells),.h 1 (.bG [] (some (0,79)) (.row 0 0 n 3) [(0,(pC ag.cells z))]),.aH [1,6,7,8],.drop [10],.rJ 79 15,.ord [8,15,23]] (y3 (aq h1) (cJ aD (i:Rs) h2) h3) hL
end iE
namespace jr
@[reducible] def fn:Func:=Tryz.f133
def a8:List eR:=focus [0,2,0,0,0] [.code (aP fn)]
def inv1(p_0 q_1:List ag):St:=⟨[(0,(.pv (ae p_0))),(1,(.pv (ae q_1)))],[]⟩
@[reducible] def ai(p_0 q_1:List ag)(r:PV):Prop:=L bp fn a8 (inv1 p_0 q_1) r
theorem e0 (p q : Rs) {r : PV}  (hL : ai p q r) : Cp 133 [ae p, ae q] r :=
 eG func133 [] [.q,.aH [0,1]] True.intro hL
theorem l10(b c d g i:Rs){r:PV}(h1:0<c.length)(h2:Cp 132 [ae b,ae c] (.aF [ae d,ae g]))(h3:Cp 135 [ae g] (ae i))(hL:ai c i r):ai b c r :=
 lG [] [.a,.h 1 (iL c),.t,.h 2 (.pv (.aF [ae d,ae g])),.h 2 (.pv (ae i)),.aH [0,1]] (y4 (ak ag.cells c) (aj h1) h2 h3) hL
theorem c9(b c d:Rs)(h1:c.length≤0)(h2:Cp 135 [ae b] (ae d)):ai b c (ae d) :=
 lD [] [.a,.h 1 (iL c),.f,.h 1 (.pv (ae d))] (y3 (ak ag.cells c) (aq h1) h2)
end jr
namespace nR
@[reducible] def fn:Func:=Tryz.f134
def a8:List eR:=focus [0,2,0,2,0,0,2,0,0] [.code (aP fn)]
def inv1(p AG:List ag)(i_4:Nat):St:=⟨[(0,(.pv (ae p))),(3,(.row 20 0 AG.length 3)),(4,(eI (i_4:Int)))],[(20,(.pure ((AG:List ag).map ag.cells).flatten))]⟩
@[reducible] def ai(p AG:List ag)(i_4:Nat)(r:PV):Prop:=L bp fn a8 (inv1 p AG i_4) r
theorem e0 (p : Rs) {r : PV}  (hL : ai p [] 1 r) : Cp 134 [ae p] r :=
 eG func134 [] [.q,.h 0 .nil,.lL 3 20 3,.q,.aH [0,3,4]] True.intro hL
theorem l10(p b:Rs)(c:Nat)(of v d:ag){r:PV}(h1:c<p.length)(h2:Cp 18 [(vI (c:Int))] of.pv)(h3:p[c]? = some v)(h4:Cp 117 [of.pv,v.pv] d.pv)(h5:((b++[d]):Rs).length*56≤140737488355328)(h6:(c+1)<9223372036854775808)(hL:ai p (b++[d]) (c+1) r):ai p b c r :=
 lG [1,1,1,3,1,6] [.a,.h 2 (iL p),.t,dr 9 2 [.none,.none,(.pv of.pv),.none,.none,(.row c (ag.cells v)),.none,(.pv d.pv),.none,(.app ((b++[d]):Rs).length (((b++[d]):Rs).map ag.cells).flatten)],.h 1 (iI (((c+1):Nat):Int)),.aH [0,3,4],.drop [19]] (y7 (ak ag.cells p) (aj h1) h2 (bm ag.cells (rN c) h3) h4 (iQ aD (b:Rs) ([d]:Rs) 56 (Eq.refl (b:Rs).length) (Eq.refl ([d]:Rs).length) h5 rfl) (aL h6)) hL
theorem c9(p b:Rs)(c:Nat)(d:Rs)(h1:p.length≤c)(h2:Cp 82 [ae b] (ae d)):ai p b c (ae d) :=
 lD [1,1,3] [.a,.h 2 (iL p),.f,.fF 3 ((b:Rs).map ag.cells),.h 1 (.pv (ae d))] (y4 (ak ag.cells p) (aq h1) (cJ aD (b:Rs) (Eq.refl (b:Rs).length)) h2)
end nR
namespace we
theorem e0(p:Rs)(h1:p.length=0):Cp 135 [ae p] (ae []) :=
 eD func135 [] [.q,.h 1 (iL p),.t,.q] (y2 (ak ag.cells p) (aJ h1))
theorem e1(p:Rs)(of:ag)(k:Nat)(v a:ag)(b:Option Int)(c:Rs)(h1:p.length≠0)(h2:Cp 18 [vI 1] of.pv)(h3:az ((p.length:Int)-1))(h4:((p.length:Int)-1)=(k:Int))(h5:p[k]? = some v)(h6:Cp 180 [of.pv,v.pv] (.aF [a.pv,bJ b]))(h7:Cp 187 [(ae []),ae p,a.pv] (ae c)):Cp 135 [ae p] (ae c) :=
 eD func135 [1,1,1,1,1,3] [.q,.h 1 (iL p),.f,dr 13 1 [(.pv of.pv),.none,.none,(iL p),(iI ((p.length:Int)-1)),(.row k (ag.cells v)),.none,(.pv (.aF [a.pv,bJ b]))],.h 2 (.pv (ae c))] (y8 (ak ag.cells p) (ax h1) h2 (ak ag.cells p) (aU h3) (bm ag.cells h4 h5) h6 h7)
end we
namespace rl
@[reducible] def fn:Func:=Tryz.f139
def a8:List eR:=focus [0,2,0,0,2,0,2,1,2,0,2,0,0,2,0,0] [.code (aP fn)]
def inv1(p:List ag)(JZ:Int)(x ek:ag):St:=⟨[(0,(.pv (ae p))),(3,(.ptr 3 0)),(4,(.ptr 4 0)),(7,(.ptr 7 0)),(8,(eI JZ))],[(3,(.lit [(eB x.neg),(.pv (af x.num)),(.pv (af x.den))])),(4,(.lit [(eB false),(.pv (.list [])),(.pv (.list []))])),(7,(.lit [(eB ek.neg),(.pv (af ek.num)),(.pv (af ek.den))]))]⟩
@[reducible] def ai(p:List ag)(JZ:Int)(x ek:ag)(r:PV):Prop:=L bp fn a8 (inv1 p JZ x ek) r
theorem e0(p:Rs)(x:ag){r:PV}(h1:Cp 121 [ae p] .ay)(h2:az ((p.length:Int)-1))(hL:ai p ((p.length:Int)-1) x (⟨false,[],[]⟩:ag) r):Cp 139 [ae p,x.pv] r :=
 eG func139 [] [.q,.h 1 (.pv .ay),.q,.a,.q,.aR [.o,(iL p),(iI ((p.length:Int)-1))],.aH [0,3,4,7,8],.ord [3,4,7]] (y3 h1 (ak ag.cells p) (aU h2)) hL
theorem l10(p:Rs)(b:Int)(x c d:ag)(k:Nat)(v g:ag){r:PV}(h1:0≤b)(h2:Cp 117 [c.pv,x.pv] d.pv)(h3:b=(k:Int))(h4:p[k]? = some v)(h5:Cp 62 [d.pv,v.pv] g.pv)(h6:az (b-1))(hL:ai p (b-1) x g r):ai p b x c r :=
 lG [1,1,3] [.a,.q,.t,dr 8 1 [.none,.none,(.pv d.pv),.none,.none,(.row k (ag.cells v)),.none,(.pv g.pv)],.h 1 (iI (b-1)),.aH [0,3,4,7,8]] (y5 (bN h1) h2 (bm ag.cells h3 h4) h5 (aU h6)) hL
theorem c9(p:Rs)(b:Int)(x c:ag)(h1:b<0):ai p b x c (.aF [c.pv,.ay]) :=
 lD [] [.a,.q,.f,.q] (y1 (fY h1))
end rl
namespace jV
@[reducible] def fn:Func:=Tryz.f174
def a8:List eR:=focus [0,2,0,0,2,0,0] [.code (aP fn)]
def inv1(list:List (List ag))(xo:Nat):St:=⟨[(6,(.pv (dp (db ag.cells) list))),(7,(eI (list.length:Int))),(8,(eI (xo:Int)))],[]⟩
@[reducible] def ai(list:List (List ag))(xo:Nat)(r:PV):Prop:=L bp fn a8 (inv1 list xo) r
theorem e0 (a : List (Rs)) {r : PV}  (hL : ai a 0 r) : Cp 174 [(dp lR a)] r :=
 eG func174 [] [.q,.h 1 (iL a),.aH [6,7,8]] (y1 (ak lR a)) hL
theorem l10(b:List (Rs))(c:Nat)(v:Rs){r:PV}(h1:c<b.length)(h2:b[c]? = some v)(h3:Cp 121 [ae v] .ay)(h4:(c+1)<9223372036854775808)(hL:ai b (c+1) r):ai b c r :=
 lG [1,3] [.a,.q,.t,.h 0 (.row c (lR v)),.h 1 (.pv .ay),.q,.a,.h 0 (iI (((c+1):Nat):Int)),.aH [6,7,8]] (y4 (aj h1) (bm lR (rN c) h2) h3 (aL h4)) hL
theorem c9(b:List (Rs))(c:Nat)(v:Rs)(d:Int)(h1:c<b.length)(h2:b[c]? = some v)(h3:Cp 121 [ae v] (.iface 75 (vI d))):ai b c (.iface 75 (vI d)) :=
 lD [1,3] [.a,.q,.t,.h 0 (.row c (lR v)),.h 1 (.pv (.iface 75 (vI d))),.q,.a,.q] (y3 (aj h1) (bm lR (rN c) h2) h3)
theorem kA(b:List (Rs))(c:Nat)(h1:b.length≤c):ai b c .ay :=
 lD [] [.a,.q,.f,.q] (y1 (aq h1))
end jV
namespace H3
theorem e1(p q b c:Rs)(h1:Cp 174 [(dp lR [p,q])] .ay)(h2:q.length≠0)(h3:Cp 132 [ae p,ae q] (.aF [ae b,ae c])):Cp 182 [ae p,ae q] (.aF [ae b,ae c,.ay]) :=
 eD func182 [3] [.q,.aR [.o,.o,(.fR 0 0 (([p,q]:List (Rs)).map lR)),(.pv .ay)],.q,.a,.h 1 (iL q),.f,.h 2 (.pv (.aF [ae b,ae c])),.q] (y5 (oB (qM ag.cells) ([p,q]:List (Rs))) h1 (ak ag.cells q) (ax h2) h3)
end H3
namespace Ca
theorem e0(p:Rs)(c:ag)(b:Rs)(h1:Cp 121 [ae p] .ay)(h2:Cp 187 [(ae []),ae p,c.pv] (ae b)):Cp 183 [ae p,c.pv] (.aF [ae b,.ay]) :=
 eD func183 [] [.q,.h 1 (.pv .ay),.q,.a,.h 2 (.pv (ae b))] (y2 h1 h2)
end Ca
namespace rm
@[reducible] def fn:Func:=Tryz.f187
def a8:List eR:=focus [0,2,0,2,0,0,2,0,0] [.code (aP fn)]
def inv1(p q:List ag)(JX:Nat)(c:ag)(iT:List ag):St:=⟨[(0,(.pv (ae p))),(1,(.pv (ae q))),(5,(.ptr 5 0)),(7,(.row 14 0 (max p.length q.length) 3)),(16,(eI (((max p.length q.length):Nat):Int))),(17,(eI (JX:Int)))],[(5,(.lit [(eB c.neg),(.pv (af c.num)),(.pv (af c.den))])),(14,(.pure ((iT:List ag).map ag.cells).flatten))]⟩
@[reducible] def ai(p q:List ag)(JX:Nat)(c:ag)(iT:List ag)(r:PV):Prop:=L bp fn a8 (inv1 p q JX c iT) r
theorem e0(p q:Rs)(c:ag){r:PV}(h1:56*(max p.length q.length)≤140737488355328)(hL:ai p q 0 c (List.replicate (max p.length q.length) (⟨false,[],[]⟩:ag)) r):Cp 187 [ae p,ae q,c.pv] r :=
 eG func187 [1,1,1,5] [.q,.aR [.o,(iL p),.o,(iL q),(iI (((max p.length q.length):Nat):Int)),(.app (max p.length q.length) ((List.replicate (max p.length q.length) (⟨false,[],[]⟩:ag):Rs).map ag.cells).flatten)],.q,.aH [0,1,5,7,16,17],.ord [5,14]] (y4 (ak ag.cells p) (ak ag.cells q) (nd p.length q.length) (tH ag.cells (⟨false,[],[]⟩:ag) 56 (max p.length q.length) (rN (max p.length q.length)) h1 rfl)) hL
theorem l10(p q:Rs)(b:Nat)(c:ag)(d:Rs)(g i j k:ag){r:PV}(h1:b<(max p.length q.length))(h2:Cp 225 [ae p,(vI (b:Int))] g.pv)(h3:Cp 225 [ae q,(vI (b:Int))] i.pv)(h4:Cp 117 [c.pv,i.pv] j.pv)(h5:Cp 62 [g.pv,j.pv] k.pv)(h6:b<d.length)(h7:(b+1)<9223372036854775808)(hL:ai p q (b+1) c (d.set b k) r):ai p q b c d r :=
 lG [1,1,1,1,1,2,2] [.a,.q,.t,.q,dr 12 1 [.none,.none,.none,.none,(.pv g.pv),.none,.none,.none,(.pv i.pv),(.pv j.pv),(.pv k.pv),(.nat b),(.cells (.pure (((d.set b k):Rs).map ag.cells).flatten))],.h 0 (iI (((b+1):Nat):Int)),.aH [0,1,5,7,16,17]] (y8 (aj h1) h2 h3 h4 h5 (cj (rN b) h1) (gV aD (d:Rs) k h6) (aL h7)) hL
theorem c9(p q:Rs)(b:Nat)(c:ag)(d g:Rs)(h1:(max p.length q.length)≤b)(h2:(max p.length q.length)=d.length)(h3:Cp 82 [ae d] (ae g)):ai p q b c d (ae g) :=
 lD [1,3] [.a,.q,.f,.fF 7 ((d:Rs).map ag.cells),.h 1 (.pv (ae g))] (y3 (aq h1) (cJ aD (d:Rs) h2) h3)
end rm
namespace nk
theorem e0(p:Rs)(i:Int)(k:Nat)(v:ag)(h1:i<(p.length:Int))(h2:i=(k:Int))(h3:p[k]? = some v):Cp 225 [ae p,vI i] v.pv :=
 eD func225 [1,1,3] [.q,.h 2 (iL p),.t,.h 2 (.row k (ag.cells v))] (y3 (ak ag.cells p) (br h1) (bm ag.cells h2 h3))
theorem e1(p:Rs)(i:Int)(h1:(p.length:Int)≤i):Cp 225 [ae p,vI i] ((⟨false,[],[]⟩:ag).pv) :=
 eD func225 [] [.q,.h 2 (iL p),.f,.q] (y2 (ak ag.cells p) (bu h1))
end nk
namespace po
theorem e0(p q:Rs)(a:Bool)(h1:Cp 46 [ae p,ae q] (vB a)):Cp 12 [ae p,ae q] (vB a) :=
 eD func12 [] [.q,.h 2 (.pv (vB a))] (y1 h1)
end po
namespace vr
theorem e0(a b:aw)(c d:ByteArray)(h1:Cp 75 [a.pv] b.pv)(h2:Cp 31 [b.lo.pv] (.str c))(h3:c.size+(ByteArray.mk #[46,46]).size<9223372036854775808)(h4:Cp 31 [b.hi.pv] (.str d))(h5:(c++(ByteArray.mk #[46,46])).size+d.size<9223372036854775808):Cp 30 [a.pv] (.str ((c++(ByteArray.mk #[46,46]))++d)) :=
 eD func30 [] [.q,.h 1 (.pv b.pv),dr 8 1 [.none,.none,(.pv (.str c)),(.pv (.str (c++(ByteArray.mk #[46,46])))),.none,.none,(.pv (.str d)),(.pv (.str ((c++(ByteArray.mk #[46,46]))++d)))]] (y5 h1 h2 (xj h3) h4 (xj h5))
end vr
namespace ew
@[reducible] def fn:Func:=Tryz.f46
def a8:List eR:=focus [0,2,0,0,2,1,2,0,0,2,0,0] [.code (aP fn)]
def inv1(a b:List ag)(BY:Nat):St:=⟨[(0,(.pv (ae a))),(1,(.pv (ae b))),(5,(eI (BY:Int)))],[]⟩
@[reducible] def ai(a b:List ag)(BY:Nat)(r:PV):Prop:=L bp fn a8 (inv1 a b BY) r
theorem e0(a b:Rs)(h1:a.length≠b.length):Cp 46 [ae a,ae b] (vB false) :=
 eD func46 [] [.q,.aR [.o,(iL a),.o,(iL b)],.t,.q] (y3 (ak ag.cells a) (ak ag.cells b) (cZ h1))
theorem e1(a b:Rs){r:PV}(h1:a.length=b.length)(hL:ai a b 0 r):Cp 46 [ae a,ae b] r :=
 eG func46 [] [.q,.aR [.o,(iL a),.o,(iL b)],.f,.q,.aH [0,1,5]] (y3 (ak ag.cells a) (ak ag.cells b) (bX h1)) hL
theorem l10(a b:Rs)(c:Nat)(v v1:ag)(d:Bool)(h1:c<a.length)(h2:a[c]? = some v)(h3:b[c]? = some v1)(h4:Cp 96 [v.pv,v1.pv] (vB d))(h5:d=false):ai a b c (vB false) :=
 lD [1,1,3,3] [.a,.h 2 (iL a),.t,dr 10 0 [.none,.none,(.row c (ag.cells v)),.none,.none,.none,(.row c (ag.cells v1)),.none,(.pv (vB d))],.t,.q] (y6 (ak ag.cells a) (aj h1) (bm ag.cells (rN c) h2) (bm ag.cells (rN c) h3) h4 (cA h5))
theorem c9(a b:Rs)(c:Nat)(v v1:ag)(d:Bool){r:PV}(h1:c<a.length)(h2:a[c]? = some v)(h3:b[c]? = some v1)(h4:Cp 96 [v.pv,v1.pv] (vB d))(h5:d=true)(h6:(c+1)<9223372036854775808)(hL:ai a b (c+1) r):ai a b c r :=
 lG [1,1,3,3] [.a,.h 2 (iL a),.t,dr 10 0 [.none,.none,(.row c (ag.cells v)),.none,.none,.none,(.row c (ag.cells v1)),.none,(.pv (vB d))],.f,.h 1 (iI (((c+1):Nat):Int)),.aH [0,1,5]] (y7 (ak ag.cells a) (aj h1) (bm ag.cells (rN c) h2) (bm ag.cells (rN c) h3) h4 (aM h5) (aL h6)) hL
theorem kA(a b:Rs)(c:Nat)(h1:a.length≤c):ai a b c (vB true) :=
 lD [] [.a,.h 2 (iL a),.f,.q] (y2 (ak ag.cells a) (aq h1))
end ew
namespace tN
theorem e0(x a b:ag)(h1:Cp 62 [x.pv,(⟨false,[],[]⟩:ag).pv] a.pv)(h2:Cp 62 [x.pv,(⟨false,[],[]⟩:ag).pv] b.pv):Cp 73 [x.pv] ((⟨a,b⟩:aw).pv) :=
 eD func73 [] [.q,dr 7 1 [.none,.none,(.pv a.pv),.none,.none,(.pv b.pv)]] (y2 h1 h2)
end tN
namespace pr
theorem e0(a:aw)(b:Bool)(h1:Cp 142 [a.pv] (vB b))(h2:b=false):Cp 75 [a.pv] ((⟨(⟨false,[],[]⟩:ag),(⟨false,[],[]⟩:ag)⟩:aw).pv) :=
 eD func75 [] [.q,.h 1 (.pv (vB b)),.t,.q] (y2 h1 (cA h2))
theorem e1(a:aw)(b:Bool)(c d:ag)(h1:Cp 142 [a.pv] (vB b))(h2:b=true)(h3:Cp 62 [a.lo.pv,(⟨false,[],[]⟩:ag).pv] c.pv)(h4:Cp 62 [a.hi.pv,(⟨false,[],[]⟩:ag).pv] d.pv):Cp 75 [a.pv] ((⟨c,d⟩:aw).pv) :=
 eD func75 [] [.q,.h 1 (.pv (vB b)),.f,dr 9 1 [.none,.none,.none,(.pv c.pv),.none,.none,.none,(.pv d.pv)]] (y4 h1 (aM h2) h3 h4)
end pr
namespace kl
theorem e0(a b:ag)(c d:Bool)(h1:a.neg=b.neg)(h2:Cp 167 [af a.num,af b.num] (vB c))(h3:c=true)(h4:Cp 167 [af a.den,af b.den] (vB d)):Cp 96 [a.pv,b.pv] (vB d) :=
 eD func96 [] [.q,.aR [.o,.o,.o,.o,.o,.o,.o,.o,.o,.o,(.pv (vB c)),(.dec true),.o,.o,.o,.o,.o,(.pv (vB d)),(.dec true)]] (NI (pY h1) (pY h1) (pY h1) (pY h1) (pY h1) h2 (pY h1) h3 h3 h3 h3 h3 h4 h3)
theorem e1(a b:ag)(c:Bool)(h1:a.neg=b.neg)(h2:Cp 167 [af a.num,af b.num] (vB c))(h3:c=false):Cp 96 [a.pv,b.pv] (vB false) :=
 eD func96 [] [.q,.aR [.o,.o,.o,.o,.o,.o,.o,.o,.o,.o,(.pv (vB c)),(.dec true),.o,.skip,.skip,.skip,.skip,.skip,(.dec false)]] (JV (pY h1) (pY h1) (pY h1) (pY h1) (pY h1) h2 (pY h1) h3 h3 h3 h3 h3 h3)
theorem e2(a b:ag)(h1:a.neg≠b.neg):Cp 96 [a.pv,b.pv] (vB false) :=
 eD func96 [] [.q,.aR [.o,.o,.o,.o,.o,.o,.skip,.skip,.skip,.skip,.skip,(.dec false),.o,.skip,.skip,.skip,.skip,.skip]] (HY (vk h1) (vk h1) (vk h1) (vk h1) (vk h1) (vk h1) rF rF rF rF rF)
end kl
namespace xA
theorem e0(a b:aw)(c d g:ag)(h1:Cp 75 [a.pv] b.pv)(h2:Cp 179 [] c.pv)(h3:Cp 62 [b.lo.pv,b.hi.pv] d.pv)(h4:Cp 117 [c.pv,d.pv] g.pv):Cp 127 [a.pv] g.pv :=
 eD func127 [] [.q,.h 1 (.pv b.pv),dr 7 1 [(.pv c.pv),.none,.none,.none,.none,(.pv d.pv),(.pv g.pv)]] (y4 h1 h2 h3 h4)
end xA
namespace mB
theorem e0(a:aw)(b c:Bool)(d:Int)(h1:Cp 102 [a.lo.pv] (vB b))(h2:b=true)(h3:Cp 102 [a.hi.pv] (vB c))(h4:c=true)(h5:Cp 17 [a.lo.pv,a.hi.pv] (vI d)):Cp 142 [a.pv] (vB (decide (d≤0))) :=
 eD func142 [] [.q,.aR [.o,.o,(.pv (vB b)),.o,.o,.o,(.pv (vB c)),(.dec true),.o,.o,.o,.o,.o,(.pv (vI d)),.o,(.dec true)]] (NI h1 h2 h2 h2 h3 h2 h4 h4 h4 h4 h4 h5 h4 h4)
theorem e1(a:aw)(b c:Bool)(h1:Cp 102 [a.lo.pv] (vB b))(h2:b=true)(h3:Cp 102 [a.hi.pv] (vB c))(h4:c=false):Cp 142 [a.pv] (vB false) :=
 eD func142 [] [.q,.aR [.o,.o,(.pv (vB b)),.o,.o,.o,(.pv (vB c)),(.dec true),.o,.skip,.skip,.skip,.skip,.skip,.skip,(.dec false)]] (JV h1 h2 h2 h2 h3 h2 h4 h4 h4 h4 h4 h4 h4)
theorem e2(a:aw)(b:Bool)(h1:Cp 102 [a.lo.pv] (vB b))(h2:b=false):Cp 142 [a.pv] (vB false) :=
 eD func142 [] [.q,.aR [.o,.o,(.pv (vB b)),.o,.skip,.skip,.skip,(.dec false),.o,.skip,.skip,.skip,.skip,.skip,.skip]] (HY h1 h2 h2 h2 h2 rF rF rF rF rF rF)
end mB
namespace dS
@[reducible] def fn:Func:=Tryz.f167
def a8:List eR:=focus [0,2,0,0,2,1,2,0,0,2,0,0] [.code (aP fn)]
def inv1(a b:List UInt32)(BY:Nat):St:=⟨[(0,(.pv (af a))),(1,(.pv (af b))),(5,(eI (BY:Int)))],[]⟩
@[reducible] def ai(a b:List UInt32)(BY:Nat)(r:PV):Prop:=L bp fn a8 (inv1 a b BY) r
theorem e0(a b:Ws)(h1:a.length≠b.length):Cp 167 [af a,af b] (vB false) :=
 eD func167 [] [.q,.aR [.o,(iL a),.o,(iL b)],.t,.q] (y3 (ak ah a) (ak ah b) (cZ h1))
theorem e1(a b:Ws){r:PV}(h1:a.length=b.length)(hL:ai a b 0 r):Cp 167 [af a,af b] r :=
 eG func167 [] [.q,.aR [.o,(iL a),.o,(iL b)],.f,.q,.aH [0,1,5]] (y3 (ak ah a) (ak ah b) (bX h1)) hL
theorem l10(a b:Ws)(c:Nat)(v v1:UInt32)(h1:c<a.length)(h2:a[c]? = some v)(h3:b[c]? = some v1)(h4:v.toNat≠v1.toNat):ai a b c (vB false) :=
 lD [1,1,3,3] [.a,.h 2 (iL a),.t,dr 9 0 [.none,.none,(.row c (ah v)),.none,.none,.none,(.row c (ah v1))],.t,.q] (y5 (ak ah a) (aj h1) (bm ah (rN c) h2) (bm ah (rN c) h3) (cZ h4))
theorem c9(a b:Ws)(c:Nat)(v v1:UInt32){r:PV}(h1:c<a.length)(h2:a[c]? = some v)(h3:b[c]? = some v1)(h4:v.toNat=v1.toNat)(h5:(c+1)<9223372036854775808)(hL:ai a b (c+1) r):ai a b c r :=
 lG [1,1,3,3] [.a,.h 2 (iL a),.t,dr 9 0 [.none,.none,(.row c (ah v)),.none,.none,.none,(.row c (ah v1))],.f,.h 1 (iI (((c+1):Nat):Int)),.aH [0,1,5]] (y6 (ak ah a) (aj h1) (bm ah (rN c) h2) (bm ah (rN c) h3) (bX h4) (aL h5)) hL
theorem kA(a b:Ws)(c:Nat)(h1:a.length≤c):ai a b c (vB true) :=
 lD [] [.a,.h 2 (iL a),.f,.q] (y2 (ak ah a) (aq h1))
end dS
namespace vt
theorem e0(a:ag)(b:Option Int)(h1:Cp 224 [vI 1,vI 2] (.aF [a.pv,bJ b])):Cp 179 [] a.pv :=
 eD func179 [] [.q,.h 0 (.pv (.aF [a.pv,bJ b])),.q] (y1 h1)
end vt
namespace vu
theorem e0(p:Rs)(b:ag)(c:List (Rs))(d:ag)(z:List aw)(h1:Cp 129 [ae p] (.aF [b.pv,.ay]))(h2:Cp 130 [ae p] (.aF [(dp lR c),.ay]))(h3:Cp 128 [b.pv] d.pv)(h4:au bp 131 [.pv .dX,.pv (ae p),.pv (dp lR c),.pv d.pv,.pv b.pv] [] (.row 0 0 z.length 6) [(0,(pC aw.cells z))]):Cp 68 [ae p] (.aF [dp aw.cells z,.ay]) :=
 eD func68 [1,1,1,1,3] [.q,.h 1 (.pv (.aF [b.pv,.ay])),.q,.a,.h 1 (.pv (.aF [(dp lR c),.ay])),.q,.a,dr 5 3 [.none,.none,.none,(.pv d.pv),.none,(.bG [] (some (0,28)) (.row 0 0 z.length 6) [(0,(pC aw.cells z))])],.fF 2 ((z:List aw).map aw.cells)] (y5 h1 h2 h3 h4 (cJ ri (z:List aw) (Eq.refl (z:List aw).length)))
end vu
namespace sX
theorem e0(p:Rs)(rV:aw)(b:Bool)(c:Option Int)(h1:Cp 175 [ae p] .ay)(h2:Cp 176 [ae p,rV.pv] (.aF [vB b,bJ c])):Cp 124 [ae p,rV.pv] (.aF [vB b,bJ c]) :=
 eD func124 [] [.q,.h 1 (.pv .ay),.q,.a,.h 2 (.pv (.aF [vB b,bJ c]))] (y2 h1 h2)
end sX
namespace iF
@[reducible] def fn:Func:=Tryz.f129
def a8:List eR:=focus [0,2,0,0,2,0,2,1,2,0,2,0,0,2,0,0] [.code (aP fn)]
def inv1(p:List ag)(vZ:Nat)(px:ag):St:=⟨[(0,(.pv (ae p))),(2,(.ptr 2 0)),(5,(.ptr 5 0)),(17,(.pv (ae p))),(18,(eI (p.length:Int))),(19,(eI (vZ:Int)))],[(2,(.lit [(eB false),(.pv (.list [])),(.pv (.list []))])),(5,(.lit [(eB px.neg),(.pv (af px.num)),(.pv (af px.den))]))]⟩
@[reducible] def ai(p:List ag)(vZ:Nat)(px:ag)(r:PV):Prop:=L bp fn a8 (inv1 p vZ px) r
def qP:List eR:=focus [0,2,0,0,2,0,2,1,2,0,2,0,0,2,0,0,0,0,2,0,0,2,0,0,0,2,0,2,0,0,2,1,2,0,0] [.code (aP fn)]
def inv2(p:List ag)(vZ:Nat)(px div:ag):St:=⟨[(0,(.pv (ae p))),(2,(.ptr 2 0)),(5,(.ptr 5 0)),(8,(.ptr 8 0)),(17,(.pv (ae p))),(18,(eI (p.length:Int))),(19,(eI (vZ:Int)))],[(2,(.lit [(eB false),(.pv (.list [])),(.pv (.list []))])),(5,(.lit [(eB px.neg),(.pv (af px.num)),(.pv (af px.den))])),(8,(.lit [(eB div.neg),(.pv (af div.num)),(.pv (af div.den))]))]⟩
@[reducible] def bD(p:List ag)(vZ:Nat)(px div:ag)(r:PV):Prop:=L bp fn qP (inv2 p vZ px div) r
theorem e0(p:Rs)(of:ag){r:PV}(h1:Cp 175 [ae p] .ay)(h2:Cp 18 [vI 1] of.pv)(hL:ai p 0 of r):Cp 129 [ae p] r :=
 eG func129 [] [.q,.h 1 (.pv .ay),.q,.a,.h 0 (.pv of.pv),.h 1 (iL p),.aH [0,2,5,17,18,19],.ord [2,5]] (y3 h1 h2 (ak ag.cells p)) hL
theorem l10(p:Rs)(b:Nat)(c v:ag)(k:Nat)(v1 d:ag){r:PV}(h1:b<p.length)(h2:p[b]? = some v)(h3:az ((p.length:Int)-1))(h4:((p.length:Int)-1)=(k:Int))(h5:p[k]? = some v1)(h6:Cp 180 [v.pv,v1.pv] (.aF [d.pv,.ay]))(hL:bD p b c d r):ai p b c r :=
 lG [1,3,1,1,3] [.a,.q,.t,.h 0 (.row b (ag.cells v)),dr 13 1 [.none,.none,.none,(iL p),(iI ((p.length:Int)-1)),(.row k (ag.cells v1)),.none,(.pv (.aF [d.pv,.ay]))],.q,.a,.aH [0,2,5,8,17,18,19],.drop [7],.ord [2,5,8]] (y6 (aj h1) (bm ag.cells (rN b) h2) (ak ag.cells p) (aU h3) (bm ag.cells h4 h5) h6) hL
theorem kA(p:Rs)(b:Nat)(c:ag)(h1:p.length≤b):ai p b c (.aF [c.pv,.ay]) :=
 lD [] [.a,.q,.f,.q] (y1 (aq h1))
theorem BZ(p:Rs)(b:Nat)(c d of g i:ag)(j:Int)(k:ag){r:PV}(h1:Cp 18 [vI 1] of.pv)(h2:Cp 181 [d.pv] g.pv)(h3:Cp 62 [of.pv,g.pv] i.pv)(h4:Cp 17 [c.pv,i.pv] (vI j))(h5:j<0)(h6:Cp 62 [c.pv,c.pv] k.pv)(hL:bD p b k d r):bD p b c d r :=
 lG [] [.a,dr 7 0 [.none,(.pv of.pv),.none,(.pv g.pv),(.pv i.pv),(.pv (vI j))],.t,.h 2 (.pv k.pv),.aH [0,2,5,8,17,18,19]] (y6 h1 h2 h3 h4 (br h5) h6) hL
theorem FM(p:Rs)(b:Nat)(c d of g i:ag)(j:Int){r:PV}(h1:Cp 18 [vI 1] of.pv)(h2:Cp 181 [d.pv] g.pv)(h3:Cp 62 [of.pv,g.pv] i.pv)(h4:Cp 17 [c.pv,i.pv] (vI j))(h5:0≤j)(h6:(b+1)<9223372036854775808)(hL:ai p (b+1) c r):bD p b c d r :=
 lG [] [.a,dr 7 0 [.none,(.pv of.pv),.none,(.pv g.pv),(.pv i.pv),(.pv (vI j))],.f,.h 0 (iI (((b+1):Nat):Int)),.aH [0,2,5,17,18,19],.drop [8]] (y6 h1 h2 h3 h4 (bu h5) (aL h6)) hL
end iF
namespace nS
@[reducible] def fn:Func:=Tryz.f130
def a8:List eR:=focus [0,2,0,2,0,0,2,1,2,0,2,0,0,2,1,2,0,2,0,0,0] [.code (aP fn)]
def inv1(d_6:List ag)(oD:List (List ag)):St:=⟨[(6,(.pv (ae d_6))),(7,(.row 28 0 oD.length 1))],[(28,(.pure ((oD:List (List ag)).map (db ag.cells)).flatten))]⟩
@[reducible] def ai(d_6:List ag)(oD:List (List ag))(r:PV):Prop:=L bp fn a8 (inv1 d_6 oD) r
theorem e0(p b c:Rs){r:PV}(h1:Cp 69 [ae p] (.aF [ae b,.ay]))(h2:Cp 122 [ae b] (.aF [ae c,.ay]))(hL:ai c [b] r):Cp 130 [ae p] r :=
 eG func130 [] [.q,.h 1 (.pv (.aF [ae b,.ay])),.q,.a,.h 1 (.pv (.aF [ae c,.ay])),.q,.a,.q,.aH [6,7]] (y2 h1 h2) hL
theorem l10(b:Rs)(c:List (Rs))(k:Nat)(v d g:Rs)(of:ag)(i:Rs){r:PV}(h1:0<b.length)(h2:((c++[b]):List (Rs)).length*24≤140737488355328)(h3:az ((((c++[b]).length:Nat):Int)-2))(h4:((((c++[b]).length:Nat):Int)-2)=(k:Int))(h5:k<(c++[b]).length)(h6:(c++[b])[k]? = some v)(h7:Cp 182 [ae v,ae b] (.aF [ae d,ae g,.ay]))(h8:Cp 18 [(vI (-1))] of.pv)(h9:Cp 183 [ae g,of.pv] (.aF [ae i,.ay]))(hL:ai i (c++[b]) r):ai b c r :=
 lG [1,1,6,1,2] [.a,.h 1 (iL b),.t,.h 3 (.app ((c++[b]):List (Rs)).length (((c++[b]):List (Rs)).map lR).flatten),.aR [.o,.o,.o,(iI ((((c++[b]).length:Nat):Int)-2)),(.nat k),(.ev (.pv (ae v))),.o,(.pv (.aF [ae d,ae g,.ay]))],.q,.a,.aR [.o,(.pv of.pv),(.pv (.aF [ae i,.ay]))],.q,.a,.aH [6,7],.drop [34],.rJ 35 28] (y9 (ak ag.cells b) (aj h1) (iQ (qM ag.cells) (c:List (Rs)) ([b]:List (Rs)) 24 (Eq.refl (c:List (Rs)).length) (Eq.refl ([b]:List (Rs)).length) h2 rfl) (aU h3) (cj h4 h5) (gr (enc:=lR) (f:=fun a=>(ae a)) (fun _=>rfl) h6) h7 h8 h9) hL
theorem uA(b:Rs)(c:List (Rs))(h1:b.length≤0):ai b c (.aF [(dp lR c),.ay]) :=
 lD [1,1,3] [.a,.h 1 (iL b),.f,.q,.fF 2 ((c:List (Rs)).map lR)] (y3 (ak ag.cells b) (aq h1) (cJ (qM ag.cells) (c:List (Rs)) (Eq.refl (c:List (Rs)).length)))
end nS
namespace jA
@[reducible] def fn:Func:=Tryz.f131
theorem e0(p:Rs)(l:List (Rs))(lo hi:ag)(a b:Int)(h1:Cp 184 [(dp lR l),lo.pv] (vI a))(h2:Cp 184 [(dp lR l),hi.pv] (vI b))(h3:az (a-b))(h4:(a-b)=0):au bp 131 [(.pv .dX),(.pv (ae p)),(.pv (dp lR l)),(.pv lo.pv),(.pv hi.pv)] [] (.row 0 0 0 6) [(0,(.pure (([]:List aw).map aw.cells).flatten))] :=
 MN func131 [] [.lL 0 1 6,.q,dr 7 1 [.none,.none,(.pv (vI a)),.none,.none,(.pv (vI b)),(iI (a-b))],.q,.t,.q,.rJ 1 0,.drop [9,8],.ord [0]] (y4 h1 h2 (aU h3) (bQ h4))
theorem e1(p:Rs)(l:List (Rs))(lo hi:ag)(a b c d:Int)(g:aw)(h1:Cp 184 [(dp lR l),lo.pv] (vI a))(h2:Cp 184 [(dp lR l),hi.pv] (vI b))(h3:az (a-b))(h4:(a-b)≠0)(h5:(a-b)=1)(h6:Cp 185 [ae p,lo.pv] (vI c))(h7:c≠0)(h8:Cp 185 [ae p,hi.pv] (vI d))(h9:d=0)(cw:Cp 73 [hi.pv] g.pv)(fg:(([]:List aw)++[g]:List aw).length*112≤140737488355328):au bp 131 [(.pv .dX),(.pv (ae p)),(.pv (dp lR l)),(.pv lo.pv),(.pv hi.pv)] [] (.row 0 0 ([g].length) 6) [(0,(.pure (([g]:List aw).map aw.cells).flatten))] :=
 MN func131 [1,1,1,1,1,1,1,1,1,1,1,1,1,1,6] [.lL 0 1 6,.q,dr 7 1 [.none,.none,(.pv (vI a)),.none,.none,(.pv (vI b)),(iI (a-b))],.q,.f,.aR [.o,.o,.o,.o,.o,(.pv (vI c)),.o,(.dec true)],.t,.h 2 (.pv (vI d)),.t,.aR [.o,.o,(.pv g.pv),.o,(.app ([g]:List aw).length (([g]:List aw).map aw.cells).flatten)],.rJ 39 0,.drop [38,9,8],.ord [0]] (NJ h1 h2 (aU h3) (bA h4) (bQ h5) (bQ h5) (bQ h5) h6 (bQ h5) (bQ h5) (gG h7) h8 (bQ h9) cw (iQ ri ([]:List aw) ([g]:List aw) 112 (Eq.refl ([]:List aw).length) (Eq.refl ([g]:List aw).length) fg rfl))
theorem e2(p:Rs)(l:List (Rs))(lo hi:ag)(a b c d:Int)(g i:ag)(h1:Cp 184 [(dp lR l),lo.pv] (vI a))(h2:Cp 184 [(dp lR l),hi.pv] (vI b))(h3:az (a-b))(h4:(a-b)≠0)(h5:(a-b)=1)(h6:Cp 185 [ae p,lo.pv] (vI c))(h7:c≠0)(h8:Cp 185 [ae p,hi.pv] (vI d))(h9:d≠0)(cw:Cp 62 [lo.pv,(⟨false,[],[]⟩:ag).pv] g.pv)(fg:Cp 62 [hi.pv,(⟨false,[],[]⟩:ag).pv] i.pv)(iC:(([]:List aw)++[(⟨g,i⟩:aw)]:List aw).length*112≤140737488355328):au bp 131 [(.pv .dX),(.pv (ae p)),(.pv (dp lR l)),(.pv lo.pv),(.pv hi.pv)] [] (.row 0 0 ([(⟨g,i⟩:aw)].length) 6) [(0,(.pure (([(⟨g,i⟩:aw)]:List aw).map aw.cells).flatten))] :=
 MN func131 [1,1,1,1,1,1,1,1,1,1,1,1,1,1,1,6] [.lL 0 1 6,.q,dr 7 1 [.none,.none,(.pv (vI a)),.none,.none,(.pv (vI b)),(iI (a-b))],.q,.f,.aR [.o,.o,.o,.o,.o,(.pv (vI c)),.o,(.dec true)],.t,.h 2 (.pv (vI d)),.f,dr 9 2 [.none,.none,.none,(.pv g.pv),.none,.none,(.pv i.pv),.none,.none,(.app ([(⟨g,i⟩:aw)]:List aw).length (([(⟨g,i⟩:aw)]:List aw).map aw.cells).flatten)],.rJ 49 0,.drop [48,9,8],.ord [0]] (Lj h1 h2 (aU h3) (bA h4) (bQ h5) (bQ h5) (bQ h5) h6 (bQ h5) (bQ h5) (gG h7) h8 (bA h9) cw fg (iQ ri ([]:List aw) ([(⟨g,i⟩:aw)]:List aw) 112 (Eq.refl ([]:List aw).length) (Eq.refl ([(⟨g,i⟩:aw)]:List aw).length) iC rfl))
theorem FR(p:List ag)(l:List (List ag))(lo hi pK:ag)(z z1:List aw):rf bp FH fn [0,2,0,2,0,0,2,1,2,0,0,2,1,2,0,2,0] [0,1,2,6,7] [.none,.none,.none,.none,.none,(.bG [(1,200000)] (some (0,59)) (.row 0 0 z.length 6) [(0,(pC aw.cells z))]),.none,.none,.none,.none,(.bG [(59,200000)] (some (0,64)) (.row 0 0 z1.length 6) [(0,(pC aw.cells z1))]),.none] ⟨[(0,(.row 1 0 0 6)),(1,(.pv (ae p))),(2,(.pv (dp lR l))),(8,(.ptr 8 0)),(9,(.ptr 9 0)),(12,(.ptr 12 0))],[(12,(.lit [(eB pK.neg),(.pv (af pK.num)),(.pv (af pK.den))])),(9,(.lit [(eB hi.neg),(.pv (af hi.num)),(.pv (af hi.den))])),(8,(.lit [(eB lo.neg),(.pv (af lo.num)),(.pv (af lo.den))])),(1,(.pure (([]:List aw).map aw.cells).flatten))]⟩:=by unfold rf Ao;kernel_rfl
theorem e3(p:Rs)(l:List (Rs))(lo hi:ag)(a b c:Int)(d:ag)(z z1:List aw)(h1:Cp 184 [(dp lR l),lo.pv] (vI a))(h2:Cp 184 [(dp lR l),hi.pv] (vI b))(h3:az (a-b))(h4:(a-b)≠0)(h5:(a-b)=1)(h6:Cp 185 [ae p,lo.pv] (vI c))(h7:c=0)(h8:Cp 127 [(⟨lo,hi⟩:aw).pv] d.pv)(h9:au bp 131 [.row 200000 0 0 6,.pv (ae p),.pv (dp lR l),.pv lo.pv,.pv d.pv] [(200000,(.pure (([]:List aw).map aw.cells).flatten))] (.row 0 0 z.length 6) [(0,(pC aw.cells z))])(cw:au bp 131 [.row 200000 0 z.length 6,.pv (ae p),.pv (dp lR l),.pv d.pv,.pv hi.pv] [(200000,(pC aw.cells z))] (.row 0 0 z1.length 6) [(0,(pC aw.cells z1))]):au bp 131 [(.pv .dX),(.pv (ae p)),(.pv (dp lR l)),(.pv lo.pv),(.pv hi.pv)] [] (.row 0 0 z1.length 6) [(0,(pC aw.cells z1))] :=
 MN func131 [] [.lL 0 1 6,.q,dr 7 1 [.none,.none,(.pv (vI a)),.none,.none,(.pv (vI b)),(iI (a-b))],.q,.f,.aR [.o,.o,.o,.o,.o,(.pv (vI c)),.o,(.dec true)],.f,.h 3 (.pv d.pv),.aH [0,1,2,8,9,12],.any [0,1,2,6,7] [.none,.none,.none,.none,.none,(.bG [(1,200000)] (some (0,59)) (.row 0 0 z.length 6) [(0,(pC aw.cells z))]),.none,.none,.none,.none,(.bG [(59,200000)] (some (0,64)) (.row 0 0 z1.length 6) [(0,(pC aw.cells z1))]),.none],.rJ 64 0,.drop [12,9,8],.ord [0]] (NJ h1 h2 (aU h3) (bA h4) (bQ h5) (bQ h5) (bQ h5) h6 (bQ h5) (bQ h5) (cR h7) h8 h9 cw (FR p l lo hi d z z1))
theorem FT(p:List ag)(l:List (List ag))(lo hi pK:ag)(z z1:List aw):rf bp FH fn [0,2,0,2,0,0,2,1,2,0,0,2,1,2,0,2,0] [0,1,2,6,7] [.none,.none,.none,.none,.none,(.bG [(1,200000)] (some (0,59)) (.row 0 0 z.length 6) [(0,(pC aw.cells z))]),.none,.none,.none,.none,(.bG [(59,200000)] (some (0,64)) (.row 0 0 z1.length 6) [(0,(pC aw.cells z1))]),.none] ⟨[(0,(.row 1 0 0 6)),(1,(.pv (ae p))),(2,(.pv (dp lR l))),(8,(.ptr 8 0)),(9,(.ptr 9 0)),(12,(.ptr 12 0))],[(12,(.lit [(eB pK.neg),(.pv (af pK.num)),(.pv (af pK.den))])),(9,(.lit [(eB hi.neg),(.pv (af hi.num)),(.pv (af hi.den))])),(8,(.lit [(eB lo.neg),(.pv (af lo.num)),(.pv (af lo.den))])),(1,(.pure (([]:List aw).map aw.cells).flatten))]⟩:=by unfold rf Ao;kernel_rfl
theorem e4(p:Rs)(l:List (Rs))(lo hi:ag)(b c:Int)(d:ag)(z z1:List aw)(h1:Cp 184 [(dp lR l),lo.pv] (vI b))(h2:Cp 184 [(dp lR l),hi.pv] (vI c))(h3:az (b-c))(h4:(b-c)≠0)(h5:(b-c)≠1)(h6:Cp 127 [(⟨lo,hi⟩:aw).pv] d.pv)(h7:au bp 131 [.row 200000 0 0 6,.pv (ae p),.pv (dp lR l),.pv lo.pv,.pv d.pv] [(200000,(.pure (([]:List aw).map aw.cells).flatten))] (.row 0 0 z.length 6) [(0,(pC aw.cells z))])(h8:au bp 131 [.row 200000 0 z.length 6,.pv (ae p),.pv (dp lR l),.pv d.pv,.pv hi.pv] [(200000,(pC aw.cells z))] (.row 0 0 z1.length 6) [(0,(pC aw.cells z1))]):au bp 131 [(.pv .dX),(.pv (ae p)),(.pv (dp lR l)),(.pv lo.pv),(.pv hi.pv)] [] (.row 0 0 z1.length 6) [(0,(pC aw.cells z1))] :=
 MN func131 [] [.lL 0 1 6,.q,dr 7 1 [.none,.none,(.pv (vI b)),.none,.none,(.pv (vI c)),(iI (b-c))],.q,.f,.aR [.o,.o,.o,.skip,.skip,.skip,.skip,(.dec false)],.a,.h 3 (.pv d.pv),.aH [0,1,2,8,9,12],.any [0,1,2,6,7] [.none,.none,.none,.none,.none,(.bG [(1,200000)] (some (0,59)) (.row 0 0 z.length 6) [(0,(pC aw.cells z))]),.none,.none,.none,.none,(.bG [(59,200000)] (some (0,64)) (.row 0 0 z1.length 6) [(0,(pC aw.cells z1))]),.none],.rJ 64 0,.drop [12,9,8],.ord [0]] (JV h1 h2 (aU h3) (bA h4) (bA h5) (bA h5) (bA h5) (bA h5) (bA h5) h6 h7 h8 (FT p l lo hi d z z1))
end jA
namespace jB
@[reducible] def fn:Func:=Tryz.f131
theorem e0(a:List aw)(p:Rs)(l:List (Rs))(lo hi:ag)(b c:Int)(h1:Cp 184 [(dp lR l),lo.pv] (vI b))(h2:Cp 184 [(dp lR l),hi.pv] (vI c))(h3:az (b-c))(h4:(b-c)=0):au bp 131 [(.row 200000 0 a.length 6),(.pv (ae p)),(.pv (dp lR l)),(.pv lo.pv),(.pv hi.pv)] [(200000,(pC aw.cells a))] (.row 0 0 a.length 6) [(0,(pC aw.cells a))] :=
 MN func131 [] [.rJ 200000 1,.q,dr 7 1 [.none,.none,(.pv (vI b)),.none,.none,(.pv (vI c)),(iI (b-c))],.q,.t,.q,.rJ 1 0,.drop [9,8],.ord [0]] (y4 h1 h2 (aU h3) (bQ h4))
theorem e1(a:List aw)(p:Rs)(l:List (Rs))(lo hi:ag)(b c d g:Int)(i:aw)(h1:Cp 184 [(dp lR l),lo.pv] (vI b))(h2:Cp 184 [(dp lR l),hi.pv] (vI c))(h3:az (b-c))(h4:(b-c)≠0)(h5:(b-c)=1)(h6:Cp 185 [ae p,lo.pv] (vI d))(h7:d≠0)(h8:Cp 185 [ae p,hi.pv] (vI g))(h9:g=0)(cw:Cp 73 [hi.pv] i.pv)(fg:((a++[i]):List aw).length*112≤140737488355328):au bp 131 [(.row 200000 0 a.length 6),(.pv (ae p)),(.pv (dp lR l)),(.pv lo.pv),(.pv hi.pv)] [(200000,(pC aw.cells a))] (.row 0 0 ((a++[i]).length) 6) [(0,(.pure (((a++[i]):List aw).map aw.cells).flatten))] :=
 MN func131 [1,1,1,1,1,1,1,1,1,1,1,1,1,1,6] [.rJ 200000 1,.q,dr 7 1 [.none,.none,(.pv (vI b)),.none,.none,(.pv (vI c)),(iI (b-c))],.q,.f,.aR [.o,.o,.o,.o,.o,(.pv (vI d)),.o,(.dec true)],.t,.h 2 (.pv (vI g)),.t,.aR [.o,.o,(.pv i.pv),.o,(.app ((a++[i]):List aw).length (((a++[i]):List aw).map aw.cells).flatten)],.rJ 39 0,.drop [38,9,8],.ord [0]] (NJ h1 h2 (aU h3) (bA h4) (bQ h5) (bQ h5) (bQ h5) h6 (bQ h5) (bQ h5) (gG h7) h8 (bQ h9) cw (iQ ri (a:List aw) ([i]:List aw) 112 (Eq.refl (a:List aw).length) (Eq.refl ([i]:List aw).length) fg rfl))
theorem e2(a:List aw)(p:Rs)(l:List (Rs))(lo hi:ag)(b c d g:Int)(i j:ag)(h1:Cp 184 [(dp lR l),lo.pv] (vI b))(h2:Cp 184 [(dp lR l),hi.pv] (vI c))(h3:az (b-c))(h4:(b-c)≠0)(h5:(b-c)=1)(h6:Cp 185 [ae p,lo.pv] (vI d))(h7:d≠0)(h8:Cp 185 [ae p,hi.pv] (vI g))(h9:g≠0)(cw:Cp 62 [lo.pv,(⟨false,[],[]⟩:ag).pv] i.pv)(fg:Cp 62 [hi.pv,(⟨false,[],[]⟩:ag).pv] j.pv)(iC:((a++[(⟨i,j⟩:aw)]):List aw).length*112≤140737488355328):au bp 131 [(.row 200000 0 a.length 6),(.pv (ae p)),(.pv (dp lR l)),(.pv lo.pv),(.pv hi.pv)] [(200000,(pC aw.cells a))] (.row 0 0 ((a++[(⟨i,j⟩:aw)]).length) 6) [(0,(.pure (((a++[(⟨i,j⟩:aw)]):List aw).map aw.cells).flatten))] :=
 MN func131 [1,1,1,1,1,1,1,1,1,1,1,1,1,1,1,6] [.rJ 200000 1,.q,dr 7 1 [.none,.none,(.pv (vI b)),.none,.none,(.pv (vI c)),(iI (b-c))],.q,.f,.aR [.o,.o,.o,.o,.o,(.pv (vI d)),.o,(.dec true)],.t,.h 2 (.pv (vI g)),.f,dr 9 2 [.none,.none,.none,(.pv i.pv),.none,.none,(.pv j.pv),.none,.none,(.app ((a++[(⟨i,j⟩:aw)]):List aw).length (((a++[(⟨i,j⟩:aw)]):List aw).map aw.cells).flatten)],.rJ 49 0,.drop [48,9,8],.ord [0]] (Lj h1 h2 (aU h3) (bA h4) (bQ h5) (bQ h5) (bQ h5) h6 (bQ h5) (bQ h5) (gG h7) h8 (bA h9) cw fg (iQ ri (a:List aw) ([(⟨i,j⟩:aw)]:List aw) 112 (Eq.refl (a:List aw).length) (Eq.refl ([(⟨i,j⟩:aw)]:List aw).length) iC rfl))
theorem FR(out:List aw)(p:List ag)(l:List (List ag))(lo hi pK:ag)(z z1:List aw):rf bp FH fn [0,2,0,2,0,0,2,1,2,0,0,2,1,2,0,2,0] [0,1,2,6,7] [.none,.none,.none,.none,.none,(.bG [(1,200000)] (some (0,59)) (.row 0 0 z.length 6) [(0,(pC aw.cells z))]),.none,.none,.none,.none,(.bG [(59,200000)] (some (0,64)) (.row 0 0 z1.length 6) [(0,(pC aw.cells z1))]),.none] ⟨[(0,(.row 1 0 out.length 6)),(1,(.pv (ae p))),(2,(.pv (dp lR l))),(8,(.ptr 8 0)),(9,(.ptr 9 0)),(12,(.ptr 12 0))],[(12,(.lit [(eB pK.neg),(.pv (af pK.num)),(.pv (af pK.den))])),(9,(.lit [(eB hi.neg),(.pv (af hi.num)),(.pv (af hi.den))])),(8,(.lit [(eB lo.neg),(.pv (af lo.num)),(.pv (af lo.den))])),(1,(pC aw.cells out))]⟩:=by unfold rf Ao;kernel_rfl
theorem e3(a:List aw)(p:Rs)(l:List (Rs))(lo hi:ag)(b c d:Int)(g:ag)(z z1:List aw)(h1:Cp 184 [(dp lR l),lo.pv] (vI b))(h2:Cp 184 [(dp lR l),hi.pv] (vI c))(h3:az (b-c))(h4:(b-c)≠0)(h5:(b-c)=1)(h6:Cp 185 [ae p,lo.pv] (vI d))(h7:d=0)(h8:Cp 127 [(⟨lo,hi⟩:aw).pv] g.pv)(h9:au bp 131 [.row 200000 0 a.length 6,.pv (ae p),.pv (dp lR l),.pv lo.pv,.pv g.pv] [(200000,(pC aw.cells a))] (.row 0 0 z.length 6) [(0,(pC aw.cells z))])(cw:au bp 131 [.row 200000 0 z.length 6,.pv (ae p),.pv (dp lR l),.pv g.pv,.pv hi.pv] [(200000,(pC aw.cells z))] (.row 0 0 z1.length 6) [(0,(pC aw.cells z1))]):au bp 131 [(.row 200000 0 a.length 6),(.pv (ae p)),(.pv (dp lR l)),(.pv lo.pv),(.pv hi.pv)] [(200000,(pC aw.cells a))] (.row 0 0 z1.length 6) [(0,(pC aw.cells z1))] :=
 MN func131 [] [.rJ 200000 1,.q,dr 7 1 [.none,.none,(.pv (vI b)),.none,.none,(.pv (vI c)),(iI (b-c))],.q,.f,.aR [.o,.o,.o,.o,.o,(.pv (vI d)),.o,(.dec true)],.f,.h 3 (.pv g.pv),.aH [0,1,2,8,9,12],.any [0,1,2,6,7] [.none,.none,.none,.none,.none,(.bG [(1,200000)] (some (0,59)) (.row 0 0 z.length 6) [(0,(pC aw.cells z))]),.none,.none,.none,.none,(.bG [(59,200000)] (some (0,64)) (.row 0 0 z1.length 6) [(0,(pC aw.cells z1))]),.none],.rJ 64 0,.drop [12,9,8],.ord [0]] (NJ h1 h2 (aU h3) (bA h4) (bQ h5) (bQ h5) (bQ h5) h6 (bQ h5) (bQ h5) (cR h7) h8 h9 cw (FR a p l lo hi g z z1))
theorem FT(out:List aw)(p:List ag)(l:List (List ag))(lo hi pK:ag)(z z1:List aw):rf bp FH fn [0,2,0,2,0,0,2,1,2,0,0,2,1,2,0,2,0] [0,1,2,6,7] [.none,.none,.none,.none,.none,(.bG [(1,200000)] (some (0,59)) (.row 0 0 z.length 6) [(0,(pC aw.cells z))]),.none,.none,.none,.none,(.bG [(59,200000)] (some (0,64)) (.row 0 0 z1.length 6) [(0,(pC aw.cells z1))]),.none] ⟨[(0,(.row 1 0 out.length 6)),(1,(.pv (ae p))),(2,(.pv (dp lR l))),(8,(.ptr 8 0)),(9,(.ptr 9 0)),(12,(.ptr 12 0))],[(12,(.lit [(eB pK.neg),(.pv (af pK.num)),(.pv (af pK.den))])),(9,(.lit [(eB hi.neg),(.pv (af hi.num)),(.pv (af hi.den))])),(8,(.lit [(eB lo.neg),(.pv (af lo.num)),(.pv (af lo.den))])),(1,(pC aw.cells out))]⟩:=by unfold rf Ao;kernel_rfl
theorem e4(b:List aw)(p:Rs)(l:List (Rs))(lo hi:ag)(c d:Int)(g:ag)(z z1:List aw)(h1:Cp 184 [(dp lR l),lo.pv] (vI c))(h2:Cp 184 [(dp lR l),hi.pv] (vI d))(h3:az (c-d))(h4:(c-d)≠0)(h5:(c-d)≠1)(h6:Cp 127 [(⟨lo,hi⟩:aw).pv] g.pv)(h7:au bp 131 [.row 200000 0 b.length 6,.pv (ae p),.pv (dp lR l),.pv lo.pv,.pv g.pv] [(200000,(pC aw.cells b))] (.row 0 0 z.length 6) [(0,(pC aw.cells z))])(h8:au bp 131 [.row 200000 0 z.length 6,.pv (ae p),.pv (dp lR l),.pv g.pv,.pv hi.pv] [(200000,(pC aw.cells z))] (.row 0 0 z1.length 6) [(0,(pC aw.cells z1))]):au bp 131 [(.row 200000 0 b.length 6),(.pv (ae p)),(.pv (dp lR l)),(.pv lo.pv),(.pv hi.pv)] [(200000,(pC aw.cells b))] (.row 0 0 z1.length 6) [(0,(pC aw.cells z1))] :=
 MN func131 [] [.rJ 200000 1,.q,dr 7 1 [.none,.none,(.pv (vI c)),.none,.none,(.pv (vI d)),(iI (c-d))],.q,.f,.aR [.o,.o,.o,.skip,.skip,.skip,.skip,(.dec false)],.a,.h 3 (.pv g.pv),.aH [0,1,2,8,9,12],.any [0,1,2,6,7] [.none,.none,.none,.none,.none,(.bG [(1,200000)] (some (0,59)) (.row 0 0 z.length 6) [(0,(pC aw.cells z))]),.none,.none,.none,.none,(.bG [(59,200000)] (some (0,64)) (.row 0 0 z1.length 6) [(0,(pC aw.cells z1))]),.none],.rJ 64 0,.drop [12,9,8],.ord [0]] (JV h1 h2 (aU h3) (bA h4) (bA h5) (bA h5) (bA h5) (bA h5) (bA h5) h6 h7 h8 (FT b p l lo hi g z z1))
end jB
namespace qu
theorem e0(p:Rs)(h1:Cp 121 [ae p] .ay)(h2:p.length=0):Cp 175 [ae p] (.iface 75 (vI 8)) :=
 eD func175 [] [.q,.h 1 (.pv .ay),.q,.a,.h 1 (iL p),.t,.q] (y3 h1 (ak ag.cells p) (aJ h2))
theorem e1(p:Rs)(h1:Cp 121 [ae p] .ay)(h2:p.length≠0):Cp 175 [ae p] .ay :=
 eD func175 [] [.q,.h 1 (.pv .ay),.q,.a,.h 1 (iL p),.f,.q] (y3 h1 (ak ag.cells p) (ax h2))
theorem e2(p:Rs)(b:Int)(h1:Cp 121 [ae p] (.iface 75 (vI b))):Cp 175 [ae p] (.iface 75 (vI b)) :=
 eD func175 [] [.q,.h 1 (.pv (.iface 75 (vI b))),.q,.a,.q] (y1 h1)
end qu
namespace js
theorem e0(p:Rs)(rV:aw)(a:Bool)(h1:Cp 142 [rV.pv] (vB a))(h2:a=false):Cp 176 [ae p,rV.pv] (.aF [vB false,.ay]) :=
 eD func176 [] [.q,.h 1 (.pv (vB a)),.t,.q] (y2 h1 (cA h2))
theorem e1(p:Rs)(rV:aw)(a:Bool)(b c:Int)(h1:Cp 142 [rV.pv] (vB a))(h2:a=true)(h3:Cp 17 [rV.lo.pv,rV.hi.pv] (vI b))(h4:b=0)(h5:Cp 185 [ae p,rV.lo.pv] (vI c)):Cp 176 [ae p,rV.pv] (.aF [(vB (c==0)),.ay]) :=
 eD func176 [] [.q,.h 1 (.pv (vB a)),.f,.h 4 (.pv (vI b)),.t,.h 3 (.pv (vI c))] (y5 h1 (aM h2) h3 (bQ h4) h5)
theorem e2(p:Rs)(rV:aw)(b:Bool)(c:Int)(d:Rs)(g i:Int)(h1:Cp 142 [rV.pv] (vB b))(h2:b=true)(h3:Cp 17 [rV.lo.pv,rV.hi.pv] (vI c))(h4:c≠0)(h5:Cp 69 [ae p] (.aF [ae d,.ay]))(h6:Cp 185 [ae d,rV.lo.pv] (vI g))(h7:Cp 185 [ae d,rV.hi.pv] (vI i))(h8:az (g*i))(h9:(g*i)≠(-1)):Cp 176 [ae p,rV.pv] (.aF [vB false,.ay]) :=
 eD func176 [] [.q,.h 1 (.pv (vB b)),.f,.h 4 (.pv (vI c)),.f,.h 1 (.pv (.aF [ae d,.ay])),.q,.a,dr 10 0 [.none,.none,.none,(.pv (vI g)),.none,.none,.none,(.pv (vI i)),(iI (g*i))],.t,.q] (y9 h1 (aM h2) h3 (bA h4) h5 h6 h7 (o8 h8) (gG h9))
theorem e3(p:Rs)(rV:aw)(b:Bool)(c:Int)(d:Rs)(g i j:Int)(k:Option Int)(h1:Cp 142 [rV.pv] (vB b))(h2:b=true)(h3:Cp 17 [rV.lo.pv,rV.hi.pv] (vI c))(h4:c≠0)(h5:Cp 69 [ae p] (.aF [ae d,.ay]))(h6:Cp 185 [ae d,rV.lo.pv] (vI g))(h7:Cp 185 [ae d,rV.hi.pv] (vI i))(h8:az (g*i))(h9:(g*i)=(-1))(cw:Cp 223 [ae p,rV.lo.pv,rV.hi.pv] (.aF [vI j,bJ k])):Cp 176 [ae p,rV.pv] (.aF [(vB (j==1)),bJ k]) :=
 eD func176 [] [.q,.h 1 (.pv (vB b)),.f,.h 4 (.pv (vI c)),.f,.h 1 (.pv (.aF [ae d,.ay])),.q,.a,dr 10 0 [.none,.none,.none,(.pv (vI g)),.none,.none,.none,(.pv (vI i)),(iI (g*i))],.f,.h 5 (.pv (.aF [vI j,bJ k])),.q] (JU h1 (aM h2) h3 (bA h4) h5 h6 h7 (o8 h8) (cR h9) cw)
end js
namespace gS
@[reducible] def fn:Func:=Tryz.f184
def a8:List eR:=focus [0,2,0,2,0,0,2,0,0] [.code (aP fn)]
def inv1(UG:Nat)(J5:Int)(l:List (List ag))(J2:Nat)(x:ag):St:=⟨[(3,(.ptr 3 0)),(5,(eI (UG:Int))),(6,(eI J5)),(10,(.pv (dp (db ag.cells) l))),(11,(eI (l.length:Int))),(12,(eI (J2:Int)))],[(3,(.lit [(eB x.neg),(.pv (af x.num)),(.pv (af x.den))]))]⟩
@[reducible] def ai(UG:Nat)(J5:Int)(l:List (List ag))(J2:Nat)(x:ag)(r:PV):Prop:=L bp fn a8 (inv1 UG J5 l J2 x) r
theorem e0 (l : List (Rs)) (x : ag) {r : PV}  (hL : ai 0 0 l 0 x r) : Cp 184 [(dp lR l), x.pv] r :=
 eG func184 [] [.q,.q,.h 1 (iL l),.aH [3,5,6,10,11,12]] (y1 (ak lR l)) hL
theorem l10(b:Nat)(c:Int)(l:List (Rs))(d:Nat)(x:ag)(v:Rs)(g:Int){r:PV}(h1:d<l.length)(h2:l[d]? = some v)(h3:Cp 185 [ae v,x.pv] (vI g))(h4:g≠0)(h5:az (-c))(h6:g=(-c))(h7:(b+1)<9223372036854775808)(h8:(d+1)<9223372036854775808)(hL:ai (b+1) g l (d+1) x r):ai b c l d x r :=
 lG [1,3] [.a,.q,.t,.h 0 (.row d (lR v)),.h 2 (.pv (vI g)),.q,.t,.h 2 (iI (-c)),.t,.h 1 (iI (((b+1):Nat):Int)),.q,.h 0 (iI (((d+1):Nat):Int)),.aH [3,5,6,10,11,12]] (y8 (aj h1) (bm lR (rN d) h2) h3 (gG h4) (JS h5) (bQ h6) (aL h7) (aL h8)) hL
theorem c9(b:Nat)(c:Int)(l:List (Rs))(d:Nat)(x:ag)(v:Rs)(g:Int){r:PV}(h1:d<l.length)(h2:l[d]? = some v)(h3:Cp 185 [ae v,x.pv] (vI g))(h4:g≠0)(h5:az (-c))(h6:g≠(-c))(h7:(d+1)<9223372036854775808)(hL:ai b g l (d+1) x r):ai b c l d x r :=
 lG [1,3] [.a,.q,.t,.h 0 (.row d (lR v)),.h 2 (.pv (vI g)),.q,.t,.h 2 (iI (-c)),.f,.q,.h 0 (iI (((d+1):Nat):Int)),.aH [3,5,6,10,11,12]] (y7 (aj h1) (bm lR (rN d) h2) h3 (gG h4) (JS h5) (bA h6) (aL h7)) hL
theorem kA(b:Nat)(c:Int)(l:List (Rs))(d:Nat)(x:ag)(v:Rs)(g:Int){r:PV}(h1:d<l.length)(h2:l[d]? = some v)(h3:Cp 185 [ae v,x.pv] (vI g))(h4:g=0)(h5:(d+1)<9223372036854775808)(hL:ai b c l (d+1) x r):ai b c l d x r :=
 lG [1,3] [.a,.q,.t,.h 0 (.row d (lR v)),.h 2 (.pv (vI g)),.q,.f,.h 0 (iI (((d+1):Nat):Int)),.aH [3,5,6,10,11,12]] (y5 (aj h1) (bm lR (rN d) h2) h3 (cR h4) (aL h5)) hL
theorem uA(b:Nat)(c:Int)(l:List (Rs))(d:Nat)(x:ag)(h1:l.length≤d):ai b c l d x (vI (b:Int)) :=
 lD [] [.a,.q,.f,.q] (y1 (aq h1))
end gS
namespace tO
theorem e0(p:Rs)(x a:ag)(b:Option Int)(c:Int)(h1:Cp 139 [ae p,x.pv] (.aF [a.pv,bJ b]))(h2:Cp 119 [a.pv] (vI c)):Cp 185 [ae p,x.pv] (vI c) :=
 eD func185 [] [.q,.h 2 (.pv (.aF [a.pv,bJ b])),.h 1 (.pv (vI c))] (y2 h1 h2)
end tO
namespace zN
theorem e3(p:Rs)(lo hi:ag)(b c:Bool)(d:Int)(g:List (Rs))(i j:Int)(h1:Cp 175 [ae p] .ay)(h2:Cp 102 [lo.pv] (vB b))(h3:b=true)(h4:Cp 102 [hi.pv] (vB c))(h5:c=true)(h6:Cp 17 [lo.pv,hi.pv] (vI d))(h7:d≤0)(h8:Cp 130 [ae p] (.aF [(dp lR g),.ay]))(h9:Cp 184 [(dp lR g),lo.pv] (vI i))(cw:Cp 184 [(dp lR g),hi.pv] (vI j))(fg:az (i-j)):Cp 223 [ae p,lo.pv,hi.pv] (.aF [(vI (i-j)),.ay]) :=
 eD func223 [] [.q,.h 1 (.pv .ay),.q,.a,.aR [.o,(.pv (vB b)),.o,.o,.o,(.pv (vB c)),.o,(.dec false),.o,.o,.o,(.pv (vI d)),.o,(.dec false)],.f,.h 1 (.pv (.aF [(dp lR g),.ay])),.q,.a,dr 7 2 [.none,.none,(.pv (vI i)),.none,.none,(.pv (vI j)),(iI (i-j))]] (Uu h1 h2 (aM h3) (aM h3) h4 (aM h3) (aM h3) (aM h5) (aM h5) (aM h5) h6 (aM h5) (aM h5) (bu h7) h8 h9 cw (aU fg))
end zN
namespace oi
theorem e3(a:bk)(b c:Rs)(d:Bool)(h1:Cp 121 [ae a.p] .ay)(h2:a.p.length≠0)(h3:Cp 122 [ae a.p] (.aF [ae b,.ay]))(h4:Cp 123 [ae a.p,ae b] (.aF [ae c,.ay]))(h5:c.length=1)(h6:Cp 124 [ae a.p,a.rV.pv] (.aF [vB d,.ay]))(h7:d=true):Cp 64 [a.pv] .ay :=
 eD func64 [] [.q,.h 2 (.pv .ay),.q,.a,.h 2 (iL a.p),.f,.h 2 (.pv (.aF [ae b,.ay])),.q,.a,.h 3 (.pv (.aF [ae c,.ay])),.q,.a,.h 1 (iL c),.f,.h 4 (.pv (.aF [vB d,.ay])),.q,.f,.q] (HY h1 (ak ag.cells a.p) (ax h2) h3 h4 (ak ag.cells c) (bX h5) h6 rT rT (aM h7))
end oi
namespace dP
@[reducible] def fn:Func:=Tryz.f26
def a8:List eR:=focus [0,2,0,2,0,0,2,1,2,0,2,0,0,2,0,0] [.code (aP fn)]
def inv1(p:List ag)(AH:List bk)(RH:List aw)(UH:Nat):St:=⟨[(0,(.pv (ae p))),(6,(.row 38 0 AH.length 7)),(19,(.pv (dp aw.cells RH))),(20,(eI (RH.length:Int))),(21,(eI (UH:Int)))],[(38,(.pure ((AH:List bk).map bk.cells).flatten))]⟩
@[reducible] def ai(p:List ag)(AH:List bk)(RH:List aw)(UH:Nat)(r:PV):Prop:=L bp fn a8 (inv1 p AH RH UH) r
theorem e0(p:Rs)(b:List aw){r:PV}(h1:Cp 68 [ae p] (.aF [dp aw.cells b,.ay]))(hL:ai p [] b 0 r):Cp 26 [ae p] r :=
 eG func26 [] [.q,.h 1 (.pv (.aF [dp aw.cells b,.ay])),.q,.a,.h 0 .nil,.lL 6 38 7,.h 1 (iL b),.aH [0,6,19,20,21]] (y2 h1 (ak aw.cells b)) hL
theorem l10(p:Rs)(b:List bk)(c:List aw)(d:Nat)(v:aw)(g:Rs){r:PV}(h1:d<c.length)(h2:c[d]? = some v)(h3:Cp 69 [ae p] (.aF [ae g,.ay]))(h4:((b++[(⟨g,v⟩:bk)]):List bk).length*136≤140737488355328)(h5:(d+1)<9223372036854775808)(hL:ai p (b++[(⟨g,v⟩:bk)]) c (d+1) r):ai p b c d r :=
 lG [1,3,1,6] [.a,.q,.t,.h 0 (.row d (aw.cells v)),.h 1 (.pv (.aF [ae g,.ay])),.q,.a,.h 5 (.app ((b++[(⟨g,v⟩:bk)]):List bk).length (((b++[(⟨g,v⟩:bk)]):List bk).map bk.cells).flatten),.h 0 (iI (((d+1):Nat):Int)),.aH [0,6,19,20,21],.drop [37,8]] (y5 (aj h1) (bm aw.cells (rN d) h2) h3 (iQ FG (b:List bk) ([(⟨g,v⟩:bk)]:List bk) 136 (Eq.refl (b:List bk).length) (Eq.refl ([(⟨g,v⟩:bk)]:List bk).length) h4 rfl) (aL h5)) hL
theorem kA(p:Rs)(b:List bk)(c:List aw)(d:Nat)(h1:c.length≤d):ai p b c d (.aF [dp bk.cells b,.ay]) :=
 lD [1,3] [.a,.q,.f,.q,.fF 2 ((b:List bk).map bk.cells)] (y2 (aq h1) (cJ FG (b:List bk) (Eq.refl (b:List bk).length)))
end dP
namespace gI
theorem e0(a:bk)(x:ag)(b c:Int)(h1:Cp 17 [a.rV.lo.pv,a.rV.hi.pv] (vI b))(h2:b=0)(h3:Cp 17 [a.rV.lo.pv,x.pv] (vI c)):Cp 72 [a.pv,x.pv] (.aF [vI c,.ay]) :=
 eD func72 [] [.q,.h 6 (.pv (vI b)),.t,.h 4 (.pv (vI c))] (y3 h1 (bQ h2) h3)
theorem e1(a:bk)(x:ag)(b c:Int)(h1:Cp 17 [a.rV.lo.pv,a.rV.hi.pv] (vI b))(h2:b≠0)(h3:Cp 17 [x.pv,a.rV.lo.pv] (vI c))(h4:c≤0):Cp 72 [a.pv,x.pv] (.aF [vI 1,.ay]) :=
 eD func72 [] [.q,.h 6 (.pv (vI b)),.f,.h 4 (.pv (vI c)),.t,.q] (y4 h1 (bA h2) h3 (bN h4))
theorem e2(a:bk)(x:ag)(b c d:Int)(h1:Cp 17 [a.rV.lo.pv,a.rV.hi.pv] (vI b))(h2:b≠0)(h3:Cp 17 [x.pv,a.rV.lo.pv] (vI c))(h4:0<c)(h5:Cp 17 [x.pv,a.rV.hi.pv] (vI d))(h6:0≤d):Cp 72 [a.pv,x.pv] (.aF [(vI (-1)),.ay]) :=
 eD func72 [] [.q,.h 6 (.pv (vI b)),.f,.h 4 (.pv (vI c)),.f,.h 4 (.pv (vI d)),.t,.q] (y6 h1 (bA h2) h3 (fY h4) h5 (bN h6))
theorem e3(a:bk)(x:ag)(b c d:Int)(g i:ag)(j k:Int)(h1:Cp 17 [a.rV.lo.pv,a.rV.hi.pv] (vI b))(h2:b≠0)(h3:Cp 17 [x.pv,a.rV.lo.pv] (vI c))(h4:0<c)(h5:Cp 17 [x.pv,a.rV.hi.pv] (vI d))(h6:d<0)(h7:Cp 139 [ae a.p,x.pv] (.aF [g.pv,.ay]))(h8:Cp 139 [ae a.p,a.rV.lo.pv] (.aF [i.pv,.ay]))(h9:Cp 119 [g.pv] (vI j))(cw:Cp 119 [i.pv] (vI k))(fg:az (j*k)):Cp 72 [a.pv,x.pv] (.aF [(vI (j*k)),.ay]) :=
 eD func72 [] [.q,.h 6 (.pv (vI b)),.f,.h 4 (.pv (vI c)),.f,.h 4 (.pv (vI d)),.f,.h 3 (.pv (.aF [g.pv,.ay])),.q,.a,.h 5 (.pv (.aF [i.pv,.ay])),.q,.a,dr 5 2 [.none,(.pv (vI j)),.none,(.pv (vI k)),(iI (j*k))]] (HY h1 (bA h2) h3 (fY h4) h5 (fY h6) h7 h8 h9 cw (o8 fg))
end gI
namespace gB
theorem e0(a:bk)(b:Int)(h1:Cp 17 [a.rV.lo.pv,a.rV.hi.pv] (vI b))(h2:b=0):Cp 178 [a.pv] (.aF [a.pv,.ay]) :=
 eD func178 [] [.q,.h 6 (.pv (vI b)),.t,.q] (y2 h1 (bQ h2))
theorem e1(a:bk)(b:Int)(c:ag)(d:Int)(g:aw)(h1:Cp 17 [a.rV.lo.pv,a.rV.hi.pv] (vI b))(h2:b≠0)(h3:Cp 127 [a.rV.pv] c.pv)(h4:Cp 72 [a.pv,c.pv] (.aF [vI d,.ay]))(h5:d=0)(h6:Cp 73 [c.pv] g.pv):Cp 178 [a.pv] (.aF [(⟨a.p,g⟩:bk).pv,.ay]) :=
 eD func178 [] [.q,.h 6 (.pv (vI b)),.f,.h 2 (.pv c.pv),.h 2 (.pv (.aF [vI d,.ay])),.q,.a,.q,.q,.t,dr 5 2 [.none,.none,.none,(.pv g.pv)]] (y6 h1 (bA h2) h3 h4 (bQ h5) h6)
theorem e2(a:bk)(b:Int)(c:ag)(d:Int)(h1:Cp 17 [a.rV.lo.pv,a.rV.hi.pv] (vI b))(h2:b≠0)(h3:Cp 127 [a.rV.pv] c.pv)(h4:Cp 72 [a.pv,c.pv] (.aF [vI d,.ay]))(h5:d≠0)(h6:d=1):Cp 178 [a.pv] (.aF [(⟨a.p,(⟨c,a.rV.hi⟩:aw)⟩:bk).pv,.ay]) :=
 eD func178 [] [.q,.h 6 (.pv (vI b)),.f,.h 2 (.pv c.pv),.h 2 (.pv (.aF [vI d,.ay])),.q,.a,.q,.q,.f,.q,.t,.q] (y6 h1 (bA h2) h3 h4 (bA h5) (bQ h6))
theorem e3(a:bk)(b:Int)(c:ag)(d:Int)(h1:Cp 17 [a.rV.lo.pv,a.rV.hi.pv] (vI b))(h2:b≠0)(h3:Cp 127 [a.rV.pv] c.pv)(h4:Cp 72 [a.pv,c.pv] (.aF [vI d,.ay]))(h5:d≠0)(h6:d≠1):Cp 178 [a.pv] (.aF [(⟨a.p,(⟨a.rV.lo,c⟩:aw)⟩:bk).pv,.ay]) :=
 eD func178 [] [.q,.h 6 (.pv (vI b)),.f,.h 2 (.pv c.pv),.h 2 (.pv (.aF [vI d,.ay])),.q,.a,.q,.q,.f,.q,.f,.q] (y6 h1 (bA h2) h3 h4 (bA h5) (bA h6))
end gB
namespace fj
theorem e0(p:Rs)(a:bk)(h1:p.length=0):Cp 177 [ae p,a.pv] (.aF [vB true,.ay]) :=
 eD func177 [] [.q,.h 1 (iL p),.t,.q] (y2 (ak ag.cells p) (aJ h1))
theorem e1(p:Rs)(a:bk)(b:Rs)(h1:p.length≠0)(h2:Cp 123 [ae p,ae a.p] (.aF [ae b,.ay]))(h3:b.length<2):Cp 177 [ae p,a.pv] (.aF [vB false,.ay]) :=
 eD func177 [] [.q,.h 1 (iL p),.f,.h 3 (.pv (.aF [ae b,.ay])),.q,.a,.h 1 (iL b),.t,.q] (y5 (ak ag.cells p) (ax h1) h2 (ak ag.cells b) (aj h3))
theorem e2(p:Rs)(a:bk)(b:Rs)(c:Int)(d:ag)(g:Option Int)(i:Int)(h1:p.length≠0)(h2:Cp 123 [ae p,ae a.p] (.aF [ae b,.ay]))(h3:2≤b.length)(h4:Cp 17 [a.rV.lo.pv,a.rV.hi.pv] (vI c))(h5:c=0)(h6:Cp 139 [ae b,a.rV.lo.pv] (.aF [d.pv,bJ g]))(h7:Cp 119 [d.pv] (vI i)):Cp 177 [ae p,a.pv] (.aF [(vB (i==0)),bJ g]) :=
 eD func177 [] [.q,.h 1 (iL p),.f,.h 3 (.pv (.aF [ae b,.ay])),.q,.a,.h 1 (iL b),.f,.h 6 (.pv (vI c)),.t,.h 4 (.pv (.aF [d.pv,bJ g])),.h 1 (.pv (vI i))] (y9 (ak ag.cells p) (ax h1) h2 (ak ag.cells b) (aq h3) h4 (bQ h5) h6 h7)
theorem e3(p:Rs)(a:bk)(b:Rs)(c d:Int)(g:Option Int)(h1:p.length≠0)(h2:Cp 123 [ae p,ae a.p] (.aF [ae b,.ay]))(h3:2≤b.length)(h4:Cp 17 [a.rV.lo.pv,a.rV.hi.pv] (vI c))(h5:c≠0)(h6:Cp 223 [ae b,a.rV.lo.pv,a.rV.hi.pv] (.aF [vI d,bJ g])):Cp 177 [ae p,a.pv] (.aF [(vB (decide (d>0))),bJ g]) :=
 eD func177 [] [.q,.h 1 (iL p),.f,.h 3 (.pv (.aF [ae b,.ay])),.q,.a,.h 1 (iL b),.f,.h 6 (.pv (vI c)),.f,.h 7 (.pv (.aF [vI d,bJ g])),.q] (y8 (ak ag.cells p) (ax h1) h2 (ak ag.cells b) (aq h3) h4 (bA h5) h6)
end fj
namespace jt
theorem e0(a b:bk)(c:Bool)(h1:Cp 177 [ae b.p,a.pv] (.aF [vB c,.ay]))(h2:c=false):Cp 125 [a.pv,b.pv] (.aF [vB false,.ay]) :=
 eD func125 [] [.q,.h 3 (.pv (.aF [vB c,.ay])),.q,.t,.q] (y4 h1 rF rF (cA h2))
theorem e1(a b:bk)(c:Bool)(d g:Int)(i:Option Int)(h1:Cp 177 [ae b.p,a.pv] (.aF [vB c,.ay]))(h2:c=true)(h3:Cp 72 [a.pv,b.rV.lo.pv] (.aF [vI d,.ay]))(h4:Cp 72 [a.pv,b.rV.hi.pv] (.aF [vI g,bJ i]))(h5:0≤d):Cp 125 [a.pv,b.pv] (.aF [(vB (decide (g≤0))),bJ i]) :=
 eD func125 [] [.q,.h 3 (.pv (.aF [vB c,.ay])),.q,.f,.h 4 (.pv (.aF [vI d,.ay])),.q,.a,.h 4 (.pv (.aF [vI g,bJ i])),.h 5 (.dec true)] (y9 h1 rF rF (aM h2) h3 h4 (bN h5) (bN h5) (bN h5))
theorem e2(a b:bk)(c:Bool)(d g:Int)(i:Option Int)(h1:Cp 177 [ae b.p,a.pv] (.aF [vB c,.ay]))(h2:c=true)(h3:Cp 72 [a.pv,b.rV.lo.pv] (.aF [vI d,.ay]))(h4:Cp 72 [a.pv,b.rV.hi.pv] (.aF [vI g,bJ i]))(h5:d<0):Cp 125 [a.pv,b.pv] (.aF [vB false,bJ i]) :=
 eD func125 [] [.q,.h 3 (.pv (.aF [vB c,.ay])),.q,.f,.h 4 (.pv (.aF [vI d,.ay])),.q,.a,.h 4 (.pv (.aF [vI g,bJ i])),.aR [.o,.o,.o,.skip,.skip,(.dec false)]] (y9 h1 rF rF (aM h2) h3 h4 (fY h5) (fY h5) (fY h5))
end jt
namespace cG
@[reducible] def fn:Func:=Tryz.f126
def a8:List eR:=focus [0,2,0,0,0] [.code (aP fn)]
def inv1(lF sx:bk):St:=⟨[(2,(.ptr 2 0)),(3,(.ptr 3 0)),(4,(.ptr 4 0)),(5,(.ptr 5 0))],[(2,(.lit [(.pv (ae lF.p)),(eB lF.rV.lo.neg),(.pv (af lF.rV.lo.num)),(.pv (af lF.rV.lo.den)),(eB lF.rV.hi.neg),(.pv (af lF.rV.hi.num)),(.pv (af lF.rV.hi.den))])),(3,(.lit [(.pv (ae sx.p)),(eB sx.rV.lo.neg),(.pv (af sx.rV.lo.num)),(.pv (af sx.rV.lo.den)),(eB sx.rV.hi.neg),(.pv (af sx.rV.hi.num)),(.pv (af sx.rV.hi.den))])),(4,(.lit [(.pv (.list [])),(eB false),(.pv (.list [])),(.pv (.list [])),(eB false),(.pv (.list [])),(.pv (.list []))])),(5,(.lit [(.pv (.list [])),(eB false),(.pv (.list [])),(.pv (.list [])),(eB false),(.pv (.list [])),(.pv (.list []))]))]⟩
@[reducible] def ai(lF sx:bk)(r:PV):Prop:=L bp fn a8 (inv1 lF sx) r
theorem e0 (a b : bk) {r : PV}  (hL : ai a b r) : Cp 126 [a.pv, b.pv] r :=
 eG func126 [] [.q,.aH [2,3,4,5],.ord [2,3,4,5]] True.intro hL
theorem l10(b c:bk)(d g:Int)(i j:bk){r:PV}(h1:Cp 17 [b.rV.hi.pv,c.rV.lo.pv] (vI d))(h2:0<d)(h3:Cp 17 [c.rV.hi.pv,b.rV.lo.pv] (vI g))(h4:0<g)(h5:Cp 178 [b.pv] (.aF [i.pv,.ay]))(h6:Cp 178 [c.pv] (.aF [j.pv,.ay]))(hL:ai i j r):ai b c r :=
 lG [] [.a,.aR [.o,.o,.o,.o,.o,.o,(.pv (vI d)),.o,.o,.o,.o,.o,.o,.o,.o,(.pv (vI g)),.o,(.dec true)],.t,.q,.h 1 (.pv (.aF [i.pv,.ay])),.q,.a,.h 1 (.pv (.aF [j.pv,.ay])),.q,.a,.aH [2,3,4,5]] (NI h1 (br h2) (br h2) (br h2) (br h2) (br h2) (br h2) (br h2) h3 (br h2) (br h2) (br h4) h5 h6) hL
theorem uA(b c:bk)(d g:Int)(h1:Cp 17 [b.rV.hi.pv,c.rV.lo.pv] (vI d))(h2:0<d)(h3:Cp 17 [c.rV.hi.pv,b.rV.lo.pv] (vI g))(h4:g≤0):ai b c (.aF [b.pv,c.pv,.ay]) :=
 lD [] [.a,.aR [.o,.o,.o,.o,.o,.o,(.pv (vI d)),.o,.o,.o,.o,.o,.o,.o,.o,(.pv (vI g)),.o,(.dec true)],.f,dr 3 2 []] (Jd h1 (br h2) (br h2) (br h2) (br h2) (br h2) (br h2) (br h2) h3 (br h2) (br h2) (bu h4))
theorem Dp(b c:bk)(d:Int)(h1:Cp 17 [b.rV.hi.pv,c.rV.lo.pv] (vI d))(h2:d≤0):ai b c (.aF [b.pv,c.pv,.ay]) :=
 lD [] [.a,.aR [.o,.o,.o,.o,.o,.o,(.pv (vI d)),.o,.o,.skip,.skip,.skip,.skip,.skip,.skip,.skip,.skip,(.dec false)],.a,dr 3 2 []] (JU h1 (bu h2) (bu h2) (bu h2) (bu h2) (bu h2) (bu h2) (bu h2) (bu h2) (bu h2))
end cG
namespace kR
theorem e0(a b:bk)(c:Bool)(h1:Cp 125 [a.pv,b.pv] (.aF [vB c,.ay]))(h2:c=true):Cp 65 [a.pv,b.pv] (.aF [vI 0,.ay]) :=
 eD func65 [] [.q,.h 2 (.pv (.aF [vB c,.ay])),.q,.t,.q] (y3 h1 rF h2)
theorem e1(a b:bk)(c:Bool)(d g:bk)(i j:ag)(k:Int)(h1:Cp 125 [a.pv,b.pv] (.aF [vB c,.ay]))(h2:c=false)(h3:Cp 126 [a.pv,b.pv] (.aF [d.pv,g.pv,.ay]))(h4:Cp 127 [d.rV.pv] i.pv)(h5:Cp 127 [g.rV.pv] j.pv)(h6:Cp 17 [i.pv,j.pv] (vI k))(h7:k<0):Cp 65 [a.pv,b.pv] (.aF [(vI (-1)),.ay]) :=
 eD func65 [] [.q,.h 2 (.pv (.aF [vB c,.ay])),.q,.f,.h 2 (.pv (.aF [d.pv,g.pv,.ay])),.q,.a,dr 8 0 [.none,.none,(.pv i.pv),.none,.none,(.pv j.pv),(.pv (vI k))],.t,.q] (y8 h1 rF h2 h3 h4 h5 h6 (br h7))
theorem e2(a b:bk)(c:Bool)(d g:bk)(i j:ag)(k:Int)(h1:Cp 125 [a.pv,b.pv] (.aF [vB c,.ay]))(h2:c=false)(h3:Cp 126 [a.pv,b.pv] (.aF [d.pv,g.pv,.ay]))(h4:Cp 127 [d.rV.pv] i.pv)(h5:Cp 127 [g.rV.pv] j.pv)(h6:Cp 17 [i.pv,j.pv] (vI k))(h7:0≤k):Cp 65 [a.pv,b.pv] (.aF [vI 1,.ay]) :=
 eD func65 [] [.q,.h 2 (.pv (.aF [vB c,.ay])),.q,.f,.h 2 (.pv (.aF [d.pv,g.pv,.ay])),.q,.a,dr 8 0 [.none,.none,(.pv i.pv),.none,.none,(.pv j.pv),(.pv (vI k))],.f,.q] (y8 h1 rF h2 h3 h4 h5 h6 (bu h7))
end kR
namespace fC
@[reducible] def fn:Func:=Tryz.f23
def a8:List eR:=focus [0,2,0,0,2,0,0] [.code (aP fn)]
def inv1(B8:Nat)(a b:bk):St:=⟨[(2,(.ptr 2 0)),(3,(.ptr 3 0)),(11,(.row 11 0 2 7)),(12,(eI 2)),(13,(eI (B8:Int)))],[(2,(.lit [(.pv (ae a.p)),(eB a.rV.lo.neg),(.pv (af a.rV.lo.num)),(.pv (af a.rV.lo.den)),(eB a.rV.hi.neg),(.pv (af a.rV.hi.num)),(.pv (af a.rV.hi.den))])),(3,(.lit [(.pv (ae b.p)),(eB b.rV.lo.neg),(.pv (af b.rV.lo.num)),(.pv (af b.rV.lo.den)),(eB b.rV.hi.neg),(.pv (af b.rV.hi.num)),(.pv (af b.rV.hi.den))])),(11,(.pure (([a,b]:List bk).map bk.cells).flatten))]⟩
@[reducible] def ai(B8:Nat)(a b:bk)(r:PV):Prop:=L bp fn a8 (inv1 B8 a b) r
theorem e0 (a b : bk) {r : PV}  (hL : ai 0 a b r) : Cp 23 [a.pv, b.pv] r :=
 eG func23 [] [.q,.q,.aH [2,3,11,12,13],.ord [2,3,11]] True.intro hL
theorem l10(c:Nat)(a b v:bk){r:PV}(h1:c<2)(h2:[a,b][c]? = some v)(h3:Cp 64 [v.pv] .ay)(h4:(c+1)<9223372036854775808)(hL:ai (c+1) a b r):ai c a b r :=
 lG [1,2,2] [.a,.q,.t,.aR [(.nat c),(.Ns [ae v.p,vB v.rV.lo.neg,af v.rV.lo.num,af v.rV.lo.den,vB v.rV.hi.neg,af v.rV.hi.num,af v.rV.hi.den])],.h 1 (.pv .ay),.q,.a,.h 0 (iI (((c+1):Nat):Int)),.aH [2,3,11,12,13],.drop [7]] (y5 (aj h1) (cj (rN c) h1) (xl FG h2) h3 (aL h4)) hL
theorem kA(c:Nat)(a b:bk)(d:Int)(g:Option Int)(h1:2≤c)(h2:Cp 65 [a.pv,b.pv] (.aF [vI d,bJ g])):ai c a b (.aF [vI d,bJ g]) :=
 lD [] [.a,.q,.f,.h 2 (.pv (.aF [vI d,bJ g]))] (y2 (aq h1) h2)
end fC
namespace ir
@[reducible] def fn:Func:=Tryz.f71
def a8:List eR:=focus [0,2,0,2,0,0,2,0,0] [.code (aP fn)]
def inv1(bits:Int)(OY:Nat)(n iZ:av):St:=⟨[(2,(.ptr 2 0)),(4,(.ptr 4 0)),(6,(.ptr 6 0)),(8,(eI bits)),(9,(eI (OY:Int)))],[(2,(.lit [(eB n.neg),(.pv (af n.cD))])),(4,(.lit [(eB false),(.pv (.list [])),(.pv (.list []))])),(6,(.lit [(eB iZ.neg),(.pv (af iZ.cD))]))]⟩
@[reducible] def ai(bits:Int)(OY:Nat)(n iZ:av)(r:PV):Prop:=L bp fn a8 (inv1 bits OY n iZ) r
theorem e0(n:av)(a:Int)(of:av){r:PV}(h1:Cp 56 [vI 1] of.pv)(hL:ai a 0 n of r):Cp 71 [n.pv,vI a] r :=
 eG func71 [] [.q,.h 0 (.pv of.pv),.q,.aH [2,4,6,8,9],.ord [2,4,6]] (y1 h1) hL
theorem l10(b:Int)(c:Nat)(n d g:av){r:PV}(h1:(c:Int)<b)(h2:Cp 74 [d.pv,d.pv] g.pv)(h3:(c+1)<9223372036854775808)(hL:ai b (c+1) n g r):ai b c n d r :=
 lG [] [.a,.q,.t,.h 2 (.pv g.pv),.h 0 (iI (((c+1):Nat):Int)),.aH [2,4,6,8,9]] (y3 (br h1) h2 (aL h3)) hL
theorem c9(b:Int)(c:Nat)(n d:av)(g:ag)(i:Option Int)(h1:b≤(c:Int))(h2:Cp 138 [n.pv,d.pv] (.aF [g.pv,bJ i])):ai b c n d (.aF [g.pv,bJ i]) :=
 lD [] [.a,.q,.f,.h 2 (.pv (.aF [g.pv,bJ i]))] (y2 (bu h1) h2)
end ir
namespace jW
@[reducible] def fn:Func:=Tryz.f136
def a8:List eR:=focus [0,2,0,0,2,0,0] [.code (aP fn)]
def inv1(bits:Int)(UE:Nat)(lF:ag):St:=⟨[(2,(.ptr 2 0)),(4,(.ptr 4 0)),(5,(eI bits)),(6,(eI (UE:Int)))],[(2,(.lit [(eB lF.neg),(.pv (af lF.num)),(.pv (af lF.den))])),(4,(.lit [(eB false),(.pv (.list []))]))]⟩
@[reducible] def ai(bits:Int)(UE:Nat)(lF:ag)(r:PV):Prop:=L bp fn a8 (inv1 bits UE lF) r
theorem e0 (x : ag) (a : Int) {r : PV}  (hL : ai a 0 x r) : Cp 136 [x.pv, vI a] r :=
 eG func136 [] [.q,.q,.aH [2,4,5,6],.ord [2,4]] True.intro hL
theorem l10(b:Int)(c:Nat)(d g:ag){r:PV}(h1:(c:Int)<b)(h2:Cp 62 [d.pv,d.pv] g.pv)(h3:(c+1)<9223372036854775808)(hL:ai b (c+1) g r):ai b c d r :=
 lG [] [.a,.q,.t,.h 2 (.pv g.pv),.h 0 (iI (((c+1):Nat):Int)),.aH [2,4,5,6]] (y3 (br h1) h2 (aL h3)) hL
theorem c9(b:Int)(c:Nat)(d:ag)(g:av)(h1:b≤(c:Int))(h2:Cp 188 [d.pv] g.pv):ai b c d g.pv :=
 lD [] [.a,.q,.f,.h 1 (.pv g.pv)] (y2 (bu h1) h2)
end jW
namespace cT
@[reducible] def fn:Func:=Tryz.f70
def a8:List eR:=focus [0,2,0,2,0,0,0] [.code (aP fn)]
def inv1(bits:Int)(a:bk)(iZ ek:av):St:=⟨[(1,(eI bits)),(2,(.ptr 2 0)),(4,(.ptr 4 0)),(6,(.ptr 6 0)),(7,(.ptr 7 0))],[(2,(.lit [(.pv (ae a.p)),(eB a.rV.lo.neg),(.pv (af a.rV.lo.num)),(.pv (af a.rV.lo.den)),(eB a.rV.hi.neg),(.pv (af a.rV.hi.num)),(.pv (af a.rV.hi.den))])),(4,(.lit [(eB false),(.pv (.list []))])),(6,(.lit [(eB iZ.neg),(.pv (af iZ.cD))])),(7,(.lit [(eB ek.neg),(.pv (af ek.cD))]))]⟩
@[reducible] def ai(bits:Int)(a:bk)(iZ ek:av)(r:PV):Prop:=L bp fn a8 (inv1 bits a iZ ek) r
theorem e0(a:bk)(b:Int)(c d of g:av){r:PV}(h1:Cp 136 [a.rV.lo.pv,vI b] c.pv)(h2:Cp 136 [a.rV.hi.pv,vI b] d.pv)(h3:Cp 56 [vI 1] of.pv)(h4:Cp 74 [d.pv,of.pv] g.pv)(hL:ai b a c g r):Cp 70 [a.pv,vI b] r :=
 eG func70 [] [.q,dr 14 2 [.none,.none,.none,.none,(.pv c.pv),.none,.none,.none,.none,(.pv d.pv),(.pv of.pv),(.pv g.pv)],.aH [1,2,4,6,7],.ord [2,4,6,7]] (y4 h1 h2 h3 h4) hL
theorem l10(b:Int)(a:bk)(c d g of:av)(i:Int)(j k l m:av)(n:Option Int)(p:ag)(s:Int){r:PV}(h1:Cp 137 [d.pv,c.pv] g.pv)(h2:Cp 56 [vI 1] of.pv)(h3:Cp 53 [g.pv,of.pv] (vI i))(h4:0<i)(h5:Cp 74 [c.pv,d.pv] j.pv)(h6:Cp 56 [vI 2] k.pv)(h7:Cp 111 [j.pv,k.pv] (.aF [l.pv,m.pv,bJ n]))(h8:Cp 71 [l.pv,vI b] (.aF [p.pv,.ay]))(h9:Cp 72 [a.pv,p.pv] (.aF [vI s,.ay]))(cw:0≤s)(hL:ai b a l d r):ai b a c d r :=
 lG [] [.a,.aR [.o,.o,(.pv g.pv),(.pv of.pv),(.pv (vI i))],.t,.aR [.o,.o,(.pv j.pv),(.pv k.pv),(.pv (.aF [l.pv,m.pv,bJ n]))],.h 2 (.pv (.aF [p.pv,.ay])),.q,.a,.h 2 (.pv (.aF [vI s,.ay])),.q,.a,.q,.t,.q,.aH [1,2,4,6,7],.drop [11,9,8]] (JU h1 h2 h3 (br h4) h5 h6 h7 h8 h9 (bN cw)) hL
theorem c9(b:Int)(a:bk)(c d g of:av)(i:Int)(j k l m:av)(n:Option Int)(p:ag)(s:Int){r:PV}(h1:Cp 137 [d.pv,c.pv] g.pv)(h2:Cp 56 [vI 1] of.pv)(h3:Cp 53 [g.pv,of.pv] (vI i))(h4:0<i)(h5:Cp 74 [c.pv,d.pv] j.pv)(h6:Cp 56 [vI 2] k.pv)(h7:Cp 111 [j.pv,k.pv] (.aF [l.pv,m.pv,bJ n]))(h8:Cp 71 [l.pv,vI b] (.aF [p.pv,.ay]))(h9:Cp 72 [a.pv,p.pv] (.aF [vI s,.ay]))(cw:s<0)(hL:ai b a c l r):ai b a c d r :=
 lG [] [.a,.aR [.o,.o,(.pv g.pv),(.pv of.pv),(.pv (vI i))],.t,.aR [.o,.o,(.pv j.pv),(.pv k.pv),(.pv (.aF [l.pv,m.pv,bJ n]))],.h 2 (.pv (.aF [p.pv,.ay])),.q,.a,.h 2 (.pv (.aF [vI s,.ay])),.q,.a,.q,.f,.q,.aH [1,2,4,6,7],.drop [11,9,8]] (JU h1 h2 h3 (br h4) h5 h6 h7 h8 h9 (fY cw)) hL
theorem Dp(b:Int)(a:bk)(c d g of:av)(i:Int)(h1:Cp 137 [d.pv,c.pv] g.pv)(h2:Cp 56 [vI 1] of.pv)(h3:Cp 53 [g.pv,of.pv] (vI i))(h4:i≤0):ai b a c d (.aF [c.pv,.ay]) :=
 lD [] [.a,.aR [.o,.o,(.pv g.pv),(.pv of.pv),(.pv (vI i))],.f,.q] (y4 h1 h2 h3 (bu h4))
end cT
namespace tP
theorem e3(a:bk)(b:Int)(c:av)(d:ag)(g:Int)(of i:av)(j:ag)(k:Option Int)(h1:Cp 64 [a.pv] .ay)(h2:0≤b)(h3:b≤64)(h4:Cp 70 [a.pv,vI b] (.aF [c.pv,.ay]))(h5:Cp 71 [c.pv,vI b] (.aF [d.pv,.ay]))(h6:Cp 72 [a.pv,d.pv] (.aF [vI g,.ay]))(h7:g≠0)(h8:Cp 56 [vI 1] of.pv)(h9:Cp 74 [c.pv,of.pv] i.pv)(cw:Cp 71 [i.pv,vI b] (.aF [j.pv,bJ k])):Cp 28 [a.pv,vI b] (.aF [(⟨d,j⟩:aw).pv,bJ k]) :=
 eD func28 [] [.q,.h 1 (.pv .ay),.q,.a,.h 5 (.dec false),.f,.h 2 (.pv (.aF [c.pv,.ay])),.q,.a,.h 2 (.pv (.aF [d.pv,.ay])),.q,.a,.h 2 (.pv (.aF [vI g,.ay])),.q,.a,.q,.f,dr 10 1 [.none,(.pv of.pv),(.pv i.pv),.none,(.pv (.aF [j.pv,bJ k]))],.q] (Jd h1 (bu h2) (bu h2) (bu h2) (bu h3) h4 h5 h6 (bA h7) h8 h9 cw)
end tP
namespace jJ
@[reducible] def fn:Func:=Tryz.f29
def a8:List eR:=focus [0,2,0,2,0,0,2,1,2,0,0,2,1,2,0,0,2,0,0] [.code (aP fn)]
def inv1(UI:Nat)(a b:bk):St:=⟨[(2,(.ptr 2 0)),(3,(.ptr 3 0)),(4,(.ptr 4 0)),(27,(eI (UI:Int)))],[(2,(.lit [(.pv (ae a.p)),(eB a.rV.lo.neg),(.pv (af a.rV.lo.num)),(.pv (af a.rV.lo.den)),(eB a.rV.hi.neg),(.pv (af a.rV.hi.num)),(.pv (af a.rV.hi.den))])),(3,(.lit [(.pv (ae b.p)),(eB b.rV.lo.neg),(.pv (af b.rV.lo.num)),(.pv (af b.rV.lo.den)),(eB b.rV.hi.neg),(.pv (af b.rV.hi.num)),(.pv (af b.rV.hi.den))])),(4,(.lit [(eB false),(.pv (.list [])),(.pv (.list []))]))]⟩
@[reducible] def ai(UI:Nat)(a b:bk)(r:PV):Prop:=L bp fn a8 (inv1 UI a b) r
theorem e1(a b:bk)(c:Int){r:PV}(h1:Cp 23 [a.pv,b.pv] (.aF [vI c,.ay]))(h2:c<0)(hL:ai 0 a b r):Cp 29 [a.pv,b.pv] r :=
 eG func29 [] [.q,.h 2 (.pv (.aF [vI c,.ay])),.q,.a,.q,.f,.q,.aH [2,3,4,27],.ord [2,3,4]] (y2 h1 (fY h2)) hL
theorem l10(c:Nat)(a b:bk)(d of g:av)(i:ag)(j:Int)(h1:c<65)(h2:Cp 70 [a.pv,(vI (c:Int))] (.aF [d.pv,.ay]))(h3:Cp 56 [vI 1] of.pv)(h4:Cp 74 [d.pv,of.pv] g.pv)(h5:Cp 71 [g.pv,(vI (c:Int))] (.aF [i.pv,.ay]))(h6:Cp 72 [b.pv,i.pv] (.aF [vI j,.ay]))(h7:0<j):ai c a b (.aF [i.pv,.ay]) :=
 lD [] [.a,.q,.t,.q,.h 2 (.pv (.aF [d.pv,.ay])),.q,.a,dr 10 1 [.none,(.pv of.pv),(.pv g.pv),.none,(.pv (.aF [i.pv,.ay]))],.q,.a,.h 2 (.pv (.aF [vI j,.ay])),.q,.a,.q,.t,.q] (y7 (aj h1) h2 h3 h4 h5 h6 (br h7))
theorem c9(c:Nat)(a b:bk)(d of g:av)(i:ag)(j:Int){r:PV}(h1:c<65)(h2:Cp 70 [a.pv,(vI (c:Int))] (.aF [d.pv,.ay]))(h3:Cp 56 [vI 1] of.pv)(h4:Cp 74 [d.pv,of.pv] g.pv)(h5:Cp 71 [g.pv,(vI (c:Int))] (.aF [i.pv,.ay]))(h6:Cp 72 [b.pv,i.pv] (.aF [vI j,.ay]))(h7:j≤0)(h8:(c+1)<9223372036854775808)(hL:ai (c+1) a b r):ai c a b r :=
 lG [] [.a,.q,.t,.q,.h 2 (.pv (.aF [d.pv,.ay])),.q,.a,dr 10 1 [.none,(.pv of.pv),(.pv g.pv),.none,(.pv (.aF [i.pv,.ay]))],.q,.a,.h 2 (.pv (.aF [vI j,.ay])),.q,.a,.q,.f,.h 0 (iI (((c+1):Nat):Int)),.aH [2,3,4,27],.drop [11,9]] (y8 (aj h1) h2 h3 h4 h5 h6 (bu h7) (aL h8)) hL
end jJ
end Go.Proofs.YtcpnocgollpbhaaGreatDoor.Sym.Path
end
