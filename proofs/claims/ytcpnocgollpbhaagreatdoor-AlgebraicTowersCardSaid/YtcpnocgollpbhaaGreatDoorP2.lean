/- Lemmas for the statements of this seat. -/
import Derived.Test.YtcpnocgollpbhaaGreatDoorT0
noncomputable section
namespace Go.Proofs.YtcpnocgollpbhaaGreatDoor.Sym.Path
open Go Tryz
set_option maxRecDepth 20000
set_option linter.unusedVariables false
namespace Fm
theorem e1(p b c d g i:Rs)(h1:Cp 121 [ae p] .aC)(h2:p.length≠0)(h3:Cp 134 [ae p] (ae b))(h4:Cp 133 [ae p,ae b] (ae c))(h5:Cp 132 [ae p,ae c] (.aF [ae d,ae g]))(h6:Cp 135 [ae d] (ae i)):Cp 69 [ae p] (.aF [ae i,.aC]) :=
 eD func69 [] [.q,.h 1 (.pv .aC),.q,.a,.h 1 (iL p),.f,.aR [.o,.o,.o,(.pv (ae b)),(.pv (ae c)),(.pv (.aF [ae d,ae g]))],.h 1 (.pv (ae i))] (y7 h1 (an ag.cells p) (aB h2) h3 h4 h5 h6)
end Fm
namespace kH
@[reducible] def fn:Func:=Tryz.f82
def aY:List dJ:=focus [0,2,0,2,0,0,2,0,0] [.code (aL fn)]
def inv1(cA l:List ag)(tW:Nat):St:=⟨[(3,(.row 17 0 cA.length 3)),(6,(.pv (ae l))),(7,(eI (l.length:Int))),(8,(eI (tW:Int)))],[(17,(.pure ((cA:List ag).map ag.cells).flatten))]⟩
@[reducible] def ah(cA l:List ag)(tW:Nat)(r:PV):Prop:=L bu fn aY (inv1 cA l tW) r
def kZ:List dJ:=focus [0,2,0,2,0,0,2,0,0,0,0,2,0,1,2,2,2,2,0,0,0] [.code (aL fn)]
def inv2(cA:List ag):St:=⟨[(3,(.row 17 0 cA.length 3))],[(17,(.pure ((cA:List ag).map ag.cells).flatten))]⟩
@[reducible] def a8(cA:List ag)(r:PV):Prop:=L bu fn kZ (inv2 cA) r
theorem e0 (l : Rs) {r : PV}  (hL : ah [] l 0 r) : Cp 82 [ae l] r :=
 eG func82 [] [.q,.h 0 .nil,.iK 3 17 3,.h 1 (iL l),.aG [3,6,7,8]] (y1 (an ag.cells l)) hL
theorem l10(b l:Rs)(c:Nat)(v d:ag){r:PV}(h1:c<l.length)(h2:l[c]? = some v)(h3:Cp 62 [v.pv,(⟨false,[],[]⟩:ag).pv] d.pv)(h4:((b++[d]):Rs).length*56≤140737488355328)(h5:(c+1)<9223372036854775808)(hL:ah (b++[d]) l (c+1) r):ah b l c r :=
 lG [1,3,1,6] [.a,.q,.t,.h 0 (.row c (ag.cells v)),.aR [.o,.o,.o,(.pv d.pv),.o,(.app ((b++[d]):Rs).length (((b++[d]):Rs).map ag.cells).flatten)],.h 0 (iI (((c+1):Nat):Int)),.aG [3,6,7,8],.drop [16,5]] (y5 (ai h1) (ba ag.cells (rN c) h2) h3 (fv aD (b:Rs) ([d]:Rs) 56 (Eq.refl (b:Rs).length) (Eq.refl ([d]:Rs).length) h4 rfl) (aJ h5)) hL
theorem cB(b l:Rs)(c:Nat){r:PV}(h1:l.length≤c)(hL:a8 b r):ah b l c r :=
 lG [] [.a,.q,.f,.aG [3]] (y1 (ar h1)) hL
theorem uF(b:Rs)(k:Nat)(v:ag)(c:Int)(u:Nat){r:PV}(h1:0<b.length)(h2:ay ((b.length:Int)-1))(h3:((b.length:Int)-1)=(k:Int))(h4:k<b.length)(h5:b[k]? = some v)(h6:Cp 119 [v.pv] (vI c))(h7:c=0)(h8:((b.length:Int)-1)=(u:Int))(h9:u≤(b:Rs).length)(hL:a8 (b.take u) r):a8 b r :=
 lG [1,1,1,1,1,1,2,1,2,1,1,1,1,1,1,5] [.a,.aR [.o,.o,.o,.o,.o,.o,.o,(iI ((b.length:Int)-1)),(.nat k),(.JZ [vB v.neg,af v.num,af v.den]),(.pv (vI c)),.o,(.dec true)],.t,.aR [.o,.o,.o,(iI ((b.length:Int)-1)),(.fj 0 ((b.take u).length) [])],.cut 17 (u*3) (((b.take u):Rs).map ag.cells).flatten,.aG [3]] (Ny (ai h1) (ai h1) (ai h1) (ai h1) (aQ h2) (ai h1) (cj h3 h4) (ai h1) (tL aD h5) (ai h1) h6 (ai h1) (ai h1) (aU h7) (aQ h2) (ID (b:Rs) h8 h9) (uz aD (b:Rs) u)) hL
theorem xe(b:Rs)(k:Nat)(v:ag)(c:Int)(h1:0<b.length)(h2:ay ((b.length:Int)-1))(h3:((b.length:Int)-1)=(k:Int))(h4:k<b.length)(h5:b[k]? = some v)(h6:Cp 119 [v.pv] (vI c))(h7:c≠0):a8 b (ae b) :=
 lD [1,1,1,1,1,1,2,1,2,1,1,1,1,1,3] [.a,.aR [.o,.o,.o,.o,.o,.o,.o,(iI ((b.length:Int)-1)),(.nat k),(.JZ [vB v.neg,af v.num,af v.den]),(.pv (vI c)),.o,(.dec true)],.f,.q,.dH 2 ((b:Rs).map ag.cells)] (Nx (ai h1) (ai h1) (ai h1) (ai h1) (aQ h2) (ai h1) (cj h3 h4) (ai h1) (tL aD h5) (ai h1) h6 (ai h1) (ai h1) (bf h7) (bU aD (b:Rs) (Eq.refl (b:Rs).length)))
theorem Py(b:Rs)(h1:b.length≤0):a8 b (ae b) :=
 lD [1,1,1,1,1,1,1,1,1,3] [.a,.aR [.o,.o,.o,.o,.skip,.skip,.skip,.skip,.skip,.skip,.skip,.skip,(.dec false)],.a,.q,.dH 2 ((b:Rs).map ag.cells)] (JT (ar h1) (ar h1) (ar h1) (ar h1) (ar h1) (ar h1) (ar h1) (ar h1) (ar h1) (bU aD (b:Rs) (Eq.refl (b:Rs).length)))
end kH
namespace jw
@[reducible] def fn:Func:=Tryz.f82
def aY:List dJ:=focus [0,2,0,2,0,0,2,0,0] [.code (aL fn)]
def inv1(cA l:List ag)(tW:Nat):St:=⟨[(3,(.row 17 0 cA.length 3)),(6,(.pv (ae l))),(7,(eI (l.length:Int))),(8,(eI (tW:Int)))],[(17,(.pure ((cA:List ag).map ag.cells).flatten))]⟩
@[reducible] def ah(cA l:List ag)(tW:Nat)(sin:aT)(r:EV)(sout:aT):Prop:=LX bu fn aY (inv1 cA l tW) sin r sout
def kZ:List dJ:=focus [0,2,0,2,0,0,2,0,0,0,0,2,0,1,2,2,2,2,0,0,0] [.code (aL fn)]
def inv2(cA:List ag):St:=⟨[(3,(.row 17 0 cA.length 3))],[(17,(.pure ((cA:List ag).map ag.cells).flatten))]⟩
@[reducible] def a8(cA:List ag)(sin:aT)(r:EV)(sout:aT):Prop:=LX bu fn kZ (inv2 cA) sin r sout
theorem e0 (l : Rs) {r : EV} {sout : aT}  (hL : ah [] l 0 [] r sout) : au bu 82 [(.pv (ae l))] [] r sout :=
 Nu func82 [] [.q,.h 0 .nil,.iK 3 17 3,.h 1 (iL l),.aG [3,6,7,8]] (y1 (an ag.cells l)) hL
theorem l10(b l:Rs)(c:Nat)(v d:ag){r:EV}{sout:aT}{sin:aT}(hs:jR fn sin)(h1:c<l.length)(h2:l[c]? = some v)(h3:Cp 62 [v.pv,(⟨false,[],[]⟩:ag).pv] d.pv)(h4:((b++[d]):Rs).length*56≤140737488355328)(h5:(c+1)<9223372036854775808)(hL:ah (b++[d]) l (c+1) sin r sout):ah b l c sin r sout :=
 IE [1,3,1,6] [.a,.q,.t,.h 0 (.row c (ag.cells v)),.aR [.o,.o,.o,(.pv d.pv),.o,(.app ((b++[d]):Rs).length (((b++[d]):Rs).map ag.cells).flatten)],.h 0 (iI (((c+1):Nat):Int)),.aG [3,6,7,8],.drop [16,5]] hs (y5 (ai h1) (ba ag.cells (rN c) h2) h3 (fv aD (b:Rs) ([d]:Rs) 56 (Eq.refl (b:Rs).length) (Eq.refl ([d]:Rs).length) h4 rfl) (aJ h5)) hL
theorem cB(b l:Rs)(c:Nat){r:EV}{sout:aT}{sin:aT}(hs:jR fn sin)(h1:l.length≤c)(hL:a8 b sin r sout):ah b l c sin r sout :=
 IE [] [.a,.q,.f,.aG [3]] hs (y1 (ar h1)) hL
theorem uF(b:Rs)(k:Nat)(v:ag)(c:Int)(u:Nat){r:EV}{sout:aT}{sin:aT}(hs:jR fn sin)(h1:0<b.length)(h2:ay ((b.length:Int)-1))(h3:((b.length:Int)-1)=(k:Int))(h4:k<b.length)(h5:b[k]? = some v)(h6:Cp 119 [v.pv] (vI c))(h7:c=0)(h8:((b.length:Int)-1)=(u:Int))(h9:u≤(b:Rs).length)(hL:a8 (b.take u) sin r sout):a8 b sin r sout :=
 IE [1,1,1,1,1,1,2,1,2,1,1,1,1,1,1,5] [.a,.aR [.o,.o,.o,.o,.o,.o,.o,(iI ((b.length:Int)-1)),(.nat k),(.JZ [vB v.neg,af v.num,af v.den]),(.pv (vI c)),.o,(.dec true)],.t,.aR [.o,.o,.o,(iI ((b.length:Int)-1)),(.fj 0 ((b.take u).length) [])],.cut 17 (u*3) (((b.take u):Rs).map ag.cells).flatten,.aG [3]] hs (Ny (ai h1) (ai h1) (ai h1) (ai h1) (aQ h2) (ai h1) (cj h3 h4) (ai h1) (tL aD h5) (ai h1) h6 (ai h1) (ai h1) (aU h7) (aQ h2) (ID (b:Rs) h8 h9) (uz aD (b:Rs) u)) hL
theorem xe(b:Rs)(k:Nat)(v:ag)(c:Int){sin:aT}(hs:jR fn sin)(hi:sin.all (fun p=>wo p.1||(aT.get [(0,(pC ag.cells b))] p.1).isSome)=true)(h1:0<b.length)(h2:ay ((b.length:Int)-1))(h3:((b.length:Int)-1)=(k:Int))(h4:k<b.length)(h5:b[k]? = some v)(h6:Cp 119 [v.pv] (vI c))(h7:c≠0):a8 b sin (.row 0 0 b.length 3) [(0,(pC ag.cells b))] :=
 Fj [1,1,1,1,1,1,2,1,2] [.a,.aR [.o,.o,.o,.o,.o,.o,.o,(iI ((b.length:Int)-1)),(.nat k),(.JZ [vB v.neg,af v.num,af v.den]),(.pv (vI c)),.o,(.dec true)],.f,.q,.pn 17 0,.ord [0]] hs hi (Nv (ai h1) (ai h1) (ai h1) (ai h1) (aQ h2) (ai h1) (cj h3 h4) (ai h1) (tL aD h5) (ai h1) h6 (ai h1) (ai h1) (bf h7))
theorem Py(b:Rs){sin:aT}(hs:jR fn sin)(hi:sin.all (fun p=>wo p.1||(aT.get [(0,(pC ag.cells b))] p.1).isSome)=true)(h1:b.length≤0):a8 b sin (.row 0 0 b.length 3) [(0,(pC ag.cells b))] :=
 Fj [] [.a,.aR [.o,.o,.o,.o,.skip,.skip,.skip,.skip,.skip,.skip,.skip,.skip,(.dec false)],.a,.q,.pn 17 0,.ord [0]] hs hi (y9 (ar h1) (ar h1) (ar h1) (ar h1) (ar h1) (ar h1) (ar h1) (ar h1) (ar h1))
end jw
namespace eh
@[reducible] def fn:Func:=Tryz.f121
def aY:List dJ:=focus [0,2,0,0,2,1,2,0,0,2,0,0] [.code (aL fn)]
def inv1(p:List ag)(KJ:Nat):St:=⟨[(0,(.pv (ae p))),(9,(.pv (ae p))),(10,(eI (p.length:Int))),(11,(eI (KJ:Int)))],[]⟩
@[reducible] def ah(p:List ag)(KJ:Nat)(r:PV):Prop:=L bu fn aY (inv1 p KJ) r
theorem e0(p:Rs)(h1:65<p.length):Cp 121 [ae p] (.iface 75 (vI 4)) :=
 eD func121 [] [.q,.h 1 (iL p),.t,.q] (y2 (an ag.cells p) (ai h1))
theorem e1(p:Rs){r:PV}(h1:p.length≤65)(hL:ah p 0 r):Cp 121 [ae p] r :=
 eG func121 [] [.q,.h 1 (iL p),.f,.h 1 (iL p),.aG [0,9,10,11]] (y3 (an ag.cells p) (ar h1) (an ag.cells p)) hL
theorem l10(p:Rs)(b:Nat)(v:ag)(c:Bool)(h1:b<p.length)(h2:p[b]? = some v)(h3:Cp 102 [v.pv] (vB c))(h4:c=false):ah p b (.iface 75 (vI 2)) :=
 lD [1,3] [.a,.q,.t,.h 0 (.row b (ag.cells v)),.h 1 (.pv (vB c)),.t,.q] (y4 (ai h1) (ba ag.cells (rN b) h2) h3 (dm h4))
theorem cB(p:Rs)(b:Nat)(v:ag)(c:Bool){r:PV}(h1:b<p.length)(h2:p[b]? = some v)(h3:Cp 102 [v.pv] (vB c))(h4:c=true)(h5:(b+1)<9223372036854775808)(hL:ah p (b+1) r):ah p b r :=
 lG [1,3] [.a,.q,.t,.h 0 (.row b (ag.cells v)),.h 1 (.pv (vB c)),.f,.h 0 (iI (((b+1):Nat):Int)),.aG [0,9,10,11],.drop [4]] (y5 (ai h1) (ba ag.cells (rN b) h2) h3 (bw h4) (aJ h5)) hL
theorem jT(p:Rs)(b k:Nat)(v:ag)(c:Int)(h1:p.length≤b)(h2:0<p.length)(h3:ay ((p.length:Int)-1))(h4:((p.length:Int)-1)=(k:Int))(h5:p[k]? = some v)(h6:Cp 119 [v.pv] (vI c))(h7:c=0):ah p b (.iface 75 (vI 8)) :=
 lD [1,1,1,1,1,1,1,1,1,3] [.a,.q,.f,.aR [.o,(iL p),.o,.o,.o,.o,(iL p),(iI ((p.length:Int)-1)),(.row k (ag.cells v)),.o,(.pv (vI c)),.o,(.dec true)],.t,.q] (HM (ar h1) (an ag.cells p) (ai h2) (ai h2) (ai h2) (an ag.cells p) (ai h2) (aQ h3) (ai h2) (ba ag.cells h4 h5) (ai h2) (ai h2) h6 (ai h2) (ai h2) (aU h7))
theorem tN(p:Rs)(b k:Nat)(v:ag)(c:Int)(h1:p.length≤b)(h2:0<p.length)(h3:ay ((p.length:Int)-1))(h4:((p.length:Int)-1)=(k:Int))(h5:p[k]? = some v)(h6:Cp 119 [v.pv] (vI c))(h7:c≠0):ah p b .aC :=
 lD [1,1,1,1,1,1,1,1,1,3] [.a,.q,.f,.aR [.o,(iL p),.o,.o,.o,.o,(iL p),(iI ((p.length:Int)-1)),(.row k (ag.cells v)),.o,(.pv (vI c)),.o,(.dec true)],.f,.q] (HM (ar h1) (an ag.cells p) (ai h2) (ai h2) (ai h2) (an ag.cells p) (ai h2) (aQ h3) (ai h2) (ba ag.cells h4 h5) (ai h2) (ai h2) h6 (ai h2) (ai h2) (bf h7))
theorem Bz(p:Rs)(b:Nat)(h1:p.length≤b)(h2:p.length≤0):ah p b .aC :=
 lD [] [.a,.q,.f,.aR [.o,(iL p),.o,.o,.skip,.skip,.skip,.skip,.skip,.skip,.skip,.skip,(.dec false)],.a,.q] (EK (ar h1) (an ag.cells p) (ar h2) (ar h2) (ar h2) (ar h2) (ar h2) (ar h2) (ar h2) (ar h2) (ar h2))
end eh
namespace A6
theorem e0(p b:Rs)(h1:Cp 121 [ae p] .aC)(h2:Cp 134 [ae p] (ae b)):Cp 122 [ae p] (.aF [ae b,.aC]) :=
 eD func122 [] [.q,.h 1 (.pv .aC),.q,.a,.h 1 (.pv (ae b))] (y2 h1 h2)
end A6
namespace IL
theorem e0(p q b:Rs)(h1:Cp 174 [(bB lR [p,q])] .aC)(h2:Cp 133 [ae p,ae q] (ae b)):Cp 123 [ae p,ae q] (.aF [ae b,.aC]) :=
 eD func123 [3] [.q,.aR [.o,.o,(.fj 0 0 (([p,q]:List (Rs)).map lR)),(.pv .aC)],.q,.a,.h 2 (.pv (ae b))] (y3 (kV (iM ag.cells) ([p,q]:List (Rs))) h1 h2)
end IL
namespace jb
@[reducible] def fn:Func:=Tryz.f132
def aY:List dJ:=focus [0,2,0,2,0,2,0,2,0,0,0] [.code (aL fn)]
def inv1(q:List ag)(xi m:Nat)(v:ag)(js ti:List ag):St:=⟨[(1,(.pv (ae q))),(6,(.row 15 0 xi 3)),(7,(.row 23 0 m 3)),(8,(.ptr 8 0))],[(8,(.lit [(eB v.neg),(.pv (af v.num)),(.pv (af v.den))])),(15,(.pure ((js:List ag).map ag.cells).flatten)),(23,(.pure ((ti:List ag).map ag.cells).flatten))]⟩
@[reducible] def ah(q:List ag)(xi m:Nat)(v:ag)(js ti:List ag)(r:PV):Prop:=L bu fn aY (inv1 q xi m v js ti) r
def kZ:List dJ:=focus [0,2,0,2,0,2,0,2,0,0,0,0,0,0,2,0,2,0,0,2,0,2,0,2,0,0,2,0,0] [.code (aL fn)]
def inv2(q:List ag)(xi m:Nat)(GH:Int)(Vf:Nat)(v div:ag)(js ti:List ag):St:=⟨[(1,(.pv (ae q))),(6,(.row 15 0 xi 3)),(7,(.row 23 0 m 3)),(8,(.ptr 8 0)),(9,(eI GH)),(10,(.ptr 10 0)),(55,(.pv (ae q))),(56,(eI (q.length:Int))),(57,(eI (Vf:Int)))],[(8,(.lit [(eB v.neg),(.pv (af v.num)),(.pv (af v.den))])),(10,(.lit [(eB div.neg),(.pv (af div.num)),(.pv (af div.den))])),(15,(.pure ((js:List ag).map ag.cells).flatten)),(23,(.pure ((ti:List ag).map ag.cells).flatten))]⟩
@[reducible] def a8(q:List ag)(xi m:Nat)(GH:Int)(Vf:Nat)(v div:ag)(js ti:List ag)(r:PV):Prop:=L bu fn kZ (inv2 q xi m GH Vf v div js ti) r
theorem e0(p q z:Rs)(n m k:Nat)(v:ag){r:PV}(h1:au bu 82 [.pv (ae p)] [] (.row 0 0 n 3) [(0,(pC ag.cells z))])(h2:ay ((p.length:Int)-(q.length:Int)))(h3:ay (((p.length:Int)-(q.length:Int))+1))(h4:(max 0 (((p.length:Int)-(q.length:Int))+1))=(m:Int))(h5:56*m≤140737488355328)(h6:ay ((q.length:Int)-1))(h7:((q.length:Int)-1)=(k:Int))(h8:q[k]? = some v)(hL:ah q n m v z (List.replicate m (⟨false,[],[]⟩:ag)) r):Cp 132 [ae p,ae q] r :=
 eG func132 [1,1,1,1,1,1,5,1,1,3] [.q,.h 1 (.bJ [] (some (0,15)) (.row 0 0 n 3) [(0,(pC ag.cells z))]),.aR [.o,(iL p),.o,(iL q),(iI ((p.length:Int)-(q.length:Int))),(iI (((p.length:Int)-(q.length:Int))+1)),(iI (max 0 (((p.length:Int)-(q.length:Int))+1))),(.app m ((List.replicate m (⟨false,[],[]⟩:ag):Rs).map ag.cells).flatten)],.aR [.o,.o,(iL q),(iI ((q.length:Int)-1)),(.row k (ag.cells v))],.aG [1,6,7,8],.ord [8,15,23]] (JT h1 (an ag.cells p) (an ag.cells q) (aQ h2) (rO h3) (KD 0 (((p.length:Int)-(q.length:Int))+1)) (sj ag.cells (⟨false,[],[]⟩:ag) 56 m h4 h5 rfl) (an ag.cells q) (aQ h6) (ba ag.cells h7 h8)) hL
theorem l10(q:Rs)(b m:Nat)(v:ag)(c d:Rs)(k:Nat)(v1 g:ag)(i:Option Int)(k1:Nat){r:PV}(h1:q.length≤b)(h2:ay ((b:Int)-(q.length:Int)))(h3:ay ((b:Int)-1))(h4:((b:Int)-1)=(k:Int))(h5:k<b)(h6:c[k]? = some v1)(h7:Cp 180 [v1.pv,v.pv] (.aF [g.pv,bW i]))(h8:((b:Int)-(q.length:Int))=(k1:Int))(h9:k1<m)(bQ:k1<d.length)(hL:a8 q b m ((b:Int)-(q.length:Int)) 0 v g c (d.set k1 g) r):ah q b m v c d r :=
 lG [1,1,1,1,1,2,2,1,2,2] [.a,.h 3 (iL q),.t,.aR [.o,.o,.o,(iL q),(iI ((b:Int)-(q.length:Int)))],dr 13 1 [.none,.none,.none,(iI ((b:Int)-1)),(.nat k),(.JZ [vB v1.neg,af v1.num,af v1.den]),.none,(.pv (.aF [g.pv,bW i]))],.aR [.o,.o,.o,(.nat k1),(.cells (.pure (((d.set k1 g):Rs).map ag.cells).flatten))],.h 1 (iL q),.aG [1,6,7,8,9,10,55,56,57],.ord [8,10,15,23]] (EK (an ag.cells q) (cI h1) (an ag.cells q) (aQ h2) (aQ h3) (cj h4 h5) (tL aD h6) h7 (cj h8 h9) (gu aD (d:Rs) g bQ) (an ag.cells q)) hL
theorem cB(q:Rs)(b m:Nat)(v:ag)(c d g:Rs)(h1:b<q.length)(h2:m=d.length)(h3:Cp 82 [ae d] (ae g))(h4:b=c.length):ah q b m v c d (.aF [ae g,ae c]) :=
 lD [1,1,3,1,3] [.a,.h 3 (iL q),.f,.dH 7 ((d:Rs).map ag.cells),.h 1 (.pv (ae g)),.dH 5 ((c:Rs).map ag.cells)] (y5 (an ag.cells q) (bn h1) (bU aD (d:Rs) h2) h3 (bU aD (c:Rs) h4))
theorem uF(q:Rs)(b m:Nat)(c:Int)(d:Nat)(v g:ag)(i j:Rs)(v1:ag)(k:Nat)(v2 l n:ag)(k1:Nat){r:PV}(h1:d<q.length)(h2:q[d]? = some v1)(h3:ay (c+(d:Int)))(h4:(c+(d:Int))=(k:Int))(h5:k<b)(h6:i[k]? = some v2)(h7:Cp 117 [g.pv,v1.pv] l.pv)(h8:Cp 186 [v2.pv,l.pv] n.pv)(h9:(c+(d:Int))=(k1:Int))(bQ:k1<b)(dU:k1<i.length)(fP:(d+1)<9223372036854775808)(hL:a8 q b m c (d+1) v g (i.set k1 n) j r):a8 q b m c d v g i j r :=
 lG [1,3,1,1,2,2,1,1,2,2] [.a,.q,.t,.h 1 (.row d (ag.cells v1)),dr 15 1 [.none,.none,.none,(iI (c+(d:Int))),.none,.none,.none,(iI (c+(d:Int))),(.nat k),(.JZ [vB v2.neg,af v2.num,af v2.den]),.none,.none,(.pv l.pv),(.pv n.pv),(.nat k1),(.cells (.pure (((i.set k1 n):Rs).map ag.cells).flatten))],.h 0 (iI (((d+1):Nat):Int)),.aG [1,6,7,8,9,10,55,56,57],.drop [13]] (EK (ai h1) (ba ag.cells (rN d) h2) (rO h3) (rO h3) (cj h4 h5) (tL aD h6) h7 h8 (cj h9 bQ) (gu aD (i:Rs) n dU) (aJ fP)) hL
theorem xe(q:Rs)(b m:Nat)(c:Int)(d:Nat)(v g:ag)(i j z:Rs)(n:Nat){r:PV}(h1:q.length≤d)(h2:b=i.length)(h3:au bu 82 [.pv (ae i)] [] (.row 0 0 n 3) [(0,(pC ag.cells z))])(hL:ah q n m v z j r):a8 q b m c d v g i j r :=
 lG [1,3] [.a,.q,.f,.dH 6 ((i:Rs).map ag.cells),.h 1 (.bJ [] (some (0,79)) (.row 0 0 n 3) [(0,(pC ag.cells z))]),.aG [1,6,7,8],.drop [10],.pn 79 15,.ord [8,15,23]] (y3 (ar h1) (bU aD (i:Rs) h2) h3) hL
end jb
namespace jH
@[reducible] def fn:Func:=Tryz.f133
def aY:List dJ:=focus [0,2,0,0,0] [.code (aL fn)]
def inv1(Vg Vh:List ag):St:=⟨[(0,(.pv (ae Vg))),(1,(.pv (ae Vh)))],[]⟩
@[reducible] def ah(Vg Vh:List ag)(r:PV):Prop:=L bu fn aY (inv1 Vg Vh) r
theorem e0 (p q : Rs) {r : PV}  (hL : ah p q r) : Cp 133 [ae p, ae q] r :=
 eG func133 [] [.q,.aG [0,1]] True.intro hL
theorem l10(b c d g i:Rs){r:PV}(h1:0<c.length)(h2:Cp 132 [ae b,ae c] (.aF [ae d,ae g]))(h3:Cp 135 [ae g] (ae i))(hL:ah c i r):ah b c r :=
 lG [] [.a,.h 1 (iL c),.t,.h 2 (.pv (.aF [ae d,ae g])),.h 2 (.pv (ae i)),.aG [0,1]] (y4 (an ag.cells c) (ai h1) h2 h3) hL
theorem cB(b c d:Rs)(h1:c.length≤0)(h2:Cp 135 [ae b] (ae d)):ah b c (ae d) :=
 lD [] [.a,.h 1 (iL c),.f,.h 1 (.pv (ae d))] (y3 (an ag.cells c) (ar h1) h2)
end jH
namespace oe
@[reducible] def fn:Func:=Tryz.f134
def aY:List dJ:=focus [0,2,0,2,0,0,2,0,0] [.code (aL fn)]
def inv1(p BR:List ag)(i_4:Nat):St:=⟨[(0,(.pv (ae p))),(3,(.row 20 0 BR.length 3)),(4,(eI (i_4:Int)))],[(20,(.pure ((BR:List ag).map ag.cells).flatten))]⟩
@[reducible] def ah(p BR:List ag)(i_4:Nat)(r:PV):Prop:=L bu fn aY (inv1 p BR i_4) r
theorem e0 (p : Rs) {r : PV}  (hL : ah p [] 1 r) : Cp 134 [ae p] r :=
 eG func134 [] [.q,.h 0 .nil,.iK 3 20 3,.q,.aG [0,3,4]] True.intro hL
theorem l10(p b:Rs)(c:Nat)(of v d:ag){r:PV}(h1:c<p.length)(h2:Cp 18 [(vI (c:Int))] of.pv)(h3:p[c]? = some v)(h4:Cp 117 [of.pv,v.pv] d.pv)(h5:((b++[d]):Rs).length*56≤140737488355328)(h6:(c+1)<9223372036854775808)(hL:ah p (b++[d]) (c+1) r):ah p b c r :=
 lG [1,1,1,3,1,6] [.a,.h 2 (iL p),.t,dr 9 2 [.none,.none,(.pv of.pv),.none,.none,(.row c (ag.cells v)),.none,(.pv d.pv),.none,(.app ((b++[d]):Rs).length (((b++[d]):Rs).map ag.cells).flatten)],.h 1 (iI (((c+1):Nat):Int)),.aG [0,3,4],.drop [19]] (y7 (an ag.cells p) (ai h1) h2 (ba ag.cells (rN c) h3) h4 (fv aD (b:Rs) ([d]:Rs) 56 (Eq.refl (b:Rs).length) (Eq.refl ([d]:Rs).length) h5 rfl) (aJ h6)) hL
theorem cB(p b:Rs)(c:Nat)(d:Rs)(h1:p.length≤c)(h2:Cp 82 [ae b] (ae d)):ah p b c (ae d) :=
 lD [1,1,3] [.a,.h 2 (iL p),.f,.dH 3 ((b:Rs).map ag.cells),.h 1 (.pv (ae d))] (y4 (an ag.cells p) (ar h1) (bU aD (b:Rs) (Eq.refl (b:Rs).length)) h2)
end oe
namespace xj
theorem e0(p:Rs)(h1:p.length=0):Cp 135 [ae p] (ae []) :=
 eD func135 [] [.q,.h 1 (iL p),.t,.q] (y2 (an ag.cells p) (aM h1))
theorem e1(p:Rs)(of:ag)(k:Nat)(v a:ag)(b:Option Int)(c:Rs)(h1:p.length≠0)(h2:Cp 18 [vI 1] of.pv)(h3:ay ((p.length:Int)-1))(h4:((p.length:Int)-1)=(k:Int))(h5:p[k]? = some v)(h6:Cp 180 [of.pv,v.pv] (.aF [a.pv,bW b]))(h7:Cp 187 [(ae []),ae p,a.pv] (ae c)):Cp 135 [ae p] (ae c) :=
 eD func135 [1,1,1,1,1,3] [.q,.h 1 (iL p),.f,dr 13 1 [(.pv of.pv),.none,.none,(iL p),(iI ((p.length:Int)-1)),(.row k (ag.cells v)),.none,(.pv (.aF [a.pv,bW b]))],.h 2 (.pv (ae c))] (y8 (an ag.cells p) (aB h1) h2 (an ag.cells p) (aQ h3) (ba ag.cells h4 h5) h6 h7)
end xj
namespace sq
@[reducible] def fn:Func:=Tryz.f139
def aY:List dJ:=focus [0,2,0,0,2,0,2,1,2,0,2,0,0,2,0,0] [.code (aL fn)]
def inv1(p:List ag)(Dr:Int)(x eH:ag):St:=⟨[(0,(.pv (ae p))),(3,(.ptr 3 0)),(4,(.ptr 4 0)),(7,(.ptr 7 0)),(8,(eI Dr))],[(3,(.lit [(eB x.neg),(.pv (af x.num)),(.pv (af x.den))])),(4,(.lit [(eB false),(.pv (.list [])),(.pv (.list []))])),(7,(.lit [(eB eH.neg),(.pv (af eH.num)),(.pv (af eH.den))]))]⟩
@[reducible] def ah(p:List ag)(Dr:Int)(x eH:ag)(r:PV):Prop:=L bu fn aY (inv1 p Dr x eH) r
theorem e0(p:Rs)(x:ag){r:PV}(h1:Cp 121 [ae p] .aC)(h2:ay ((p.length:Int)-1))(hL:ah p ((p.length:Int)-1) x (⟨false,[],[]⟩:ag) r):Cp 139 [ae p,x.pv] r :=
 eG func139 [] [.q,.h 1 (.pv .aC),.q,.a,.q,.aR [.o,(iL p),(iI ((p.length:Int)-1))],.aG [0,3,4,7,8],.ord [3,4,7]] (y3 h1 (an ag.cells p) (aQ h2)) hL
theorem l10(p:Rs)(b:Int)(x c d:ag)(k:Nat)(v g:ag){r:PV}(h1:0≤b)(h2:Cp 117 [c.pv,x.pv] d.pv)(h3:b=(k:Int))(h4:p[k]? = some v)(h5:Cp 62 [d.pv,v.pv] g.pv)(h6:ay (b-1))(hL:ah p (b-1) x g r):ah p b x c r :=
 lG [1,1,3] [.a,.q,.t,dr 8 1 [.none,.none,(.pv d.pv),.none,.none,(.row k (ag.cells v)),.none,(.pv g.pv)],.h 1 (iI (b-1)),.aG [0,3,4,7,8]] (y5 (bg h1) h2 (ba ag.cells h3 h4) h5 (aQ h6)) hL
theorem cB(p:Rs)(b:Int)(x c:ag)(h1:b<0):ah p b x c (.aF [c.pv,.aC]) :=
 lD [] [.a,.q,.f,.q] (y1 (fc h1))
end sq
namespace km
@[reducible] def fn:Func:=Tryz.f174
def aY:List dJ:=focus [0,2,0,0,2,0,0] [.code (aL fn)]
def inv1(list:List (List ag))(tW:Nat):St:=⟨[(6,(.pv (bB (bp ag.cells) list))),(7,(eI (list.length:Int))),(8,(eI (tW:Int)))],[]⟩
@[reducible] def ah(list:List (List ag))(tW:Nat)(r:PV):Prop:=L bu fn aY (inv1 list tW) r
theorem e0 (a : List (Rs)) {r : PV}  (hL : ah a 0 r) : Cp 174 [(bB lR a)] r :=
 eG func174 [] [.q,.h 1 (iL a),.aG [6,7,8]] (y1 (an lR a)) hL
theorem l10(b:List (Rs))(c:Nat)(v:Rs){r:PV}(h1:c<b.length)(h2:b[c]? = some v)(h3:Cp 121 [ae v] .aC)(h4:(c+1)<9223372036854775808)(hL:ah b (c+1) r):ah b c r :=
 lG [1,3] [.a,.q,.t,.h 0 (.row c (lR v)),.h 1 (.pv .aC),.q,.a,.h 0 (iI (((c+1):Nat):Int)),.aG [6,7,8]] (y4 (ai h1) (ba lR (rN c) h2) h3 (aJ h4)) hL
theorem cB(b:List (Rs))(c:Nat)(v:Rs)(d:Int)(h1:c<b.length)(h2:b[c]? = some v)(h3:Cp 121 [ae v] (.iface 75 (vI d))):ah b c (.iface 75 (vI d)) :=
 lD [1,3] [.a,.q,.t,.h 0 (.row c (lR v)),.h 1 (.pv (.iface 75 (vI d))),.q,.a,.q] (y3 (ai h1) (ba lR (rN c) h2) h3)
theorem jT(b:List (Rs))(c:Nat)(h1:b.length≤c):ah b c .aC :=
 lD [] [.a,.q,.f,.q] (y1 (ar h1))
end km
namespace IM
theorem e1(p q b c:Rs)(h1:Cp 174 [(bB lR [p,q])] .aC)(h2:q.length≠0)(h3:Cp 132 [ae p,ae q] (.aF [ae b,ae c])):Cp 182 [ae p,ae q] (.aF [ae b,ae c,.aC]) :=
 eD func182 [3] [.q,.aR [.o,.o,(.fj 0 0 (([p,q]:List (Rs)).map lR)),(.pv .aC)],.q,.a,.h 1 (iL q),.f,.h 2 (.pv (.aF [ae b,ae c])),.q] (y5 (kV (iM ag.cells) ([p,q]:List (Rs))) h1 (an ag.cells q) (aB h2) h3)
end IM
namespace Dx
theorem e0(p:Rs)(c:ag)(b:Rs)(h1:Cp 121 [ae p] .aC)(h2:Cp 187 [(ae []),ae p,c.pv] (ae b)):Cp 183 [ae p,c.pv] (.aF [ae b,.aC]) :=
 eD func183 [] [.q,.h 1 (.pv .aC),.q,.a,.h 2 (.pv (ae b))] (y2 h1 h2)
end Dx
namespace sr
@[reducible] def fn:Func:=Tryz.f187
def aY:List dJ:=focus [0,2,0,2,0,0,2,0,0] [.code (aL fn)]
def inv1(p q:List ag)(KF:Nat)(c:ag)(jn:List ag):St:=⟨[(0,(.pv (ae p))),(1,(.pv (ae q))),(5,(.ptr 5 0)),(7,(.row 14 0 (max p.length q.length) 3)),(16,(eI (((max p.length q.length):Nat):Int))),(17,(eI (KF:Int)))],[(5,(.lit [(eB c.neg),(.pv (af c.num)),(.pv (af c.den))])),(14,(.pure ((jn:List ag).map ag.cells).flatten))]⟩
@[reducible] def ah(p q:List ag)(KF:Nat)(c:ag)(jn:List ag)(r:PV):Prop:=L bu fn aY (inv1 p q KF c jn) r
theorem e0(p q:Rs)(c:ag){r:PV}(h1:56*(max p.length q.length)≤140737488355328)(hL:ah p q 0 c (List.replicate (max p.length q.length) (⟨false,[],[]⟩:ag)) r):Cp 187 [ae p,ae q,c.pv] r :=
 eG func187 [1,1,1,5] [.q,.aR [.o,(iL p),.o,(iL q),(iI (((max p.length q.length):Nat):Int)),(.app (max p.length q.length) ((List.replicate (max p.length q.length) (⟨false,[],[]⟩:ag):Rs).map ag.cells).flatten)],.q,.aG [0,1,5,7,16,17],.ord [5,14]] (y4 (an ag.cells p) (an ag.cells q) (oK p.length q.length) (sj ag.cells (⟨false,[],[]⟩:ag) 56 (max p.length q.length) (rN (max p.length q.length)) h1 rfl)) hL
theorem l10(p q:Rs)(b:Nat)(c:ag)(d:Rs)(g i j k:ag){r:PV}(h1:b<(max p.length q.length))(h2:Cp 225 [ae p,(vI (b:Int))] g.pv)(h3:Cp 225 [ae q,(vI (b:Int))] i.pv)(h4:Cp 117 [c.pv,i.pv] j.pv)(h5:Cp 62 [g.pv,j.pv] k.pv)(h6:b<d.length)(h7:(b+1)<9223372036854775808)(hL:ah p q (b+1) c (d.set b k) r):ah p q b c d r :=
 lG [1,1,1,1,1,2,2] [.a,.q,.t,.q,dr 12 1 [.none,.none,.none,.none,(.pv g.pv),.none,.none,.none,(.pv i.pv),(.pv j.pv),(.pv k.pv),(.nat b),(.cells (.pure (((d.set b k):Rs).map ag.cells).flatten))],.h 0 (iI (((b+1):Nat):Int)),.aG [0,1,5,7,16,17]] (y8 (ai h1) h2 h3 h4 h5 (cj (rN b) h1) (gu aD (d:Rs) k h6) (aJ h7)) hL
theorem cB(p q:Rs)(b:Nat)(c:ag)(d g:Rs)(h1:(max p.length q.length)≤b)(h2:(max p.length q.length)=d.length)(h3:Cp 82 [ae d] (ae g)):ah p q b c d (ae g) :=
 lD [1,3] [.a,.q,.f,.dH 7 ((d:Rs).map ag.cells),.h 1 (.pv (ae g))] (y3 (ar h1) (bU aD (d:Rs) h2) h3)
end sr
namespace nL
theorem e0(p:Rs)(i:Int)(k:Nat)(v:ag)(h1:i<(p.length:Int))(h2:i=(k:Int))(h3:p[k]? = some v):Cp 225 [ae p,vI i] v.pv :=
 eD func225 [1,1,3] [.q,.h 2 (iL p),.t,.h 2 (.row k (ag.cells v))] (y3 (an ag.cells p) (bA h1) (ba ag.cells h2 h3))
theorem e1(p:Rs)(i:Int)(h1:(p.length:Int)≤i):Cp 225 [ae p,vI i] ((⟨false,[],[]⟩:ag).pv) :=
 eD func225 [] [.q,.h 2 (iL p),.f,.q] (y2 (an ag.cells p) (bm h1))
end nL
namespace qd
theorem e0(p q:Rs)(a:Bool)(h1:Cp 46 [ae p,ae q] (vB a)):Cp 12 [ae p,ae q] (vB a) :=
 eD func12 [] [.q,.h 2 (.pv (vB a))] (y1 h1)
end qd
namespace cU
@[reducible] def fn:Func:=Tryz.f42
def aY:List dJ:=focus [0,2,0,2,0,0,2,0,0] [.code (aL fn)]
def inv1(cA l:List ag)(tW:Nat):St:=⟨[(3,(.row 17 0 cA.length 3)),(6,(.pv (ae l))),(7,(eI (l.length:Int))),(8,(eI (tW:Int)))],[(17,(.pure ((cA:List ag).map ag.cells).flatten))]⟩
@[reducible] def ah(cA l:List ag)(tW:Nat)(r:PV):Prop:=L bu fn aY (inv1 cA l tW) r
def kZ:List dJ:=focus [0,2,0,2,0,0,2,0,0,0,0,2,0,1,2,2,2,2,0,0,0] [.code (aL fn)]
def inv2(cA:List ag):St:=⟨[(3,(.row 17 0 cA.length 3))],[(17,(.pure ((cA:List ag).map ag.cells).flatten))]⟩
@[reducible] def a8(cA:List ag)(r:PV):Prop:=L bu fn kZ (inv2 cA) r
theorem e0 (l : Rs) {r : PV}  (hL : ah [] l 0 r) : Cp 42 [ae l] r :=
 eG func42 [] [.q,.h 0 .nil,.iK 3 17 3,.h 1 (iL l),.aG [3,6,7,8]] (y1 (an ag.cells l)) hL
theorem l10(b l:Rs)(c:Nat)(v d:ag){r:PV}(h1:c<l.length)(h2:l[c]? = some v)(h3:Cp 86 [v.pv,(⟨false,[],[]⟩:ag).pv] d.pv)(h4:((b++[d]):Rs).length*56≤140737488355328)(h5:(c+1)<9223372036854775808)(hL:ah (b++[d]) l (c+1) r):ah b l c r :=
 lG [1,3,1,6] [.a,.q,.t,.h 0 (.row c (ag.cells v)),.aR [.o,.o,.o,(.pv d.pv),.o,(.app ((b++[d]):Rs).length (((b++[d]):Rs).map ag.cells).flatten)],.h 0 (iI (((c+1):Nat):Int)),.aG [3,6,7,8],.drop [16,5]] (y5 (ai h1) (ba ag.cells (rN c) h2) h3 (fv aD (b:Rs) ([d]:Rs) 56 (Eq.refl (b:Rs).length) (Eq.refl ([d]:Rs).length) h4 rfl) (aJ h5)) hL
theorem cB(b l:Rs)(c:Nat){r:PV}(h1:l.length≤c)(hL:a8 b r):ah b l c r :=
 lG [] [.a,.q,.f,.aG [3]] (y1 (ar h1)) hL
theorem uF(b:Rs)(k:Nat)(v:ag)(c:Int)(u:Nat){r:PV}(h1:0<b.length)(h2:ay ((b.length:Int)-1))(h3:((b.length:Int)-1)=(k:Int))(h4:k<b.length)(h5:b[k]? = some v)(h6:Cp 85 [v.pv] (vI c))(h7:c=0)(h8:((b.length:Int)-1)=(u:Int))(h9:u≤(b:Rs).length)(hL:a8 (b.take u) r):a8 b r :=
 lG [1,1,1,1,1,1,2,1,2,1,1,1,1,1,1,5] [.a,.aR [.o,.o,.o,.o,.o,.o,.o,(iI ((b.length:Int)-1)),(.nat k),(.JZ [vB v.neg,af v.num,af v.den]),(.pv (vI c)),.o,(.dec true)],.t,.aR [.o,.o,.o,(iI ((b.length:Int)-1)),(.fj 0 ((b.take u).length) [])],.cut 17 (u*3) (((b.take u):Rs).map ag.cells).flatten,.aG [3]] (Ny (ai h1) (ai h1) (ai h1) (ai h1) (aQ h2) (ai h1) (cj h3 h4) (ai h1) (tL aD h5) (ai h1) h6 (ai h1) (ai h1) (aU h7) (aQ h2) (ID (b:Rs) h8 h9) (uz aD (b:Rs) u)) hL
theorem xe(b:Rs)(k:Nat)(v:ag)(c:Int)(h1:0<b.length)(h2:ay ((b.length:Int)-1))(h3:((b.length:Int)-1)=(k:Int))(h4:k<b.length)(h5:b[k]? = some v)(h6:Cp 85 [v.pv] (vI c))(h7:c≠0):a8 b (ae b) :=
 lD [1,1,1,1,1,1,2,1,2,1,1,1,1,1,3] [.a,.aR [.o,.o,.o,.o,.o,.o,.o,(iI ((b.length:Int)-1)),(.nat k),(.JZ [vB v.neg,af v.num,af v.den]),(.pv (vI c)),.o,(.dec true)],.f,.q,.dH 2 ((b:Rs).map ag.cells)] (Nx (ai h1) (ai h1) (ai h1) (ai h1) (aQ h2) (ai h1) (cj h3 h4) (ai h1) (tL aD h5) (ai h1) h6 (ai h1) (ai h1) (bf h7) (bU aD (b:Rs) (Eq.refl (b:Rs).length)))
theorem Py(b:Rs)(h1:b.length≤0):a8 b (ae b) :=
 lD [1,1,1,1,1,1,1,1,1,3] [.a,.aR [.o,.o,.o,.o,.skip,.skip,.skip,.skip,.skip,.skip,.skip,.skip,(.dec false)],.a,.q,.dH 2 ((b:Rs).map ag.cells)] (JT (ar h1) (ar h1) (ar h1) (ar h1) (ar h1) (ar h1) (ar h1) (ar h1) (ar h1) (bU aD (b:Rs) (Eq.refl (b:Rs).length)))
end cU
namespace qe
theorem e2(p:Rs)(a:Int)(b c d g i:Rs)(h1:Cp 162 [ae p] (vI a))(h2:a=0)(h3:p.length≠0)(h4:Cp 165 [ae p] (ae b))(h5:Cp 164 [ae p,ae b] (ae c))(h6:Cp 163 [ae p,ae c] (.aF [ae d,ae g]))(h7:Cp 166 [ae d] (ae i)):Cp 94 [ae p] (.aF [ae i,vI 0]) :=
 eD func94 [] [.q,.h 1 (.pv (vI a)),.q,.f,.h 1 (iL p),.f,.aR [.o,.o,.o,(.pv (ae b)),(.pv (ae c)),(.pv (.aF [ae d,ae g]))],.h 1 (.pv (ae i))] (y8 h1 (gr h2) (an ag.cells p) (aB h3) h4 h5 h6 h7)
end qe
namespace bD
@[reducible] def fn:Func:=Tryz.f162
def aY:List dJ:=focus [0,2,0,0,2,1,2,0,0,2,0,0] [.code (aL fn)]
def inv1(p:List ag)(Dy:Nat):St:=⟨[(0,(.pv (ae p))),(8,(.pv (ae p))),(9,(eI (p.length:Int))),(10,(eI (Dy:Int)))],[]⟩
@[reducible] def ah(p:List ag)(Dy:Nat)(r:PV):Prop:=L bu fn aY (inv1 p Dy) r
theorem e0(p:Rs)(h1:65<p.length):Cp 162 [ae p] (vI 4) :=
 eD func162 [] [.q,.h 1 (iL p),.t,.q] (y2 (an ag.cells p) (ai h1))
theorem e1(p:Rs){r:PV}(h1:p.length≤65)(hL:ah p 0 r):Cp 162 [ae p] r :=
 eG func162 [] [.q,.h 1 (iL p),.f,.h 1 (iL p),.aG [0,8,9,10]] (y3 (an ag.cells p) (ar h1) (an ag.cells p)) hL
theorem l10(p:Rs)(b:Nat)(v:ag)(c:Bool)(h1:b<p.length)(h2:p[b]? = some v)(h3:Cp 50 [v.pv] (vB c))(h4:c=false):ah p b (vI 2) :=
 lD [1,3] [.a,.q,.t,.h 0 (.row b (ag.cells v)),.h 1 (.pv (vB c)),.t,.q] (y4 (ai h1) (ba ag.cells (rN b) h2) h3 (dm h4))
theorem cB(p:Rs)(b:Nat)(v:ag)(c:Bool){r:PV}(h1:b<p.length)(h2:p[b]? = some v)(h3:Cp 50 [v.pv] (vB c))(h4:c=true)(h5:(b+1)<9223372036854775808)(hL:ah p (b+1) r):ah p b r :=
 lG [1,3] [.a,.q,.t,.h 0 (.row b (ag.cells v)),.h 1 (.pv (vB c)),.f,.h 0 (iI (((b+1):Nat):Int)),.aG [0,8,9,10],.drop [4]] (y5 (ai h1) (ba ag.cells (rN b) h2) h3 (bw h4) (aJ h5)) hL
theorem jT(p:Rs)(b k:Nat)(v:ag)(c:Int)(h1:p.length≤b)(h2:0<p.length)(h3:ay ((p.length:Int)-1))(h4:((p.length:Int)-1)=(k:Int))(h5:p[k]? = some v)(h6:Cp 85 [v.pv] (vI c))(h7:c=0):ah p b (vI 8) :=
 lD [1,1,1,1,1,1,1,1,1,3] [.a,.q,.f,.aR [.o,(iL p),.o,.o,.o,.o,(iL p),(iI ((p.length:Int)-1)),(.row k (ag.cells v)),.o,(.pv (vI c)),.o,(.dec true)],.t,.q] (HM (ar h1) (an ag.cells p) (ai h2) (ai h2) (ai h2) (an ag.cells p) (ai h2) (aQ h3) (ai h2) (ba ag.cells h4 h5) (ai h2) (ai h2) h6 (ai h2) (ai h2) (aU h7))
theorem tN(p:Rs)(b k:Nat)(v:ag)(c:Int)(h1:p.length≤b)(h2:0<p.length)(h3:ay ((p.length:Int)-1))(h4:((p.length:Int)-1)=(k:Int))(h5:p[k]? = some v)(h6:Cp 85 [v.pv] (vI c))(h7:c≠0):ah p b (vI 0) :=
 lD [1,1,1,1,1,1,1,1,1,3] [.a,.q,.f,.aR [.o,(iL p),.o,.o,.o,.o,(iL p),(iI ((p.length:Int)-1)),(.row k (ag.cells v)),.o,(.pv (vI c)),.o,(.dec true)],.f,.q] (HM (ar h1) (an ag.cells p) (ai h2) (ai h2) (ai h2) (an ag.cells p) (ai h2) (aQ h3) (ai h2) (ba ag.cells h4 h5) (ai h2) (ai h2) h6 (ai h2) (ai h2) (bf h7))
theorem Bz(p:Rs)(b:Nat)(h1:p.length≤b)(h2:p.length≤0):ah p b (vI 0) :=
 lD [] [.a,.q,.f,.aR [.o,(iL p),.o,.o,.skip,.skip,.skip,.skip,.skip,.skip,.skip,.skip,(.dec false)],.a,.q] (EK (ar h1) (an ag.cells p) (ar h2) (ar h2) (ar h2) (ar h2) (ar h2) (ar h2) (ar h2) (ar h2) (ar h2))
end bD
namespace fL
@[reducible] def fn:Func:=Tryz.f163
def aY:List dJ:=focus [0,2,0,2,0,2,0,0,0] [.code (aL fn)]
def inv1(q PA xf:List ag):St:=⟨[(1,(.pv (ae q))),(6,(.pv (ae PA))),(7,(.pv (ae xf)))],[]⟩
@[reducible] def ah(q PA xf:List ag)(r:PV):Prop:=L bu fn aY (inv1 q PA xf) r
theorem e0(p q a:Rs){r:PV}(h1:Cp 42 [ae p] (ae a))(hL:ah q [] a r):Cp 163 [ae p,ae q] r :=
 eG func163 [] [.q,.q,.h 1 (.pv (ae a)),.aG [1,6,7]] (y1 h1) hL
theorem l10(q b c:Rs)(k:Nat)(v:ag)(k1:Nat)(v1 d:ag)(g:Int)(of:ag)(i:Rs)(j:ag)(l:Rs){r:PV}(h1:q.length≤c.length)(h2:ay ((c.length:Int)-1))(h3:((c.length:Int)-1)=(k:Int))(h4:c[k]? = some v)(h5:ay ((q.length:Int)-1))(h6:((q.length:Int)-1)=(k1:Int))(h7:q[k1]? = some v1)(h8:Cp 205 [v.pv,v1.pv] (.aF [d.pv,vI g]))(h9:ay ((c.length:Int)-(q.length:Int)))(bQ:Cp 36 [vI 1] of.pv)(dU:Cp 213 [ae b,(ae [d]),of.pv,(vI ((c.length:Int)-(q.length:Int)))] (ae i))(fP:Cp 149 [d.pv] j.pv)(k7:Cp 213 [ae c,ae q,j.pv,(vI ((c.length:Int)-(q.length:Int)))] (ae l))(hL:ah q i l r):ah q b c r :=
 lG [1,1,1,1,1,3,1,1,3,1,1,1,1,3] [.a,.aR [.o,(iL c),.o,(iL q)],.t,dr 18 1 [.none,.none,(iL c),(iI ((c.length:Int)-1)),(.row k (ag.cells v)),.none,.none,.none,(iL q),(iI ((q.length:Int)-1)),(.row k1 (ag.cells v1)),.none,(.pv (.aF [d.pv,vI g]))],.aR [.o,(iL c),.o,(iL q),(iI ((c.length:Int)-(q.length:Int)))],dr 6 1 [.none,.none,(.fj 0 0 (([d]:Rs).map ag.cells)),(.pv of.pv),.none,(.pv (ae i))],.aR [.o,.o,.o,(.pv j.pv),.o,(.pv (ae l))],.aG [1,6,7],.drop [8]] (U3 (an ag.cells c) (an ag.cells q) (cI h1) (an ag.cells c) (aQ h2) (ba ag.cells h3 h4) (an ag.cells q) (aQ h5) (ba ag.cells h6 h7) h8 (an ag.cells c) (an ag.cells q) (aQ h9) (kV aD ([d]:Rs)) bQ dU fP k7) hL
theorem cB(q b c:Rs)(h1:c.length<q.length):ah q b c (.aF [ae b,ae c]) :=
 lD [] [.a,.aR [.o,(iL c),.o,(iL q)],.f,.q] (y3 (an ag.cells c) (an ag.cells q) (bn h1))
end fL
namespace gZ
@[reducible] def fn:Func:=Tryz.f164
def aY:List dJ:=focus [0,2,0,2,0,0,0] [.code (aL fn)]
def inv1(Vg Vh:List ag):St:=⟨[(0,(.pv (ae Vg))),(1,(.pv (ae Vh)))],[]⟩
@[reducible] def ah(Vg Vh:List ag)(r:PV):Prop:=L bu fn aY (inv1 Vg Vh) r
theorem e0(p q a b:Rs){r:PV}(h1:Cp 166 [ae p] (ae a))(h2:Cp 166 [ae q] (ae b))(hL:ah a b r):Cp 164 [ae p,ae q] r :=
 eG func164 [] [.q,.aR [.o,(.pv (ae a)),.o,(.pv (ae b))],.aG [0,1]] (y2 h1 h2) hL
theorem l10(b c d g i:Rs){r:PV}(h1:0<c.length)(h2:Cp 163 [ae b,ae c] (.aF [ae d,ae g]))(h3:Cp 166 [ae g] (ae i))(hL:ah c i r):ah b c r :=
 lG [] [.a,.h 1 (iL c),.t,.h 2 (.pv (.aF [ae d,ae g])),.h 2 (.pv (ae i)),.aG [0,1]] (y4 (an ag.cells c) (ai h1) h2 h3) hL
theorem cB(b c:Rs)(h1:c.length≤0):ah b c (ae b) :=
 lD [] [.a,.h 1 (iL c),.f,.q] (y2 (an ag.cells c) (ar h1))
end gZ
namespace eo
@[reducible] def fn:Func:=Tryz.f165
def aY:List dJ:=focus [0,2,0,2,0,0,2,0,0] [.code (aL fn)]
def inv1(BS p:List ag)(tW:Nat):St:=⟨[(3,(.row 21 0 BS.length 3)),(6,(.pv (ae p))),(7,(eI (p.length:Int))),(8,(eI (tW:Int)))],[(21,(.pure ((BS:List ag).map ag.cells).flatten))]⟩
@[reducible] def ah(BS p:List ag)(tW:Nat)(r:PV):Prop:=L bu fn aY (inv1 BS p tW) r
theorem e0 (p : Rs) {r : PV}  (hL : ah [] p 0 r) : Cp 165 [ae p] r :=
 eG func165 [] [.q,.h 0 .nil,.iK 3 21 3,.h 1 (iL p),.aG [3,6,7,8]] (y1 (an ag.cells p)) hL
theorem l10(b p:Rs)(c:Nat)(v of d:ag){r:PV}(h1:c<p.length)(h2:p[c]? = some v)(h3:0<c)(h4:Cp 36 [(vI (c:Int))] of.pv)(h5:Cp 157 [of.pv,v.pv] d.pv)(h6:((b++[d]):Rs).length*56≤140737488355328)(h7:(c+1)<9223372036854775808)(hL:ah (b++[d]) p (c+1) r):ah b p c r :=
 lG [1,3,1,1,1,6] [.a,.q,.t,.h 1 (.row c (ag.cells v)),.q,.t,dr 6 2 [.none,.none,(.pv of.pv),.none,(.pv d.pv),.none,(.app ((b++[d]):Rs).length (((b++[d]):Rs).map ag.cells).flatten)],.h 0 (iI (((c+1):Nat):Int)),.aG [3,6,7,8],.drop [20,5]] (y7 (ai h1) (ba ag.cells (rN c) h2) (ai h3) h4 h5 (fv aD (b:Rs) ([d]:Rs) 56 (Eq.refl (b:Rs).length) (Eq.refl ([d]:Rs).length) h6 rfl) (aJ h7)) hL
theorem cB(b p:Rs)(c:Nat)(v:ag){r:PV}(h1:c<p.length)(h2:p[c]? = some v)(h3:c≤0)(h4:(c+1)<9223372036854775808)(hL:ah b p (c+1) r):ah b p c r :=
 lG [1,3] [.a,.q,.t,.h 1 (.row c (ag.cells v)),.q,.f,.h 0 (iI (((c+1):Nat):Int)),.aG [3,6,7,8],.drop [5]] (y4 (ai h1) (ba ag.cells (rN c) h2) (ar h3) (aJ h4)) hL
theorem jT(b p:Rs)(c:Nat)(d:Rs)(h1:p.length≤c)(h2:Cp 42 [ae b] (ae d)):ah b p c (ae d) :=
 lD [1,3] [.a,.q,.f,.dH 3 ((b:Rs).map ag.cells),.h 1 (.pv (ae d))] (y3 (ar h1) (bU aD (b:Rs) (Eq.refl (b:Rs).length)) h2)
end eo
namespace lg
theorem e0(p:Rs)(h1:p.length=0):Cp 166 [ae p] (ae []) :=
 eD func166 [] [.q,.h 1 (iL p),.t,.q] (y2 (an ag.cells p) (aM h1))
theorem e1(p:Rs)(of:ag)(k:Nat)(v a:ag)(b:Int)(c:Rs)(h1:p.length≠0)(h2:Cp 36 [vI 1] of.pv)(h3:ay ((p.length:Int)-1))(h4:((p.length:Int)-1)=(k:Int))(h5:p[k]? = some v)(h6:Cp 205 [of.pv,v.pv] (.aF [a.pv,vI b]))(h7:Cp 213 [(ae []),ae p,a.pv,vI 0] (ae c)):Cp 166 [ae p] (ae c) :=
 eD func166 [1,1,1,1,1,3] [.q,.h 1 (iL p),.f,dr 13 1 [(.pv of.pv),.none,.none,(iL p),(iI ((p.length:Int)-1)),(.row k (ag.cells v)),.none,(.pv (.aF [a.pv,vI b]))],.h 2 (.pv (ae c))] (y8 (an ag.cells p) (aB h1) h2 (an ag.cells p) (aQ h3) (ba ag.cells h4 h5) h6 h7)
end lg
namespace iO
@[reducible] def fn:Func:=Tryz.f208
def aY:List dJ:=focus [0,2,0,2,0,0,2,0,0] [.code (aL fn)]
def inv1(p:List ag)(Px:Int)(x eN:ag):St:=⟨[(0,(.pv (ae p))),(3,(.ptr 3 0)),(4,(.ptr 4 0)),(5,(.ptr 5 0)),(6,(eI Px))],[(3,(.lit [(eB x.neg),(.pv (af x.num)),(.pv (af x.den))])),(4,(.lit [(eB false),(.pv (.list [])),(.pv (.list []))])),(5,(.lit [(eB eN.neg),(.pv (af eN.num)),(.pv (af eN.den))]))]⟩
@[reducible] def ah(p:List ag)(Px:Int)(x eN:ag)(r:PV):Prop:=L bu fn aY (inv1 p Px x eN) r
theorem e0(p:Rs)(x:ag){r:PV}(h1:ay ((p.length:Int)-1))(hL:ah p ((p.length:Int)-1) x (⟨false,[],[]⟩:ag) r):Cp 208 [ae p,x.pv] r :=
 eG func208 [] [.q,.q,.aR [.o,(iL p),(iI ((p.length:Int)-1))],.aG [0,3,4,5,6],.ord [3,4,5]] (y2 (an ag.cells p) (aQ h1)) hL
theorem l10(p:Rs)(b:Int)(x c d:ag)(k:Nat)(v g:ag){r:PV}(h1:0≤b)(h2:Cp 157 [c.pv,x.pv] d.pv)(h3:b=(k:Int))(h4:p[k]? = some v)(h5:Cp 86 [d.pv,v.pv] g.pv)(h6:ay (b-1))(hL:ah p (b-1) x g r):ah p b x c r :=
 lG [1,1,3] [.a,.q,.t,dr 8 1 [.none,.none,(.pv d.pv),.none,.none,(.row k (ag.cells v)),.none,(.pv g.pv)],.h 1 (iI (b-1)),.aG [0,3,4,5,6]] (y5 (bg h1) h2 (ba ag.cells h3 h4) h5 (aQ h6)) hL
theorem cB(p:Rs)(b:Int)(x c:ag)(h1:b<0):ah p b x c c.pv :=
 lD [] [.a,.q,.f,.q] (y1 (fc h1))
end iO
namespace og
theorem e1(p:Rs)(a:Int)(b:Rs)(h1:Cp 162 [ae p] (vI a))(h2:a=0)(h3:Cp 165 [ae p] (ae b)):Cp 210 [ae p] (.aF [ae b,vI 0]) :=
 eD func210 [] [.q,.h 1 (.pv (vI a)),.q,.f,.h 1 (.pv (ae b))] (y3 h1 (gr h2) h3)
end og
namespace ri
theorem e2(p q:Rs)(a:Int)(b c:Rs)(h1:Cp 237 [ae p,ae q] (vI a))(h2:a=0)(h3:q.length≠0)(h4:Cp 163 [ae p,ae q] (.aF [ae b,ae c])):Cp 211 [ae p,ae q] (.aF [ae b,ae c,vI 0]) :=
 eD func211 [] [.q,.h 2 (.pv (vI a)),.q,.f,.h 1 (iL q),.f,.h 2 (.pv (.aF [ae b,ae c])),.q] (y5 h1 (gr h2) (an ag.cells q) (aB h3) h4)
end ri
namespace oT
theorem e1(p:Rs)(c:ag)(a:Int)(b:Rs)(h1:Cp 162 [ae p] (vI a))(h2:a=0)(h3:Cp 213 [(ae []),ae p,c.pv,vI 0] (ae b)):Cp 212 [ae p,c.pv] (.aF [ae b,vI 0]) :=
 eD func212 [] [.q,.h 1 (.pv (vI a)),.q,.f,.h 2 (.pv (ae b))] (y3 h1 (gr h2) h3)
end oT
namespace gE
@[reducible] def fn:Func:=Tryz.f213
def aY:List dJ:=focus [0,2,0,2,0,2,0,0,2,0,0] [.code (aL fn)]
def inv1(shift:Int)(m:Nat)(q:List ag)(z8:Nat)(c:ag)(GI:List ag):St:=⟨[(3,(eI shift)),(6,(.ptr 6 0)),(9,(.row 19 0 m 3)),(23,(.pv (ae q))),(24,(eI (q.length:Int))),(25,(eI (z8:Int)))],[(6,(.lit [(eB c.neg),(.pv (af c.num)),(.pv (af c.den))])),(19,(.pure ((GI:List ag).map ag.cells).flatten))]⟩
@[reducible] def ah(shift:Int)(m:Nat)(q:List ag)(z8:Nat)(c:ag)(GI:List ag)(r:PV):Prop:=L bu fn aY (inv1 shift m q z8 c GI) r
theorem e0(p q:Rs)(c:ag)(a:Int)(m:Nat){r:PV}(h1:ay ((q.length:Int)+a))(h2:(max (p.length:Int) ((q.length:Int)+a))=(m:Int))(h3:56*m≤140737488355328)(h4:(min p.length m)≤(List.replicate m (⟨false,[],[]⟩:ag):Rs).length)(hL:ah a m q 0 c (p.take (min p.length m)++(List.replicate m (⟨false,[],[]⟩:ag)).drop (min p.length m)) r):Cp 213 [ae p,ae q,c.pv,vI a] r :=
 eG func213 [1,1,1,1,5,4] [.q,.aR [.o,(iL p),.o,(iL q),.o,(iI ((q.length:Int)+a)),(iI (max (p.length:Int) ((q.length:Int)+a))),(.app m ((List.replicate m (⟨false,[],[]⟩:ag):Rs).map ag.cells).flatten)],.h 2 (.app (min p.length m) (((p.take (min p.length m)++(List.replicate m (⟨false,[],[]⟩:ag)).drop (min p.length m)):Rs).map ag.cells).flatten),.h 1 (iL q),.aG [3,6,9,23,24,25],.ord [6,19]] (y7 (an ag.cells p) (an ag.cells q) (rO h1) (KD (p.length:Int) ((q.length:Int)+a)) (sj ag.cells (⟨false,[],[]⟩:ag) 56 m h2 h3 rfl) (Pr aD (List.replicate m (⟨false,[],[]⟩:ag):Rs) (p:Rs) (Eq.refl (min p.length m)) h4) (an ag.cells q)) hL
theorem l10(b:Int)(m:Nat)(q:Rs)(d:Nat)(c:ag)(g:Rs)(v:ag)(k:Nat)(v1 i j:ag)(k1:Nat){r:PV}(h1:d<q.length)(h2:q[d]? = some v)(h3:ay ((d:Int)+b))(h4:((d:Int)+b)=(k:Int))(h5:k<m)(h6:g[k]? = some v1)(h7:Cp 157 [c.pv,v.pv] i.pv)(h8:Cp 86 [v1.pv,i.pv] j.pv)(h9:((d:Int)+b)=(k1:Int))(bQ:k1<m)(dU:k1<g.length)(fP:(d+1)<9223372036854775808)(hL:ah b m q (d+1) c (g.set k1 j) r):ah b m q d c g r :=
 lG [1,3,1,1,2,2,1,1,2,2] [.a,.q,.t,.h 1 (.row d (ag.cells v)),dr 15 1 [.none,.none,.none,(iI ((d:Int)+b)),.none,.none,.none,(iI ((d:Int)+b)),(.nat k),(.JZ [vB v1.neg,af v1.num,af v1.den]),.none,.none,(.pv i.pv),(.pv j.pv),(.nat k1),(.cells (.pure (((g.set k1 j):Rs).map ag.cells).flatten))],.h 0 (iI (((d+1):Nat):Int)),.aG [3,6,9,23,24,25],.drop [11]] (EK (ai h1) (ba ag.cells (rN d) h2) (rO h3) (rO h3) (cj h4 h5) (tL aD h6) h7 h8 (cj h9 bQ) (gu aD (g:Rs) j dU) (aJ fP)) hL
theorem cB(b:Int)(m:Nat)(q:Rs)(d:Nat)(c:ag)(g i:Rs)(h1:q.length≤d)(h2:m=g.length)(h3:Cp 42 [ae g] (ae i)):ah b m q d c g (ae i) :=
 lD [1,3] [.a,.q,.f,.dH 9 ((g:Rs).map ag.cells),.h 1 (.pv (ae i))] (y3 (ar h1) (bU aD (g:Rs) h2) h3)
end gE
namespace lV
theorem e0(p q:Rs)(a:Int)(h1:Cp 162 [ae p] (vI a))(h2:a≠0):Cp 237 [ae p,ae q] (vI a) :=
 eD func237 [] [.q,.h 1 (.pv (vI a)),.q,.t,.q] (y2 h1 (kg h2))
theorem e1(p q:Rs)(a b:Int)(h1:Cp 162 [ae p] (vI a))(h2:a=0)(h3:Cp 162 [ae q] (vI b)):Cp 237 [ae p,ae q] (vI b) :=
 eD func237 [] [.q,.h 1 (.pv (vI a)),.q,.f,.h 1 (.pv (vI b))] (y3 h1 (gr h2) h3)
end lV
namespace nM
theorem e0   : Cp 11 [.aC] (vI 0) :=
 eD func11 [] [.q,.q,.a,.q] True.intro
theorem e1 (e : Int)  : Cp 11 [(.iface 75 (vI e))] (vI e) :=
 eD func11 [] [.q,.q,.a,.q,.q,.a,.q] True.intro
end nM
namespace wE
theorem e0(a b:ak)(c d:ByteArray)(h1:Cp 75 [a.pv] b.pv)(h2:Cp 31 [b.lo.pv] (.str c))(h3:c.size+(ByteArray.mk #[46,46]).size<9223372036854775808)(h4:Cp 31 [b.hi.pv] (.str d))(h5:(c++(ByteArray.mk #[46,46])).size+d.size<9223372036854775808):Cp 30 [a.pv] (.str ((c++(ByteArray.mk #[46,46]))++d)) :=
 eD func30 [] [.q,.h 1 (.pv b.pv),dr 8 1 [.none,.none,(.pv (.str c)),(.pv (.str (c++(ByteArray.mk #[46,46])))),.none,.none,(.pv (.str d)),(.pv (.str ((c++(ByteArray.mk #[46,46]))++d)))]] (y5 h1 h2 (yi h3) h4 (yi h5))
end wE
namespace eO
@[reducible] def fn:Func:=Tryz.f46
def aY:List dJ:=focus [0,2,0,0,2,1,2,0,0,2,0,0] [.code (aL fn)]
def inv1(a b:List ag)(Dp:Nat):St:=⟨[(0,(.pv (ae a))),(1,(.pv (ae b))),(5,(eI (Dp:Int)))],[]⟩
@[reducible] def ah(a b:List ag)(Dp:Nat)(r:PV):Prop:=L bu fn aY (inv1 a b Dp) r
theorem e0(a b:Rs)(h1:a.length≠b.length):Cp 46 [ae a,ae b] (vB false) :=
 eD func46 [] [.q,.aR [.o,(iL a),.o,(iL b)],.t,.q] (y3 (an ag.cells a) (an ag.cells b) (dj h1))
theorem e1(a b:Rs){r:PV}(h1:a.length=b.length)(hL:ah a b 0 r):Cp 46 [ae a,ae b] r :=
 eG func46 [] [.q,.aR [.o,(iL a),.o,(iL b)],.f,.q,.aG [0,1,5]] (y3 (an ag.cells a) (an ag.cells b) (dk h1)) hL
theorem l10(a b:Rs)(c:Nat)(v v1:ag)(d:Bool)(h1:c<a.length)(h2:a[c]? = some v)(h3:b[c]? = some v1)(h4:Cp 96 [v.pv,v1.pv] (vB d))(h5:d=false):ah a b c (vB false) :=
 lD [1,1,3,3] [.a,.h 2 (iL a),.t,dr 10 0 [.none,.none,(.row c (ag.cells v)),.none,.none,.none,(.row c (ag.cells v1)),.none,(.pv (vB d))],.t,.q] (y6 (an ag.cells a) (ai h1) (ba ag.cells (rN c) h2) (ba ag.cells (rN c) h3) h4 (dm h5))
theorem cB(a b:Rs)(c:Nat)(v v1:ag)(d:Bool){r:PV}(h1:c<a.length)(h2:a[c]? = some v)(h3:b[c]? = some v1)(h4:Cp 96 [v.pv,v1.pv] (vB d))(h5:d=true)(h6:(c+1)<9223372036854775808)(hL:ah a b (c+1) r):ah a b c r :=
 lG [1,1,3,3] [.a,.h 2 (iL a),.t,dr 10 0 [.none,.none,(.row c (ag.cells v)),.none,.none,.none,(.row c (ag.cells v1)),.none,(.pv (vB d))],.f,.h 1 (iI (((c+1):Nat):Int)),.aG [0,1,5]] (y7 (an ag.cells a) (ai h1) (ba ag.cells (rN c) h2) (ba ag.cells (rN c) h3) h4 (bw h5) (aJ h6)) hL
theorem jT(a b:Rs)(c:Nat)(h1:a.length≤c):ah a b c (vB true) :=
 lD [] [.a,.h 2 (iL a),.f,.q] (y2 (an ag.cells a) (ar h1))
end eO
namespace qf
theorem e0(a b:ak)(c d:Bool)(h1:Cp 97 [a.lo.pv,b.lo.pv] (vB c))(h2:c=true)(h3:Cp 97 [a.hi.pv,b.hi.pv] (vB d)):Cp 47 [a.pv,b.pv] (vB d) :=
 eD func47 [] [.q,.aR [.o,.o,.o,.o,(.pv (vB c)),.o,.o,.o,.o,.o,(.pv (vB d)),(.dec true)]] (y8 h1 h2 h2 h2 h2 h2 h3 h2)
end qf
namespace uI
theorem e0(x a b:ag)(h1:Cp 62 [x.pv,(⟨false,[],[]⟩:ag).pv] a.pv)(h2:Cp 62 [x.pv,(⟨false,[],[]⟩:ag).pv] b.pv):Cp 73 [x.pv] ((⟨a,b⟩:ak).pv) :=
 eD func73 [] [.q,dr 7 1 [.none,.none,(.pv a.pv),.none,.none,(.pv b.pv)]] (y2 h1 h2)
end uI
namespace qg
theorem e0(a:ak)(b:Bool)(h1:Cp 142 [a.pv] (vB b))(h2:b=false):Cp 75 [a.pv] ((⟨(⟨false,[],[]⟩:ag),(⟨false,[],[]⟩:ag)⟩:ak).pv) :=
 eD func75 [] [.q,.h 1 (.pv (vB b)),.t,.q] (y2 h1 (dm h2))
theorem e1(a:ak)(b:Bool)(c d:ag)(h1:Cp 142 [a.pv] (vB b))(h2:b=true)(h3:Cp 62 [a.lo.pv,(⟨false,[],[]⟩:ag).pv] c.pv)(h4:Cp 62 [a.hi.pv,(⟨false,[],[]⟩:ag).pv] d.pv):Cp 75 [a.pv] ((⟨c,d⟩:ak).pv) :=
 eD func75 [] [.q,.h 1 (.pv (vB b)),.f,dr 9 1 [.none,.none,.none,(.pv c.pv),.none,.none,.none,(.pv d.pv)]] (y4 h1 (bw h2) h3 h4)
end qg
namespace kI
theorem e0(a b:ag)(c d:Bool)(h1:a.neg=b.neg)(h2:Cp 167 [af a.num,af b.num] (vB c))(h3:c=true)(h4:Cp 167 [af a.den,af b.den] (vB d)):Cp 96 [a.pv,b.pv] (vB d) :=
 eD func96 [] [.q,.aR [.o,.o,.o,.o,.o,.o,.o,.o,.o,.o,(.pv (vB c)),(.dec true),.o,.o,.o,.o,.o,(.pv (vB d)),(.dec true)]] (Nv (qR h1) (qR h1) (qR h1) (qR h1) (qR h1) h2 (qR h1) h3 h3 h3 h3 h3 h4 h3)
theorem e1(a b:ag)(c:Bool)(h1:a.neg=b.neg)(h2:Cp 167 [af a.num,af b.num] (vB c))(h3:c=false):Cp 96 [a.pv,b.pv] (vB false) :=
 eD func96 [] [.q,.aR [.o,.o,.o,.o,.o,.o,.o,.o,.o,.o,(.pv (vB c)),(.dec true),.o,.skip,.skip,.skip,.skip,.skip,(.dec false)]] (IG (qR h1) (qR h1) (qR h1) (qR h1) (qR h1) h2 (qR h1) h3 h3 h3 h3 h3 h3)
theorem e2(a b:ag)(h1:a.neg≠b.neg):Cp 96 [a.pv,b.pv] (vB false) :=
 eD func96 [] [.q,.aR [.o,.o,.o,.o,.o,.o,.skip,.skip,.skip,.skip,.skip,(.dec false),.o,.skip,.skip,.skip,.skip,.skip]] (EK (wz h1) (wz h1) (wz h1) (wz h1) (wz h1) (wz h1) rF rF rF rF rF)
end kI
namespace yx
theorem e0(a b:ak)(c d g:ag)(h1:Cp 75 [a.pv] b.pv)(h2:Cp 179 [] c.pv)(h3:Cp 62 [b.lo.pv,b.hi.pv] d.pv)(h4:Cp 117 [c.pv,d.pv] g.pv):Cp 127 [a.pv] g.pv :=
 eD func127 [] [.q,.h 1 (.pv b.pv),dr 7 1 [(.pv c.pv),.none,.none,.none,.none,(.pv d.pv),(.pv g.pv)]] (y4 h1 h2 h3 h4)
end yx
namespace mQ
theorem e0(a:ak)(b c:Bool)(d:Int)(h1:Cp 102 [a.lo.pv] (vB b))(h2:b=true)(h3:Cp 102 [a.hi.pv] (vB c))(h4:c=true)(h5:Cp 17 [a.lo.pv,a.hi.pv] (vI d)):Cp 142 [a.pv] (vB (decide (d≤0))) :=
 eD func142 [] [.q,.aR [.o,.o,(.pv (vB b)),.o,.o,.o,(.pv (vB c)),(.dec true),.o,.o,.o,.o,.o,(.pv (vI d)),.o,(.dec true)]] (Nv h1 h2 h2 h2 h3 h2 h4 h4 h4 h4 h4 h5 h4 h4)
theorem e1(a:ak)(b c:Bool)(h1:Cp 102 [a.lo.pv] (vB b))(h2:b=true)(h3:Cp 102 [a.hi.pv] (vB c))(h4:c=false):Cp 142 [a.pv] (vB false) :=
 eD func142 [] [.q,.aR [.o,.o,(.pv (vB b)),.o,.o,.o,(.pv (vB c)),(.dec true),.o,.skip,.skip,.skip,.skip,.skip,.skip,(.dec false)]] (IG h1 h2 h2 h2 h3 h2 h4 h4 h4 h4 h4 h4 h4)
theorem e2(a:ak)(b:Bool)(h1:Cp 102 [a.lo.pv] (vB b))(h2:b=false):Cp 142 [a.pv] (vB false) :=
 eD func142 [] [.q,.aR [.o,.o,(.pv (vB b)),.o,.skip,.skip,.skip,(.dec false),.o,.skip,.skip,.skip,.skip,.skip,.skip]] (EK h1 h2 h2 h2 h2 rF rF rF rF rF rF)
end mQ
namespace ei
@[reducible] def fn:Func:=Tryz.f167
def aY:List dJ:=focus [0,2,0,0,2,1,2,0,0,2,0,0] [.code (aL fn)]
def inv1(a b:List UInt32)(Dp:Nat):St:=⟨[(0,(.pv (af a))),(1,(.pv (af b))),(5,(eI (Dp:Int)))],[]⟩
@[reducible] def ah(a b:List UInt32)(Dp:Nat)(r:PV):Prop:=L bu fn aY (inv1 a b Dp) r
theorem e0(a b:Ws)(h1:a.length≠b.length):Cp 167 [af a,af b] (vB false) :=
 eD func167 [] [.q,.aR [.o,(iL a),.o,(iL b)],.t,.q] (y3 (an aj a) (an aj b) (dj h1))
theorem e1(a b:Ws){r:PV}(h1:a.length=b.length)(hL:ah a b 0 r):Cp 167 [af a,af b] r :=
 eG func167 [] [.q,.aR [.o,(iL a),.o,(iL b)],.f,.q,.aG [0,1,5]] (y3 (an aj a) (an aj b) (dk h1)) hL
theorem l10(a b:Ws)(c:Nat)(v v1:UInt32)(h1:c<a.length)(h2:a[c]? = some v)(h3:b[c]? = some v1)(h4:v.toNat≠v1.toNat):ah a b c (vB false) :=
 lD [1,1,3,3] [.a,.h 2 (iL a),.t,dr 9 0 [.none,.none,(.row c (aj v)),.none,.none,.none,(.row c (aj v1))],.t,.q] (y5 (an aj a) (ai h1) (ba aj (rN c) h2) (ba aj (rN c) h3) (dj h4))
theorem cB(a b:Ws)(c:Nat)(v v1:UInt32){r:PV}(h1:c<a.length)(h2:a[c]? = some v)(h3:b[c]? = some v1)(h4:v.toNat=v1.toNat)(h5:(c+1)<9223372036854775808)(hL:ah a b (c+1) r):ah a b c r :=
 lG [1,1,3,3] [.a,.h 2 (iL a),.t,dr 9 0 [.none,.none,(.row c (aj v)),.none,.none,.none,(.row c (aj v1))],.f,.h 1 (iI (((c+1):Nat):Int)),.aG [0,1,5]] (y6 (an aj a) (ai h1) (ba aj (rN c) h2) (ba aj (rN c) h3) (dk h4) (aJ h5)) hL
theorem jT(a b:Ws)(c:Nat)(h1:a.length≤c):ah a b c (vB true) :=
 lD [] [.a,.h 2 (iL a),.f,.q] (y2 (an aj a) (ar h1))
end ei
namespace wF
theorem e0(a:ag)(b:Option Int)(h1:Cp 224 [vI 1,vI 2] (.aF [a.pv,bW b])):Cp 179 [] a.pv :=
 eD func179 [] [.q,.h 0 (.pv (.aF [a.pv,bW b])),.q] (y1 h1)
end wF
namespace rj
theorem e0(a b:ak)(c:ag)(d:Int)(g i:ag)(h1:Cp 235 [a.pv] b.pv)(h2:Cp 236 [vI 1,vI 2] (.aF [c.pv,vI d]))(h3:Cp 86 [b.lo.pv,b.hi.pv] g.pv)(h4:Cp 157 [c.pv,g.pv] i.pv):Cp 209 [a.pv] i.pv :=
 eD func209 [] [.q,.h 1 (.pv b.pv),.h 0 (.pv (.aF [c.pv,vI d])),dr 7 1 [.none,.none,.none,.none,.none,(.pv g.pv),(.pv i.pv)]] (y4 h1 h2 h3 h4)
end rj
namespace oV
theorem e1(a:ak)(b:Bool)(h1:Cp 245 [a.pv] (vB b))(h2:b=true):Cp 235 [a.pv] a.pv :=
 eD func235 [] [.q,.h 1 (.pv (vB b)),.f,.q] (y2 h1 (bw h2))
end oV
namespace iE
theorem e0(a:ak)(b c:Bool)(d:Int)(h1:Cp 50 [a.lo.pv] (vB b))(h2:b=true)(h3:Cp 50 [a.hi.pv] (vB c))(h4:c=true)(h5:Cp 45 [a.lo.pv,a.hi.pv] (vI d)):Cp 245 [a.pv] (vB (decide (d≤0))) :=
 eD func245 [] [.q,.aR [.o,.o,(.pv (vB b)),.o,.o,.o,(.pv (vB c)),(.dec true),.o,.o,.o,.o,.o,(.pv (vI d)),.o,(.dec true)]] (Nv h1 h2 h2 h2 h3 h2 h4 h4 h4 h4 h4 h5 h4 h4)
theorem e1(a:ak)(b c:Bool)(h1:Cp 50 [a.lo.pv] (vB b))(h2:b=true)(h3:Cp 50 [a.hi.pv] (vB c))(h4:c=false):Cp 245 [a.pv] (vB false) :=
 eD func245 [] [.q,.aR [.o,.o,(.pv (vB b)),.o,.o,.o,(.pv (vB c)),(.dec true),.o,.skip,.skip,.skip,.skip,.skip,.skip,(.dec false)]] (IG h1 h2 h2 h2 h3 h2 h4 h4 h4 h4 h4 h4 h4)
theorem e2(a:ak)(b:Bool)(h1:Cp 50 [a.lo.pv] (vB b))(h2:b=false):Cp 245 [a.pv] (vB false) :=
 eD func245 [] [.q,.aR [.o,.o,(.pv (vB b)),.o,.skip,.skip,.skip,(.dec false),.o,.skip,.skip,.skip,.skip,.skip,.skip]] (EK h1 h2 h2 h2 h2 rF rF rF rF rF rF)
end iE
namespace wG
theorem e0(p:Rs)(b:ag)(c:List (Rs))(d:ag)(z:List ak)(h1:Cp 129 [ae p] (.aF [b.pv,.aC]))(h2:Cp 130 [ae p] (.aF [(bB lR c),.aC]))(h3:Cp 128 [b.pv] d.pv)(h4:au bu 131 [.pv .ek,.pv (ae p),.pv (bB lR c),.pv d.pv,.pv b.pv] [] (.row 0 0 z.length 6) [(0,(pC ak.cells z))]):Cp 68 [ae p] (.aF [bB ak.cells z,.aC]) :=
 eD func68 [1,1,1,1,3] [.q,.h 1 (.pv (.aF [b.pv,.aC])),.q,.a,.h 1 (.pv (.aF [(bB lR c),.aC])),.q,.a,dr 5 3 [.none,.none,.none,(.pv d.pv),.none,(.bJ [] (some (0,28)) (.row 0 0 z.length 6) [(0,(pC ak.cells z))])],.dH 2 ((z:List ak).map ak.cells)] (y5 h1 h2 h3 h4 (bU gw (z:List ak) (Eq.refl (z:List ak).length)))
end wG
namespace nA
theorem e1(p:Rs)(a:ag)(b:Int)(c:List (Rs))(d:ag)(g:List ak)(h1:Cp 159 [ae p] (.aF [a.pv,vI b]))(h2:b=0)(h3:Cp 161 [ae p] (bB lR c))(h4:Cp 149 [a.pv] d.pv)(h5:Cp 160 [(bB lR c),d.pv,a.pv] (bB ak.cells g)):Cp 93 [ae p] (.aF [bB ak.cells g,vI 0]) :=
 eD func93 [] [.q,.h 1 (.pv (.aF [a.pv,vI b])),.q,.f,dr 6 2 [.none,(.pv (bB lR c)),.none,(.pv d.pv),.none,(.pv (bB ak.cells g))]] (y5 h1 (gr h2) h3 h4 h5)
end nA
namespace tO
theorem e0(p:Rs)(rV:ak)(b:Bool)(c:Option Int)(h1:Cp 175 [ae p] .aC)(h2:Cp 176 [ae p,rV.pv] (.aF [vB b,bW c])):Cp 124 [ae p,rV.pv] (.aF [vB b,bW c]) :=
 eD func124 [] [.q,.h 1 (.pv .aC),.q,.a,.h 2 (.pv (.aF [vB b,bW c]))] (y2 h1 h2)
end tO
namespace jc
@[reducible] def fn:Func:=Tryz.f129
def aY:List dJ:=focus [0,2,0,0,2,0,2,1,2,0,2,0,0,2,0,0] [.code (aL fn)]
def inv1(p:List ag)(pP:Nat)(eN:ag):St:=⟨[(0,(.pv (ae p))),(2,(.ptr 2 0)),(5,(.ptr 5 0)),(17,(.pv (ae p))),(18,(eI (p.length:Int))),(19,(eI (pP:Int)))],[(2,(.lit [(eB false),(.pv (.list [])),(.pv (.list []))])),(5,(.lit [(eB eN.neg),(.pv (af eN.num)),(.pv (af eN.den))]))]⟩
@[reducible] def ah(p:List ag)(pP:Nat)(eN:ag)(r:PV):Prop:=L bu fn aY (inv1 p pP eN) r
def kZ:List dJ:=focus [0,2,0,0,2,0,2,1,2,0,2,0,0,2,0,0,0,0,2,0,0,2,0,0,0,2,0,2,0,0,2,1,2,0,0] [.code (aL fn)]
def inv2(p:List ag)(pP:Nat)(eN div:ag):St:=⟨[(0,(.pv (ae p))),(2,(.ptr 2 0)),(5,(.ptr 5 0)),(8,(.ptr 8 0)),(17,(.pv (ae p))),(18,(eI (p.length:Int))),(19,(eI (pP:Int)))],[(2,(.lit [(eB false),(.pv (.list [])),(.pv (.list []))])),(5,(.lit [(eB eN.neg),(.pv (af eN.num)),(.pv (af eN.den))])),(8,(.lit [(eB div.neg),(.pv (af div.num)),(.pv (af div.den))]))]⟩
@[reducible] def a8(p:List ag)(pP:Nat)(eN div:ag)(r:PV):Prop:=L bu fn kZ (inv2 p pP eN div) r
theorem e0(p:Rs)(of:ag){r:PV}(h1:Cp 175 [ae p] .aC)(h2:Cp 18 [vI 1] of.pv)(hL:ah p 0 of r):Cp 129 [ae p] r :=
 eG func129 [] [.q,.h 1 (.pv .aC),.q,.a,.h 0 (.pv of.pv),.h 1 (iL p),.aG [0,2,5,17,18,19],.ord [2,5]] (y3 h1 h2 (an ag.cells p)) hL
theorem l10(p:Rs)(b:Nat)(c v:ag)(k:Nat)(v1 d:ag){r:PV}(h1:b<p.length)(h2:p[b]? = some v)(h3:ay ((p.length:Int)-1))(h4:((p.length:Int)-1)=(k:Int))(h5:p[k]? = some v1)(h6:Cp 180 [v.pv,v1.pv] (.aF [d.pv,.aC]))(hL:a8 p b c d r):ah p b c r :=
 lG [1,3,1,1,3] [.a,.q,.t,.h 0 (.row b (ag.cells v)),dr 13 1 [.none,.none,.none,(iL p),(iI ((p.length:Int)-1)),(.row k (ag.cells v1)),.none,(.pv (.aF [d.pv,.aC]))],.q,.a,.aG [0,2,5,8,17,18,19],.drop [7],.ord [2,5,8]] (y6 (ai h1) (ba ag.cells (rN b) h2) (an ag.cells p) (aQ h3) (ba ag.cells h4 h5) h6) hL
theorem jT(p:Rs)(b:Nat)(c:ag)(h1:p.length≤b):ah p b c (.aF [c.pv,.aC]) :=
 lD [] [.a,.q,.f,.q] (y1 (ar h1))
theorem uF(p:Rs)(b:Nat)(c d of g i:ag)(j:Int)(k:ag){r:PV}(h1:Cp 18 [vI 1] of.pv)(h2:Cp 181 [d.pv] g.pv)(h3:Cp 62 [of.pv,g.pv] i.pv)(h4:Cp 17 [c.pv,i.pv] (vI j))(h5:j<0)(h6:Cp 62 [c.pv,c.pv] k.pv)(hL:a8 p b k d r):a8 p b c d r :=
 lG [] [.a,dr 7 0 [.none,(.pv of.pv),.none,(.pv g.pv),(.pv i.pv),(.pv (vI j))],.t,.h 2 (.pv k.pv),.aG [0,2,5,8,17,18,19]] (y6 h1 h2 h3 h4 (bA h5) h6) hL
theorem xe(p:Rs)(b:Nat)(c d of g i:ag)(j:Int){r:PV}(h1:Cp 18 [vI 1] of.pv)(h2:Cp 181 [d.pv] g.pv)(h3:Cp 62 [of.pv,g.pv] i.pv)(h4:Cp 17 [c.pv,i.pv] (vI j))(h5:0≤j)(h6:(b+1)<9223372036854775808)(hL:ah p (b+1) c r):a8 p b c d r :=
 lG [] [.a,dr 7 0 [.none,(.pv of.pv),.none,(.pv g.pv),(.pv i.pv),(.pv (vI j))],.f,.h 0 (iI (((b+1):Nat):Int)),.aG [0,2,5,17,18,19],.drop [8]] (y6 h1 h2 h3 h4 (bm h5) (aJ h6)) hL
end jc
namespace oh
@[reducible] def fn:Func:=Tryz.f130
def aY:List dJ:=focus [0,2,0,2,0,0,2,1,2,0,2,0,0,2,1,2,0,2,0,0,0] [.code (aL fn)]
def inv1(d_6:List ag)(o8:List (List ag)):St:=⟨[(6,(.pv (ae d_6))),(7,(.row 28 0 o8.length 1))],[(28,(.pure ((o8:List (List ag)).map (bp ag.cells)).flatten))]⟩
@[reducible] def ah(d_6:List ag)(o8:List (List ag))(r:PV):Prop:=L bu fn aY (inv1 d_6 o8) r
theorem e0(p b c:Rs){r:PV}(h1:Cp 69 [ae p] (.aF [ae b,.aC]))(h2:Cp 122 [ae b] (.aF [ae c,.aC]))(hL:ah c [b] r):Cp 130 [ae p] r :=
 eG func130 [] [.q,.h 1 (.pv (.aF [ae b,.aC])),.q,.a,.h 1 (.pv (.aF [ae c,.aC])),.q,.a,.q,.aG [6,7]] (y2 h1 h2) hL
theorem l10(b:Rs)(c:List (Rs))(k:Nat)(v d g:Rs)(of:ag)(i:Rs){r:PV}(h1:0<b.length)(h2:((c++[b]):List (Rs)).length*24≤140737488355328)(h3:ay ((((c++[b]).length:Nat):Int)-2))(h4:((((c++[b]).length:Nat):Int)-2)=(k:Int))(h5:k<(c++[b]).length)(h6:(c++[b])[k]? = some v)(h7:Cp 182 [ae v,ae b] (.aF [ae d,ae g,.aC]))(h8:Cp 18 [(vI (-1))] of.pv)(h9:Cp 183 [ae g,of.pv] (.aF [ae i,.aC]))(hL:ah i (c++[b]) r):ah b c r :=
 lG [1,1,6,1,2] [.a,.h 1 (iL b),.t,.h 3 (.app ((c++[b]):List (Rs)).length (((c++[b]):List (Rs)).map lR).flatten),.aR [.o,.o,.o,(iI ((((c++[b]).length:Nat):Int)-2)),(.nat k),(.ev (.pv (ae v))),.o,(.pv (.aF [ae d,ae g,.aC]))],.q,.a,.aR [.o,(.pv of.pv),(.pv (.aF [ae i,.aC]))],.q,.a,.aG [6,7],.drop [34],.pn 35 28] (y9 (an ag.cells b) (ai h1) (fv (iM ag.cells) (c:List (Rs)) ([b]:List (Rs)) 24 (Eq.refl (c:List (Rs)).length) (Eq.refl ([b]:List (Rs)).length) h2 rfl) (aQ h3) (cj h4 h5) (fK (enc:=lR) (f:=fun a=>(ae a)) (fun _=>rfl) h6) h7 h8 h9) hL
theorem tN(b:Rs)(c:List (Rs))(h1:b.length≤0):ah b c (.aF [(bB lR c),.aC]) :=
 lD [1,1,3] [.a,.h 1 (iL b),.f,.q,.dH 2 ((c:List (Rs)).map lR)] (y3 (an ag.cells b) (ar h1) (bU (iM ag.cells) (c:List (Rs)) (Eq.refl (c:List (Rs)).length)))
end oh
namespace jP
@[reducible] def fn:Func:=Tryz.f131
theorem e0(p:Rs)(l:List (Rs))(lo hi:ag)(a b:Int)(h1:Cp 184 [(bB lR l),lo.pv] (vI a))(h2:Cp 184 [(bB lR l),hi.pv] (vI b))(h3:ay (a-b))(h4:(a-b)=0):au bu 131 [(.pv .ek),(.pv (ae p)),(.pv (bB lR l)),(.pv lo.pv),(.pv hi.pv)] [] (.row 0 0 0 6) [(0,(.pure (([]:List ak).map ak.cells).flatten))] :=
 HL func131 [] [.iK 0 1 6,.q,dr 7 1 [.none,.none,(.pv (vI a)),.none,.none,(.pv (vI b)),(iI (a-b))],.q,.t,.q,.pn 1 0,.drop [9,8],.ord [0]] (y4 h1 h2 (aQ h3) (aU h4))
theorem e1(p:Rs)(l:List (Rs))(lo hi:ag)(a b c d:Int)(g:ak)(h1:Cp 184 [(bB lR l),lo.pv] (vI a))(h2:Cp 184 [(bB lR l),hi.pv] (vI b))(h3:ay (a-b))(h4:(a-b)≠0)(h5:(a-b)=1)(h6:Cp 185 [ae p,lo.pv] (vI c))(h7:c≠0)(h8:Cp 185 [ae p,hi.pv] (vI d))(h9:d=0)(bQ:Cp 73 [hi.pv] g.pv)(dU:(([]:List ak)++[g]:List ak).length*112≤140737488355328):au bu 131 [(.pv .ek),(.pv (ae p)),(.pv (bB lR l)),(.pv lo.pv),(.pv hi.pv)] [] (.row 0 0 ([g].length) 6) [(0,(.pure (([g]:List ak).map ak.cells).flatten))] :=
 HL func131 [1,1,1,1,1,1,1,1,1,1,1,1,1,1,6] [.iK 0 1 6,.q,dr 7 1 [.none,.none,(.pv (vI a)),.none,.none,(.pv (vI b)),(iI (a-b))],.q,.f,.aR [.o,.o,.o,.o,.o,(.pv (vI c)),.o,(.dec true)],.t,.h 2 (.pv (vI d)),.t,.aR [.o,.o,(.pv g.pv),.o,(.app ([g]:List ak).length (([g]:List ak).map ak.cells).flatten)],.pn 39 0,.drop [38,9,8],.ord [0]] (Nx h1 h2 (aQ h3) (bf h4) (aU h5) (aU h5) (aU h5) h6 (aU h5) (aU h5) (kg h7) h8 (aU h9) bQ (fv gw ([]:List ak) ([g]:List ak) 112 (Eq.refl ([]:List ak).length) (Eq.refl ([g]:List ak).length) dU rfl))
theorem e2(p:Rs)(l:List (Rs))(lo hi:ag)(a b c d:Int)(g i:ag)(h1:Cp 184 [(bB lR l),lo.pv] (vI a))(h2:Cp 184 [(bB lR l),hi.pv] (vI b))(h3:ay (a-b))(h4:(a-b)≠0)(h5:(a-b)=1)(h6:Cp 185 [ae p,lo.pv] (vI c))(h7:c≠0)(h8:Cp 185 [ae p,hi.pv] (vI d))(h9:d≠0)(bQ:Cp 62 [lo.pv,(⟨false,[],[]⟩:ag).pv] g.pv)(dU:Cp 62 [hi.pv,(⟨false,[],[]⟩:ag).pv] i.pv)(fP:(([]:List ak)++[(⟨g,i⟩:ak)]:List ak).length*112≤140737488355328):au bu 131 [(.pv .ek),(.pv (ae p)),(.pv (bB lR l)),(.pv lo.pv),(.pv hi.pv)] [] (.row 0 0 ([(⟨g,i⟩:ak)].length) 6) [(0,(.pure (([(⟨g,i⟩:ak)]:List ak).map ak.cells).flatten))] :=
 HL func131 [1,1,1,1,1,1,1,1,1,1,1,1,1,1,1,6] [.iK 0 1 6,.q,dr 7 1 [.none,.none,(.pv (vI a)),.none,.none,(.pv (vI b)),(iI (a-b))],.q,.f,.aR [.o,.o,.o,.o,.o,(.pv (vI c)),.o,(.dec true)],.t,.h 2 (.pv (vI d)),.f,dr 9 2 [.none,.none,.none,(.pv g.pv),.none,.none,(.pv i.pv),.none,.none,(.app ([(⟨g,i⟩:ak)]:List ak).length (([(⟨g,i⟩:ak)]:List ak).map ak.cells).flatten)],.pn 49 0,.drop [48,9,8],.ord [0]] (HM h1 h2 (aQ h3) (bf h4) (aU h5) (aU h5) (aU h5) h6 (aU h5) (aU h5) (kg h7) h8 (bf h9) bQ dU (fv gw ([]:List ak) ([(⟨g,i⟩:ak)]:List ak) 112 (Eq.refl ([]:List ak).length) (Eq.refl ([(⟨g,i⟩:ak)]:List ak).length) fP rfl))
theorem GJ(p:List ag)(l:List (List ag))(lo hi xL:ag)(z z1:List ak):qF bu Fi fn [0,2,0,2,0,0,2,1,2,0,0,2,1,2,0,2,0] [0,1,2,6,7] [.none,.none,.none,.none,.none,(.bJ [(1,200000)] (some (0,59)) (.row 0 0 z.length 6) [(0,(pC ak.cells z))]),.none,.none,.none,.none,(.bJ [(59,200000)] (some (0,64)) (.row 0 0 z1.length 6) [(0,(pC ak.cells z1))]),.none] ⟨[(0,(.row 1 0 0 6)),(1,(.pv (ae p))),(2,(.pv (bB lR l))),(8,(.ptr 8 0)),(9,(.ptr 9 0)),(12,(.ptr 12 0))],[(12,(.lit [(eB xL.neg),(.pv (af xL.num)),(.pv (af xL.den))])),(9,(.lit [(eB hi.neg),(.pv (af hi.num)),(.pv (af hi.den))])),(8,(.lit [(eB lo.neg),(.pv (af lo.num)),(.pv (af lo.den))])),(1,(.pure (([]:List ak).map ak.cells).flatten))]⟩:=by unfold qF z6;kernel_rfl
theorem e3(p:Rs)(l:List (Rs))(lo hi:ag)(a b c:Int)(d:ag)(z z1:List ak)(h1:Cp 184 [(bB lR l),lo.pv] (vI a))(h2:Cp 184 [(bB lR l),hi.pv] (vI b))(h3:ay (a-b))(h4:(a-b)≠0)(h5:(a-b)=1)(h6:Cp 185 [ae p,lo.pv] (vI c))(h7:c=0)(h8:Cp 127 [(⟨lo,hi⟩:ak).pv] d.pv)(h9:au bu 131 [.row 200000 0 0 6,.pv (ae p),.pv (bB lR l),.pv lo.pv,.pv d.pv] [(200000,(.pure (([]:List ak).map ak.cells).flatten))] (.row 0 0 z.length 6) [(0,(pC ak.cells z))])(bQ:au bu 131 [.row 200000 0 z.length 6,.pv (ae p),.pv (bB lR l),.pv d.pv,.pv hi.pv] [(200000,(pC ak.cells z))] (.row 0 0 z1.length 6) [(0,(pC ak.cells z1))]):au bu 131 [(.pv .ek),(.pv (ae p)),(.pv (bB lR l)),(.pv lo.pv),(.pv hi.pv)] [] (.row 0 0 z1.length 6) [(0,(pC ak.cells z1))] :=
 HL func131 [] [.iK 0 1 6,.q,dr 7 1 [.none,.none,(.pv (vI a)),.none,.none,(.pv (vI b)),(iI (a-b))],.q,.f,.aR [.o,.o,.o,.o,.o,(.pv (vI c)),.o,(.dec true)],.f,.h 3 (.pv d.pv),.aG [0,1,2,8,9,12],.any [0,1,2,6,7] [.none,.none,.none,.none,.none,(.bJ [(1,200000)] (some (0,59)) (.row 0 0 z.length 6) [(0,(pC ak.cells z))]),.none,.none,.none,.none,(.bJ [(59,200000)] (some (0,64)) (.row 0 0 z1.length 6) [(0,(pC ak.cells z1))]),.none],.pn 64 0,.drop [12,9,8],.ord [0]] (Nx h1 h2 (aQ h3) (bf h4) (aU h5) (aU h5) (aU h5) h6 (aU h5) (aU h5) (gr h7) h8 h9 bQ (GJ p l lo hi d z z1))
theorem GK(p:List ag)(l:List (List ag))(lo hi xL:ag)(z z1:List ak):qF bu Fi fn [0,2,0,2,0,0,2,1,2,0,0,2,1,2,0,2,0] [0,1,2,6,7] [.none,.none,.none,.none,.none,(.bJ [(1,200000)] (some (0,59)) (.row 0 0 z.length 6) [(0,(pC ak.cells z))]),.none,.none,.none,.none,(.bJ [(59,200000)] (some (0,64)) (.row 0 0 z1.length 6) [(0,(pC ak.cells z1))]),.none] ⟨[(0,(.row 1 0 0 6)),(1,(.pv (ae p))),(2,(.pv (bB lR l))),(8,(.ptr 8 0)),(9,(.ptr 9 0)),(12,(.ptr 12 0))],[(12,(.lit [(eB xL.neg),(.pv (af xL.num)),(.pv (af xL.den))])),(9,(.lit [(eB hi.neg),(.pv (af hi.num)),(.pv (af hi.den))])),(8,(.lit [(eB lo.neg),(.pv (af lo.num)),(.pv (af lo.den))])),(1,(.pure (([]:List ak).map ak.cells).flatten))]⟩:=by unfold qF z6;kernel_rfl
theorem e4(p:Rs)(l:List (Rs))(lo hi:ag)(b c:Int)(d:ag)(z z1:List ak)(h1:Cp 184 [(bB lR l),lo.pv] (vI b))(h2:Cp 184 [(bB lR l),hi.pv] (vI c))(h3:ay (b-c))(h4:(b-c)≠0)(h5:(b-c)≠1)(h6:Cp 127 [(⟨lo,hi⟩:ak).pv] d.pv)(h7:au bu 131 [.row 200000 0 0 6,.pv (ae p),.pv (bB lR l),.pv lo.pv,.pv d.pv] [(200000,(.pure (([]:List ak).map ak.cells).flatten))] (.row 0 0 z.length 6) [(0,(pC ak.cells z))])(h8:au bu 131 [.row 200000 0 z.length 6,.pv (ae p),.pv (bB lR l),.pv d.pv,.pv hi.pv] [(200000,(pC ak.cells z))] (.row 0 0 z1.length 6) [(0,(pC ak.cells z1))]):au bu 131 [(.pv .ek),(.pv (ae p)),(.pv (bB lR l)),(.pv lo.pv),(.pv hi.pv)] [] (.row 0 0 z1.length 6) [(0,(pC ak.cells z1))] :=
 HL func131 [] [.iK 0 1 6,.q,dr 7 1 [.none,.none,(.pv (vI b)),.none,.none,(.pv (vI c)),(iI (b-c))],.q,.f,.aR [.o,.o,.o,.skip,.skip,.skip,.skip,(.dec false)],.a,.h 3 (.pv d.pv),.aG [0,1,2,8,9,12],.any [0,1,2,6,7] [.none,.none,.none,.none,.none,(.bJ [(1,200000)] (some (0,59)) (.row 0 0 z.length 6) [(0,(pC ak.cells z))]),.none,.none,.none,.none,(.bJ [(59,200000)] (some (0,64)) (.row 0 0 z1.length 6) [(0,(pC ak.cells z1))]),.none],.pn 64 0,.drop [12,9,8],.ord [0]] (IG h1 h2 (aQ h3) (bf h4) (bf h5) (bf h5) (bf h5) (bf h5) (bf h5) h6 h7 h8 (GK p l lo hi d z z1))
end jP
namespace jQ
@[reducible] def fn:Func:=Tryz.f131
theorem e0(a:List ak)(p:Rs)(l:List (Rs))(lo hi:ag)(b c:Int)(h1:Cp 184 [(bB lR l),lo.pv] (vI b))(h2:Cp 184 [(bB lR l),hi.pv] (vI c))(h3:ay (b-c))(h4:(b-c)=0):au bu 131 [(.row 200000 0 a.length 6),(.pv (ae p)),(.pv (bB lR l)),(.pv lo.pv),(.pv hi.pv)] [(200000,(pC ak.cells a))] (.row 0 0 a.length 6) [(0,(pC ak.cells a))] :=
 HL func131 [] [.pn 200000 1,.q,dr 7 1 [.none,.none,(.pv (vI b)),.none,.none,(.pv (vI c)),(iI (b-c))],.q,.t,.q,.pn 1 0,.drop [9,8],.ord [0]] (y4 h1 h2 (aQ h3) (aU h4))
theorem e1(a:List ak)(p:Rs)(l:List (Rs))(lo hi:ag)(b c d g:Int)(i:ak)(h1:Cp 184 [(bB lR l),lo.pv] (vI b))(h2:Cp 184 [(bB lR l),hi.pv] (vI c))(h3:ay (b-c))(h4:(b-c)≠0)(h5:(b-c)=1)(h6:Cp 185 [ae p,lo.pv] (vI d))(h7:d≠0)(h8:Cp 185 [ae p,hi.pv] (vI g))(h9:g=0)(bQ:Cp 73 [hi.pv] i.pv)(dU:((a++[i]):List ak).length*112≤140737488355328):au bu 131 [(.row 200000 0 a.length 6),(.pv (ae p)),(.pv (bB lR l)),(.pv lo.pv),(.pv hi.pv)] [(200000,(pC ak.cells a))] (.row 0 0 ((a++[i]).length) 6) [(0,(.pure (((a++[i]):List ak).map ak.cells).flatten))] :=
 HL func131 [1,1,1,1,1,1,1,1,1,1,1,1,1,1,6] [.pn 200000 1,.q,dr 7 1 [.none,.none,(.pv (vI b)),.none,.none,(.pv (vI c)),(iI (b-c))],.q,.f,.aR [.o,.o,.o,.o,.o,(.pv (vI d)),.o,(.dec true)],.t,.h 2 (.pv (vI g)),.t,.aR [.o,.o,(.pv i.pv),.o,(.app ((a++[i]):List ak).length (((a++[i]):List ak).map ak.cells).flatten)],.pn 39 0,.drop [38,9,8],.ord [0]] (Nx h1 h2 (aQ h3) (bf h4) (aU h5) (aU h5) (aU h5) h6 (aU h5) (aU h5) (kg h7) h8 (aU h9) bQ (fv gw (a:List ak) ([i]:List ak) 112 (Eq.refl (a:List ak).length) (Eq.refl ([i]:List ak).length) dU rfl))
theorem e2(a:List ak)(p:Rs)(l:List (Rs))(lo hi:ag)(b c d g:Int)(i j:ag)(h1:Cp 184 [(bB lR l),lo.pv] (vI b))(h2:Cp 184 [(bB lR l),hi.pv] (vI c))(h3:ay (b-c))(h4:(b-c)≠0)(h5:(b-c)=1)(h6:Cp 185 [ae p,lo.pv] (vI d))(h7:d≠0)(h8:Cp 185 [ae p,hi.pv] (vI g))(h9:g≠0)(bQ:Cp 62 [lo.pv,(⟨false,[],[]⟩:ag).pv] i.pv)(dU:Cp 62 [hi.pv,(⟨false,[],[]⟩:ag).pv] j.pv)(fP:((a++[(⟨i,j⟩:ak)]):List ak).length*112≤140737488355328):au bu 131 [(.row 200000 0 a.length 6),(.pv (ae p)),(.pv (bB lR l)),(.pv lo.pv),(.pv hi.pv)] [(200000,(pC ak.cells a))] (.row 0 0 ((a++[(⟨i,j⟩:ak)]).length) 6) [(0,(.pure (((a++[(⟨i,j⟩:ak)]):List ak).map ak.cells).flatten))] :=
 HL func131 [1,1,1,1,1,1,1,1,1,1,1,1,1,1,1,6] [.pn 200000 1,.q,dr 7 1 [.none,.none,(.pv (vI b)),.none,.none,(.pv (vI c)),(iI (b-c))],.q,.f,.aR [.o,.o,.o,.o,.o,(.pv (vI d)),.o,(.dec true)],.t,.h 2 (.pv (vI g)),.f,dr 9 2 [.none,.none,.none,(.pv i.pv),.none,.none,(.pv j.pv),.none,.none,(.app ((a++[(⟨i,j⟩:ak)]):List ak).length (((a++[(⟨i,j⟩:ak)]):List ak).map ak.cells).flatten)],.pn 49 0,.drop [48,9,8],.ord [0]] (HM h1 h2 (aQ h3) (bf h4) (aU h5) (aU h5) (aU h5) h6 (aU h5) (aU h5) (kg h7) h8 (bf h9) bQ dU (fv gw (a:List ak) ([(⟨i,j⟩:ak)]:List ak) 112 (Eq.refl (a:List ak).length) (Eq.refl ([(⟨i,j⟩:ak)]:List ak).length) fP rfl))
theorem GJ(out:List ak)(p:List ag)(l:List (List ag))(lo hi xL:ag)(z z1:List ak):qF bu Fi fn [0,2,0,2,0,0,2,1,2,0,0,2,1,2,0,2,0] [0,1,2,6,7] [.none,.none,.none,.none,.none,(.bJ [(1,200000)] (some (0,59)) (.row 0 0 z.length 6) [(0,(pC ak.cells z))]),.none,.none,.none,.none,(.bJ [(59,200000)] (some (0,64)) (.row 0 0 z1.length 6) [(0,(pC ak.cells z1))]),.none] ⟨[(0,(.row 1 0 out.length 6)),(1,(.pv (ae p))),(2,(.pv (bB lR l))),(8,(.ptr 8 0)),(9,(.ptr 9 0)),(12,(.ptr 12 0))],[(12,(.lit [(eB xL.neg),(.pv (af xL.num)),(.pv (af xL.den))])),(9,(.lit [(eB hi.neg),(.pv (af hi.num)),(.pv (af hi.den))])),(8,(.lit [(eB lo.neg),(.pv (af lo.num)),(.pv (af lo.den))])),(1,(pC ak.cells out))]⟩:=by unfold qF z6;kernel_rfl
theorem e3(a:List ak)(p:Rs)(l:List (Rs))(lo hi:ag)(b c d:Int)(g:ag)(z z1:List ak)(h1:Cp 184 [(bB lR l),lo.pv] (vI b))(h2:Cp 184 [(bB lR l),hi.pv] (vI c))(h3:ay (b-c))(h4:(b-c)≠0)(h5:(b-c)=1)(h6:Cp 185 [ae p,lo.pv] (vI d))(h7:d=0)(h8:Cp 127 [(⟨lo,hi⟩:ak).pv] g.pv)(h9:au bu 131 [.row 200000 0 a.length 6,.pv (ae p),.pv (bB lR l),.pv lo.pv,.pv g.pv] [(200000,(pC ak.cells a))] (.row 0 0 z.length 6) [(0,(pC ak.cells z))])(bQ:au bu 131 [.row 200000 0 z.length 6,.pv (ae p),.pv (bB lR l),.pv g.pv,.pv hi.pv] [(200000,(pC ak.cells z))] (.row 0 0 z1.length 6) [(0,(pC ak.cells z1))]):au bu 131 [(.row 200000 0 a.length 6),(.pv (ae p)),(.pv (bB lR l)),(.pv lo.pv),(.pv hi.pv)] [(200000,(pC ak.cells a))] (.row 0 0 z1.length 6) [(0,(pC ak.cells z1))] :=
 HL func131 [] [.pn 200000 1,.q,dr 7 1 [.none,.none,(.pv (vI b)),.none,.none,(.pv (vI c)),(iI (b-c))],.q,.f,.aR [.o,.o,.o,.o,.o,(.pv (vI d)),.o,(.dec true)],.f,.h 3 (.pv g.pv),.aG [0,1,2,8,9,12],.any [0,1,2,6,7] [.none,.none,.none,.none,.none,(.bJ [(1,200000)] (some (0,59)) (.row 0 0 z.length 6) [(0,(pC ak.cells z))]),.none,.none,.none,.none,(.bJ [(59,200000)] (some (0,64)) (.row 0 0 z1.length 6) [(0,(pC ak.cells z1))]),.none],.pn 64 0,.drop [12,9,8],.ord [0]] (Nx h1 h2 (aQ h3) (bf h4) (aU h5) (aU h5) (aU h5) h6 (aU h5) (aU h5) (gr h7) h8 h9 bQ (GJ a p l lo hi g z z1))
theorem GK(out:List ak)(p:List ag)(l:List (List ag))(lo hi xL:ag)(z z1:List ak):qF bu Fi fn [0,2,0,2,0,0,2,1,2,0,0,2,1,2,0,2,0] [0,1,2,6,7] [.none,.none,.none,.none,.none,(.bJ [(1,200000)] (some (0,59)) (.row 0 0 z.length 6) [(0,(pC ak.cells z))]),.none,.none,.none,.none,(.bJ [(59,200000)] (some (0,64)) (.row 0 0 z1.length 6) [(0,(pC ak.cells z1))]),.none] ⟨[(0,(.row 1 0 out.length 6)),(1,(.pv (ae p))),(2,(.pv (bB lR l))),(8,(.ptr 8 0)),(9,(.ptr 9 0)),(12,(.ptr 12 0))],[(12,(.lit [(eB xL.neg),(.pv (af xL.num)),(.pv (af xL.den))])),(9,(.lit [(eB hi.neg),(.pv (af hi.num)),(.pv (af hi.den))])),(8,(.lit [(eB lo.neg),(.pv (af lo.num)),(.pv (af lo.den))])),(1,(pC ak.cells out))]⟩:=by unfold qF z6;kernel_rfl
theorem e4(b:List ak)(p:Rs)(l:List (Rs))(lo hi:ag)(c d:Int)(g:ag)(z z1:List ak)(h1:Cp 184 [(bB lR l),lo.pv] (vI c))(h2:Cp 184 [(bB lR l),hi.pv] (vI d))(h3:ay (c-d))(h4:(c-d)≠0)(h5:(c-d)≠1)(h6:Cp 127 [(⟨lo,hi⟩:ak).pv] g.pv)(h7:au bu 131 [.row 200000 0 b.length 6,.pv (ae p),.pv (bB lR l),.pv lo.pv,.pv g.pv] [(200000,(pC ak.cells b))] (.row 0 0 z.length 6) [(0,(pC ak.cells z))])(h8:au bu 131 [.row 200000 0 z.length 6,.pv (ae p),.pv (bB lR l),.pv g.pv,.pv hi.pv] [(200000,(pC ak.cells z))] (.row 0 0 z1.length 6) [(0,(pC ak.cells z1))]):au bu 131 [(.row 200000 0 b.length 6),(.pv (ae p)),(.pv (bB lR l)),(.pv lo.pv),(.pv hi.pv)] [(200000,(pC ak.cells b))] (.row 0 0 z1.length 6) [(0,(pC ak.cells z1))] :=
 HL func131 [] [.pn 200000 1,.q,dr 7 1 [.none,.none,(.pv (vI c)),.none,.none,(.pv (vI d)),(iI (c-d))],.q,.f,.aR [.o,.o,.o,.skip,.skip,.skip,.skip,(.dec false)],.a,.h 3 (.pv g.pv),.aG [0,1,2,8,9,12],.any [0,1,2,6,7] [.none,.none,.none,.none,.none,(.bJ [(1,200000)] (some (0,59)) (.row 0 0 z.length 6) [(0,(pC ak.cells z))]),.none,.none,.none,.none,(.bJ [(59,200000)] (some (0,64)) (.row 0 0 z1.length 6) [(0,(pC ak.cells z1))]),.none],.pn 64 0,.drop [12,9,8],.ord [0]] (IG h1 h2 (aQ h3) (bf h4) (bf h5) (bf h5) (bf h5) (bf h5) (bf h5) h6 h7 h8 (GK b p l lo hi g z z1))
end jQ
namespace df
@[reducible] def fn:Func:=Tryz.f159
def aY:List dJ:=focus [0,2,0,0,2,0,2,1,2,0,2,0,0,2,0,0] [.code (aL fn)]
def inv1(p:List ag)(pP:Nat)(eN:ag):St:=⟨[(0,(.pv (ae p))),(2,(.ptr 2 0)),(5,(.ptr 5 0)),(17,(.pv (ae p))),(18,(eI (p.length:Int))),(19,(eI (pP:Int)))],[(2,(.lit [(eB false),(.pv (.list [])),(.pv (.list []))])),(5,(.lit [(eB eN.neg),(.pv (af eN.num)),(.pv (af eN.den))]))]⟩
@[reducible] def ah(p:List ag)(pP:Nat)(eN:ag)(r:PV):Prop:=L bu fn aY (inv1 p pP eN) r
def kZ:List dJ:=focus [0,2,0,0,2,0,2,1,2,0,2,0,0,2,0,0,0,0,2,0,0,2,0,0,0,2,0,2,0,0] [.code (aL fn)]
def inv2(p:List ag)(pP:Nat)(eN div:ag):St:=⟨[(0,(.pv (ae p))),(2,(.ptr 2 0)),(5,(.ptr 5 0)),(8,(.ptr 8 0)),(17,(.pv (ae p))),(18,(eI (p.length:Int))),(19,(eI (pP:Int)))],[(2,(.lit [(eB false),(.pv (.list [])),(.pv (.list []))])),(5,(.lit [(eB eN.neg),(.pv (af eN.num)),(.pv (af eN.den))])),(8,(.lit [(eB div.neg),(.pv (af div.num)),(.pv (af div.den))]))]⟩
@[reducible] def a8(p:List ag)(pP:Nat)(eN div:ag)(r:PV):Prop:=L bu fn kZ (inv2 p pP eN div) r
theorem e1(p:Rs)(a:Int)(of:ag){r:PV}(h1:Cp 204 [ae p] (vI a))(h2:a=0)(h3:Cp 36 [vI 1] of.pv)(hL:ah p 0 of r):Cp 159 [ae p] r :=
 eG func159 [] [.q,.h 1 (.pv (vI a)),.q,.f,.h 0 (.pv of.pv),.h 1 (iL p),.aG [0,2,5,17,18,19],.ord [2,5]] (y4 h1 (gr h2) h3 (an ag.cells p)) hL
theorem l10(p:Rs)(b:Nat)(c v:ag)(k:Nat)(v1 d:ag)(g:Int){r:PV}(h1:b<p.length)(h2:p[b]? = some v)(h3:ay ((p.length:Int)-1))(h4:((p.length:Int)-1)=(k:Int))(h5:p[k]? = some v1)(h6:Cp 205 [v.pv,v1.pv] (.aF [d.pv,vI g]))(hL:a8 p b c d r):ah p b c r :=
 lG [1,3,1,1,3] [.a,.q,.t,.h 0 (.row b (ag.cells v)),dr 13 1 [.none,.none,.none,(iL p),(iI ((p.length:Int)-1)),(.row k (ag.cells v1)),.none,(.pv (.aF [d.pv,vI g]))],.aG [0,2,5,8,17,18,19],.drop [7],.ord [2,5,8]] (y6 (ai h1) (ba ag.cells (rN b) h2) (an ag.cells p) (aQ h3) (ba ag.cells h4 h5) h6) hL
theorem cB(p:Rs)(b:Nat)(c:ag)(h1:p.length≤b):ah p b c (.aF [c.pv,vI 0]) :=
 lD [] [.a,.q,.f,.q] (y1 (ar h1))
theorem uF(p:Rs)(b:Nat)(c d g of i:ag)(j:Int)(k:ag){r:PV}(h1:Cp 206 [d.pv] g.pv)(h2:Cp 36 [vI 1] of.pv)(h3:Cp 86 [g.pv,of.pv] i.pv)(h4:Cp 45 [c.pv,i.pv] (vI j))(h5:j<0)(h6:Cp 86 [c.pv,c.pv] k.pv)(hL:a8 p b k d r):a8 p b c d r :=
 lG [] [.a,dr 7 0 [.none,.none,(.pv g.pv),(.pv of.pv),(.pv i.pv),(.pv (vI j))],.t,.h 2 (.pv k.pv),.aG [0,2,5,8,17,18,19]] (y6 h1 h2 h3 h4 (bA h5) h6) hL
theorem xe(p:Rs)(b:Nat)(c d g of i:ag)(j:Int){r:PV}(h1:Cp 206 [d.pv] g.pv)(h2:Cp 36 [vI 1] of.pv)(h3:Cp 86 [g.pv,of.pv] i.pv)(h4:Cp 45 [c.pv,i.pv] (vI j))(h5:0≤j)(h6:(b+1)<9223372036854775808)(hL:ah p (b+1) c r):a8 p b c d r :=
 lG [] [.a,dr 7 0 [.none,.none,(.pv g.pv),(.pv of.pv),(.pv i.pv),(.pv (vI j))],.f,.h 0 (iI (((b+1):Nat):Int)),.aG [0,2,5,17,18,19],.drop [8]] (y6 h1 h2 h3 h4 (bm h5) (aJ h6)) hL
end df
namespace ep
theorem e0(l:List (Rs))(lo hi:ag)(a b:Int)(h1:Cp 207 [(bB lR l),lo.pv] (vI a))(h2:Cp 207 [(bB lR l),hi.pv] (vI b))(h3:ay (a-b))(h4:(a-b)=0):Cp 160 [(bB lR l),lo.pv,hi.pv] (bB ak.cells []) :=
 eD func160 [] [.q,dr 7 1 [.none,.none,(.pv (vI a)),.none,.none,(.pv (vI b)),(iI (a-b))],.q,.t,.q] (y4 h1 h2 (aQ h3) (aU h4))
theorem e1(l:List (Rs))(lo hi:ag)(a b:Int)(v:Rs)(c:ag)(d:Int)(g:ag)(i:Int)(h1:Cp 207 [(bB lR l),lo.pv] (vI a))(h2:Cp 207 [(bB lR l),hi.pv] (vI b))(h3:ay (a-b))(h4:(a-b)≠0)(h5:(a-b)=1)(h6:l[0]? = some v)(h7:Cp 208 [ae v,lo.pv] c.pv)(h8:Cp 85 [c.pv] (vI d))(h9:d≠0)(bQ:Cp 208 [ae v,hi.pv] g.pv)(dU:Cp 85 [g.pv] (vI i))(fP:i=0):Cp 160 [(bB lR l),lo.pv,hi.pv] (bB ak.cells [(⟨hi,hi⟩:ak)]) :=
 eD func160 [1,1,1,1,1,1,3,1,1,1,1,1,1,1,1,1,3,1,1,1,3] [.q,dr 7 1 [.none,.none,(.pv (vI a)),.none,.none,(.pv (vI b)),(iI (a-b))],.q,.f,dr 11 0 [.none,.none,.none,.none,(.row 0 (lR v)),.none,.none,(.pv c.pv),(.pv (vI d)),.none,(.dec true)],.t,dr 7 0 [.none,(.row 0 (lR v)),.none,.none,(.pv g.pv),(.pv (vI i))],.t,.q,.dH 6 (([(⟨hi,hi⟩:ak)]:List ak).map ak.cells)] (U4 h1 h2 (aQ h3) (bf h4) (aU h5) (aU h5) (ba lR (Eq.refl (0:Int)) h6) (aU h5) (aU h5) (aU h5) h7 (aU h5) h8 (aU h5) (aU h5) (kg h9) (ba lR (Eq.refl (0:Int)) h6) bQ dU (aU fP) (bU gw ([(⟨hi,hi⟩:ak)]:List ak) (Eq.refl ([(⟨hi,hi⟩:ak)]:List ak).length)))
theorem e2(l:List (Rs))(lo hi:ag)(a b:Int)(v:Rs)(c:ag)(d:Int)(g:ag)(i:Int)(h1:Cp 207 [(bB lR l),lo.pv] (vI a))(h2:Cp 207 [(bB lR l),hi.pv] (vI b))(h3:ay (a-b))(h4:(a-b)≠0)(h5:(a-b)=1)(h6:l[0]? = some v)(h7:Cp 208 [ae v,lo.pv] c.pv)(h8:Cp 85 [c.pv] (vI d))(h9:d≠0)(bQ:Cp 208 [ae v,hi.pv] g.pv)(dU:Cp 85 [g.pv] (vI i))(fP:i≠0):Cp 160 [(bB lR l),lo.pv,hi.pv] (bB ak.cells [(⟨lo,hi⟩:ak)]) :=
 eD func160 [1,1,1,1,1,1,3,1,1,1,1,1,1,1,1,1,3,1,1,1,3] [.q,dr 7 1 [.none,.none,(.pv (vI a)),.none,.none,(.pv (vI b)),(iI (a-b))],.q,.f,dr 11 0 [.none,.none,.none,.none,(.row 0 (lR v)),.none,.none,(.pv c.pv),(.pv (vI d)),.none,(.dec true)],.t,dr 7 0 [.none,(.row 0 (lR v)),.none,.none,(.pv g.pv),(.pv (vI i))],.f,.q,.dH 6 (([(⟨lo,hi⟩:ak)]:List ak).map ak.cells)] (U4 h1 h2 (aQ h3) (bf h4) (aU h5) (aU h5) (ba lR (Eq.refl (0:Int)) h6) (aU h5) (aU h5) (aU h5) h7 (aU h5) h8 (aU h5) (aU h5) (kg h9) (ba lR (Eq.refl (0:Int)) h6) bQ dU (bf fP) (bU gw ([(⟨lo,hi⟩:ak)]:List ak) (Eq.refl ([(⟨lo,hi⟩:ak)]:List ak).length)))
theorem e3(l:List (Rs))(lo hi:ag)(a b:Int)(v:Rs)(c:ag)(d:Int)(g:ag)(z:List ak)(n:Nat)(i:List ak)(h1:Cp 207 [(bB lR l),lo.pv] (vI a))(h2:Cp 207 [(bB lR l),hi.pv] (vI b))(h3:ay (a-b))(h4:(a-b)≠0)(h5:(a-b)=1)(h6:l[0]? = some v)(h7:Cp 208 [ae v,lo.pv] c.pv)(h8:Cp 85 [c.pv] (vI d))(h9:d=0)(bQ:Cp 209 [(⟨lo,hi⟩:ak).pv] g.pv)(dU:au bu 160 [.pv (bB lR l),.pv lo.pv,.pv g.pv] [] (.row 0 0 n 6) [(0,(pC ak.cells z))])(fP:Cp 160 [(bB lR l),g.pv,hi.pv] (bB ak.cells i))(k7:z.length=n)(oS:((z++i):List ak).length*112≤140737488355328):Cp 160 [(bB lR l),lo.pv,hi.pv] (bB ak.cells (z++i)) :=
 eD func160 [1,1,1,1,1,1,3,1,1,1,1,1,1,1,1,1,1,1,1,6,3] [.q,dr 7 1 [.none,.none,(.pv (vI a)),.none,.none,(.pv (vI b)),(iI (a-b))],.q,.f,dr 11 0 [.none,.none,.none,.none,(.row 0 (lR v)),.none,.none,(.pv c.pv),(.pv (vI d)),.none,(.dec true)],.f,.h 3 (.pv g.pv),dr 8 2 [.none,.none,.none,(.bJ [] (some (0,51)) (.row 0 0 n 6) [(0,(pC ak.cells z))]),.none,.none,.none,(.pv (bB ak.cells i)),(.app ((z++i):List ak).length (((z++i):List ak).map ak.cells).flatten)],.dH 6 (((z++i):List ak).map ak.cells)] (U4 h1 h2 (aQ h3) (bf h4) (aU h5) (aU h5) (ba lR (Eq.refl (0:Int)) h6) (aU h5) (aU h5) (aU h5) h7 (aU h5) h8 (aU h5) (aU h5) (gr h9) bQ dU fP (iw gw (z:List ak) (i:List ak) 112 k7 oS rfl) (bU gw ((z++i):List ak) (Eq.refl ((z++i):List ak).length)))
theorem e4(l:List (Rs))(lo hi:ag)(b c:Int)(d:ag)(z:List ak)(n:Nat)(g:List ak)(h1:Cp 207 [(bB lR l),lo.pv] (vI b))(h2:Cp 207 [(bB lR l),hi.pv] (vI c))(h3:ay (b-c))(h4:(b-c)≠0)(h5:(b-c)≠1)(h6:Cp 209 [(⟨lo,hi⟩:ak).pv] d.pv)(h7:au bu 160 [.pv (bB lR l),.pv lo.pv,.pv d.pv] [] (.row 0 0 n 6) [(0,(pC ak.cells z))])(h8:Cp 160 [(bB lR l),d.pv,hi.pv] (bB ak.cells g))(h9:z.length=n)(bQ:((z++g):List ak).length*112≤140737488355328):Cp 160 [(bB lR l),lo.pv,hi.pv] (bB ak.cells (z++g)) :=
 eD func160 [1,1,1,1,1,1,1,1,1,1,1,1,1,1,1,6,3] [.q,dr 7 1 [.none,.none,(.pv (vI b)),.none,.none,(.pv (vI c)),(iI (b-c))],.q,.f,dr 11 0 [.none,.none,.none,.skip,.skip,.skip,.skip,.skip,.skip,.skip,(.dec false)],.a,.h 3 (.pv d.pv),dr 8 2 [.none,.none,.none,(.bJ [] (some (0,51)) (.row 0 0 n 6) [(0,(pC ak.cells z))]),.none,.none,.none,(.pv (bB ak.cells g)),(.app ((z++g):List ak).length (((z++g):List ak).map ak.cells).flatten)],.dH 6 (((z++g):List ak).map ak.cells)] (Ny h1 h2 (aQ h3) (bf h4) (bf h5) (bf h5) (bf h5) (bf h5) (bf h5) (bf h5) (bf h5) (bf h5) h6 h7 h8 (iw gw (z:List ak) (g:List ak) 112 h9 bQ rfl) (bU gw ((z++g):List ak) (Eq.refl ((z++g):List ak).length)))
end ep
namespace dV
theorem e0(l:List (Rs))(lo hi:ag)(a b:Int)(h1:Cp 207 [(bB lR l),lo.pv] (vI a))(h2:Cp 207 [(bB lR l),hi.pv] (vI b))(h3:ay (a-b))(h4:(a-b)=0):au bu 160 [(.pv (bB lR l)),(.pv lo.pv),(.pv hi.pv)] [] (.row 0 0 0 6) [(0,(.pure (([]:List ak).map ak.cells).flatten))] :=
 HL func160 [] [.q,dr 7 1 [.none,.none,(.pv (vI a)),.none,.none,(.pv (vI b)),(iI (a-b))],.q,.t,.h 0 .nil,.iK 6 0 6,.drop [5,4],.ord [0]] (y4 h1 h2 (aQ h3) (aU h4))
theorem e1(l:List (Rs))(lo hi:ag)(a b:Int)(v:Rs)(c:ag)(d:Int)(g:ag)(i:Int)(h1:Cp 207 [(bB lR l),lo.pv] (vI a))(h2:Cp 207 [(bB lR l),hi.pv] (vI b))(h3:ay (a-b))(h4:(a-b)≠0)(h5:(a-b)=1)(h6:l[0]? = some v)(h7:Cp 208 [ae v,lo.pv] c.pv)(h8:Cp 85 [c.pv] (vI d))(h9:d≠0)(bQ:Cp 208 [ae v,hi.pv] g.pv)(dU:Cp 85 [g.pv] (vI i))(fP:i=0):au bu 160 [(.pv (bB lR l)),(.pv lo.pv),(.pv hi.pv)] [] (.row 0 0 1 6) [(0,(.pure (([(⟨hi,hi⟩:ak)]:List ak).map ak.cells).flatten))] :=
 HL func160 [1,1,1,1,1,1,3,1,1,1,1,1,1,1,1,1,3] [.q,dr 7 1 [.none,.none,(.pv (vI a)),.none,.none,(.pv (vI b)),(iI (a-b))],.q,.f,dr 11 0 [.none,.none,.none,.none,(.row 0 (lR v)),.none,.none,(.pv c.pv),(.pv (vI d)),.none,(.dec true)],.t,dr 7 0 [.none,(.row 0 (lR v)),.none,.none,(.pv g.pv),(.pv (vI i))],.t,.q,.pn 39 0,.drop [5,4],.ord [0]] (Pu h1 h2 (aQ h3) (bf h4) (aU h5) (aU h5) (ba lR (Eq.refl (0:Int)) h6) (aU h5) (aU h5) (aU h5) h7 (aU h5) h8 (aU h5) (aU h5) (kg h9) (ba lR (Eq.refl (0:Int)) h6) bQ dU (aU fP))
theorem e2(l:List (Rs))(lo hi:ag)(a b:Int)(v:Rs)(c:ag)(d:Int)(g:ag)(i:Int)(h1:Cp 207 [(bB lR l),lo.pv] (vI a))(h2:Cp 207 [(bB lR l),hi.pv] (vI b))(h3:ay (a-b))(h4:(a-b)≠0)(h5:(a-b)=1)(h6:l[0]? = some v)(h7:Cp 208 [ae v,lo.pv] c.pv)(h8:Cp 85 [c.pv] (vI d))(h9:d≠0)(bQ:Cp 208 [ae v,hi.pv] g.pv)(dU:Cp 85 [g.pv] (vI i))(fP:i≠0):au bu 160 [(.pv (bB lR l)),(.pv lo.pv),(.pv hi.pv)] [] (.row 0 0 1 6) [(0,(.pure (([(⟨lo,hi⟩:ak)]:List ak).map ak.cells).flatten))] :=
 HL func160 [1,1,1,1,1,1,3,1,1,1,1,1,1,1,1,1,3] [.q,dr 7 1 [.none,.none,(.pv (vI a)),.none,.none,(.pv (vI b)),(iI (a-b))],.q,.f,dr 11 0 [.none,.none,.none,.none,(.row 0 (lR v)),.none,.none,(.pv c.pv),(.pv (vI d)),.none,(.dec true)],.t,dr 7 0 [.none,(.row 0 (lR v)),.none,.none,(.pv g.pv),(.pv (vI i))],.f,.q,.pn 43 0,.drop [5,4],.ord [0]] (Pu h1 h2 (aQ h3) (bf h4) (aU h5) (aU h5) (ba lR (Eq.refl (0:Int)) h6) (aU h5) (aU h5) (aU h5) h7 (aU h5) h8 (aU h5) (aU h5) (kg h9) (ba lR (Eq.refl (0:Int)) h6) bQ dU (bf fP))
theorem e3(l:List (Rs))(lo hi:ag)(a b:Int)(v:Rs)(c:ag)(d:Int)(g:ag)(z:List ak)(n:Nat)(i:List ak)(h1:Cp 207 [(bB lR l),lo.pv] (vI a))(h2:Cp 207 [(bB lR l),hi.pv] (vI b))(h3:ay (a-b))(h4:(a-b)≠0)(h5:(a-b)=1)(h6:l[0]? = some v)(h7:Cp 208 [ae v,lo.pv] c.pv)(h8:Cp 85 [c.pv] (vI d))(h9:d=0)(bQ:Cp 209 [(⟨lo,hi⟩:ak).pv] g.pv)(dU:au bu 160 [.pv (bB lR l),.pv lo.pv,.pv g.pv] [] (.row 0 0 n 6) [(0,(pC ak.cells z))])(fP:Cp 160 [(bB lR l),g.pv,hi.pv] (bB ak.cells i))(k7:z.length=n)(oS:((z++i):List ak).length*112≤140737488355328):au bu 160 [(.pv (bB lR l)),(.pv lo.pv),(.pv hi.pv)] [] (.row 0 0 ((z++i).length) 6) [(0,(.pure (((z++i):List ak).map ak.cells).flatten))] :=
 HL func160 [1,1,1,1,1,1,3,1,1,1,1,1,1,1,1,1,1,1,1,6] [.q,dr 7 1 [.none,.none,(.pv (vI a)),.none,.none,(.pv (vI b)),(iI (a-b))],.q,.f,dr 11 0 [.none,.none,.none,.none,(.row 0 (lR v)),.none,.none,(.pv c.pv),(.pv (vI d)),.none,(.dec true)],.f,.h 3 (.pv g.pv),dr 8 2 [.none,.none,.none,(.bJ [] (some (0,51)) (.row 0 0 n 6) [(0,(pC ak.cells z))]),.none,.none,.none,(.pv (bB ak.cells i)),(.app ((z++i):List ak).length (((z++i):List ak).map ak.cells).flatten)],.pn 56 0,.drop [8,5,4],.ord [0]] (Pu h1 h2 (aQ h3) (bf h4) (aU h5) (aU h5) (ba lR (Eq.refl (0:Int)) h6) (aU h5) (aU h5) (aU h5) h7 (aU h5) h8 (aU h5) (aU h5) (gr h9) bQ dU fP (iw gw (z:List ak) (i:List ak) 112 k7 oS rfl))
theorem e4(l:List (Rs))(lo hi:ag)(b c:Int)(d:ag)(z:List ak)(n:Nat)(g:List ak)(h1:Cp 207 [(bB lR l),lo.pv] (vI b))(h2:Cp 207 [(bB lR l),hi.pv] (vI c))(h3:ay (b-c))(h4:(b-c)≠0)(h5:(b-c)≠1)(h6:Cp 209 [(⟨lo,hi⟩:ak).pv] d.pv)(h7:au bu 160 [.pv (bB lR l),.pv lo.pv,.pv d.pv] [] (.row 0 0 n 6) [(0,(pC ak.cells z))])(h8:Cp 160 [(bB lR l),d.pv,hi.pv] (bB ak.cells g))(h9:z.length=n)(bQ:((z++g):List ak).length*112≤140737488355328):au bu 160 [(.pv (bB lR l)),(.pv lo.pv),(.pv hi.pv)] [] (.row 0 0 ((z++g).length) 6) [(0,(.pure (((z++g):List ak).map ak.cells).flatten))] :=
 HL func160 [1,1,1,1,1,1,1,1,1,1,1,1,1,1,1,6] [.q,dr 7 1 [.none,.none,(.pv (vI b)),.none,.none,(.pv (vI c)),(iI (b-c))],.q,.f,dr 11 0 [.none,.none,.none,.skip,.skip,.skip,.skip,.skip,.skip,.skip,(.dec false)],.a,.h 3 (.pv d.pv),dr 8 2 [.none,.none,.none,(.bJ [] (some (0,51)) (.row 0 0 n 6) [(0,(pC ak.cells z))]),.none,.none,.none,(.pv (bB ak.cells g)),(.app ((z++g):List ak).length (((z++g):List ak).map ak.cells).flatten)],.pn 56 0,.drop [8,5,4],.ord [0]] (HM h1 h2 (aQ h3) (bf h4) (bf h5) (bf h5) (bf h5) (bf h5) (bf h5) (bf h5) (bf h5) (bf h5) h6 h7 h8 (iw gw (z:List ak) (g:List ak) 112 h9 bQ rfl))
end dV
namespace gd
@[reducible] def fn:Func:=Tryz.f161
def aY:List dJ:=focus [0,2,0,2,0,2,0,2,0,0,0] [.code (aL fn)]
def inv1(d_5:List ag)(BT:List (List ag)):St:=⟨[(5,(.pv (ae d_5))),(7,(.row 22 0 BT.length 1))],[(22,(.pure ((BT:List (List ag)).map (bp ag.cells)).flatten))]⟩
@[reducible] def ah(d_5:List ag)(BT:List (List ag))(r:PV):Prop:=L bu fn aY (inv1 d_5 BT) r
theorem e0(p a:Rs)(b:Int)(c:Rs)(d:Int){r:PV}(h1:Cp 94 [ae p] (.aF [ae a,vI b]))(h2:Cp 210 [ae a] (.aF [ae c,vI d]))(hL:ah c [a] r):Cp 161 [ae p] r :=
 eG func161 [] [.q,.h 1 (.pv (.aF [ae a,vI b])),.h 1 (.pv (.aF [ae c,vI d])),.q,.aG [5,7]] (y2 h1 h2) hL
theorem l10(b:Rs)(c:List (Rs))(k:Nat)(v d g:Rs)(i:Int)(of:ag)(j:Rs)(l:Int){r:PV}(h1:0<b.length)(h2:((c++[b]):List (Rs)).length*24≤140737488355328)(h3:ay ((((c++[b]).length:Nat):Int)-2))(h4:((((c++[b]).length:Nat):Int)-2)=(k:Int))(h5:k<(c++[b]).length)(h6:(c++[b])[k]? = some v)(h7:Cp 211 [ae v,ae b] (.aF [ae d,ae g,vI i]))(h8:Cp 36 [(vI (-1))] of.pv)(h9:Cp 212 [ae g,of.pv] (.aF [ae j,vI l]))(hL:ah j (c++[b]) r):ah b c r :=
 lG [1,1,6,1,2] [.a,.h 1 (iL b),.t,.h 3 (.app ((c++[b]):List (Rs)).length (((c++[b]):List (Rs)).map lR).flatten),.aR [.o,.o,.o,(iI ((((c++[b]).length:Nat):Int)-2)),(.nat k),(.ev (.pv (ae v))),.o,(.pv (.aF [ae d,ae g,vI i]))],.aR [.o,(.pv of.pv),(.pv (.aF [ae j,vI l]))],.aG [5,7],.drop [28],.pn 29 22] (y9 (an ag.cells b) (ai h1) (fv (iM ag.cells) (c:List (Rs)) ([b]:List (Rs)) 24 (Eq.refl (c:List (Rs)).length) (Eq.refl ([b]:List (Rs)).length) h2 rfl) (aQ h3) (cj h4 h5) (fK (enc:=lR) (f:=fun a=>(ae a)) (fun _=>rfl) h6) h7 h8 h9) hL
theorem cB(b:Rs)(c:List (Rs))(h1:b.length≤0):ah b c (bB lR c) :=
 lD [1,1,3] [.a,.h 1 (iL b),.f,.q,.dH 2 ((c:List (Rs)).map lR)] (y3 (an ag.cells b) (ar h1) (bU (iM ag.cells) (c:List (Rs)) (Eq.refl (c:List (Rs)).length)))
end gd
namespace rk
theorem e0(p:Rs)(h1:Cp 121 [ae p] .aC)(h2:p.length=0):Cp 175 [ae p] (.iface 75 (vI 8)) :=
 eD func175 [] [.q,.h 1 (.pv .aC),.q,.a,.h 1 (iL p),.t,.q] (y3 h1 (an ag.cells p) (aM h2))
theorem e1(p:Rs)(h1:Cp 121 [ae p] .aC)(h2:p.length≠0):Cp 175 [ae p] .aC :=
 eD func175 [] [.q,.h 1 (.pv .aC),.q,.a,.h 1 (iL p),.f,.q] (y3 h1 (an ag.cells p) (aB h2))
theorem e2(p:Rs)(b:Int)(h1:Cp 121 [ae p] (.iface 75 (vI b))):Cp 175 [ae p] (.iface 75 (vI b)) :=
 eD func175 [] [.q,.h 1 (.pv (.iface 75 (vI b))),.q,.a,.q] (y1 h1)
end rk
namespace jI
theorem e0(p:Rs)(rV:ak)(a:Bool)(h1:Cp 142 [rV.pv] (vB a))(h2:a=false):Cp 176 [ae p,rV.pv] (.aF [vB false,.aC]) :=
 eD func176 [] [.q,.h 1 (.pv (vB a)),.t,.q] (y2 h1 (dm h2))
theorem e1(p:Rs)(rV:ak)(a:Bool)(b c:Int)(h1:Cp 142 [rV.pv] (vB a))(h2:a=true)(h3:Cp 17 [rV.lo.pv,rV.hi.pv] (vI b))(h4:b=0)(h5:Cp 185 [ae p,rV.lo.pv] (vI c)):Cp 176 [ae p,rV.pv] (.aF [(vB (c==0)),.aC]) :=
 eD func176 [] [.q,.h 1 (.pv (vB a)),.f,.h 4 (.pv (vI b)),.t,.h 3 (.pv (vI c))] (y5 h1 (bw h2) h3 (aU h4) h5)
theorem e2(p:Rs)(rV:ak)(b:Bool)(c:Int)(d:Rs)(g i:Int)(h1:Cp 142 [rV.pv] (vB b))(h2:b=true)(h3:Cp 17 [rV.lo.pv,rV.hi.pv] (vI c))(h4:c≠0)(h5:Cp 69 [ae p] (.aF [ae d,.aC]))(h6:Cp 185 [ae d,rV.lo.pv] (vI g))(h7:Cp 185 [ae d,rV.hi.pv] (vI i))(h8:ay (g*i))(h9:(g*i)≠(-1)):Cp 176 [ae p,rV.pv] (.aF [vB false,.aC]) :=
 eD func176 [] [.q,.h 1 (.pv (vB b)),.f,.h 4 (.pv (vI c)),.f,.h 1 (.pv (.aF [ae d,.aC])),.q,.a,dr 10 0 [.none,.none,.none,(.pv (vI g)),.none,.none,.none,(.pv (vI i)),(iI (g*i))],.t,.q] (y9 h1 (bw h2) h3 (bf h4) h5 h6 h7 (pL h8) (kg h9))
theorem e3(p:Rs)(rV:ak)(b:Bool)(c:Int)(d:Rs)(g i j:Int)(k:Option Int)(h1:Cp 142 [rV.pv] (vB b))(h2:b=true)(h3:Cp 17 [rV.lo.pv,rV.hi.pv] (vI c))(h4:c≠0)(h5:Cp 69 [ae p] (.aF [ae d,.aC]))(h6:Cp 185 [ae d,rV.lo.pv] (vI g))(h7:Cp 185 [ae d,rV.hi.pv] (vI i))(h8:ay (g*i))(h9:(g*i)=(-1))(bQ:Cp 223 [ae p,rV.lo.pv,rV.hi.pv] (.aF [vI j,bW k])):Cp 176 [ae p,rV.pv] (.aF [(vB (j==1)),bW k]) :=
 eD func176 [] [.q,.h 1 (.pv (vB b)),.f,.h 4 (.pv (vI c)),.f,.h 1 (.pv (.aF [ae d,.aC])),.q,.a,dr 10 0 [.none,.none,.none,(.pv (vI g)),.none,.none,.none,(.pv (vI i)),(iI (g*i))],.f,.h 5 (.pv (.aF [vI j,bW k])),.q] (JT h1 (bw h2) h3 (bf h4) h5 h6 h7 (pL h8) (gr h9) bQ)
end jI
namespace iy
@[reducible] def fn:Func:=Tryz.f184
def aY:List dJ:=focus [0,2,0,2,0,0,2,0,0] [.code (aL fn)]
def inv1(PB:Nat)(xk:Int)(l:List (List ag))(rS:Nat)(x:ag):St:=⟨[(3,(.ptr 3 0)),(5,(eI (PB:Int))),(6,(eI xk)),(10,(.pv (bB (bp ag.cells) l))),(11,(eI (l.length:Int))),(12,(eI (rS:Int)))],[(3,(.lit [(eB x.neg),(.pv (af x.num)),(.pv (af x.den))]))]⟩
@[reducible] def ah(PB:Nat)(xk:Int)(l:List (List ag))(rS:Nat)(x:ag)(r:PV):Prop:=L bu fn aY (inv1 PB xk l rS x) r
theorem e0 (l : List (Rs)) (x : ag) {r : PV}  (hL : ah 0 0 l 0 x r) : Cp 184 [(bB lR l), x.pv] r :=
 eG func184 [] [.q,.q,.h 1 (iL l),.aG [3,5,6,10,11,12]] (y1 (an lR l)) hL
theorem l10(b:Nat)(c:Int)(l:List (Rs))(d:Nat)(x:ag)(v:Rs)(g:Int){r:PV}(h1:d<l.length)(h2:l[d]? = some v)(h3:Cp 185 [ae v,x.pv] (vI g))(h4:g≠0)(h5:ay (-c))(h6:g=(-c))(h7:(b+1)<9223372036854775808)(h8:(d+1)<9223372036854775808)(hL:ah (b+1) g l (d+1) x r):ah b c l d x r :=
 lG [1,3] [.a,.q,.t,.h 0 (.row d (lR v)),.h 2 (.pv (vI g)),.q,.t,.h 2 (iI (-c)),.t,.h 1 (iI (((b+1):Nat):Int)),.q,.h 0 (iI (((d+1):Nat):Int)),.aG [3,5,6,10,11,12]] (y8 (ai h1) (ba lR (rN d) h2) h3 (kg h4) (De h5) (aU h6) (aJ h7) (aJ h8)) hL
theorem cB(b:Nat)(c:Int)(l:List (Rs))(d:Nat)(x:ag)(v:Rs)(g:Int){r:PV}(h1:d<l.length)(h2:l[d]? = some v)(h3:Cp 185 [ae v,x.pv] (vI g))(h4:g≠0)(h5:ay (-c))(h6:g≠(-c))(h7:(d+1)<9223372036854775808)(hL:ah b g l (d+1) x r):ah b c l d x r :=
 lG [1,3] [.a,.q,.t,.h 0 (.row d (lR v)),.h 2 (.pv (vI g)),.q,.t,.h 2 (iI (-c)),.f,.q,.h 0 (iI (((d+1):Nat):Int)),.aG [3,5,6,10,11,12]] (y7 (ai h1) (ba lR (rN d) h2) h3 (kg h4) (De h5) (bf h6) (aJ h7)) hL
theorem jT(b:Nat)(c:Int)(l:List (Rs))(d:Nat)(x:ag)(v:Rs)(g:Int){r:PV}(h1:d<l.length)(h2:l[d]? = some v)(h3:Cp 185 [ae v,x.pv] (vI g))(h4:g=0)(h5:(d+1)<9223372036854775808)(hL:ah b c l (d+1) x r):ah b c l d x r :=
 lG [1,3] [.a,.q,.t,.h 0 (.row d (lR v)),.h 2 (.pv (vI g)),.q,.f,.h 0 (iI (((d+1):Nat):Int)),.aG [3,5,6,10,11,12]] (y5 (ai h1) (ba lR (rN d) h2) h3 (gr h4) (aJ h5)) hL
theorem tN(b:Nat)(c:Int)(l:List (Rs))(d:Nat)(x:ag)(h1:l.length≤d):ah b c l d x (vI (b:Int)) :=
 lD [] [.a,.q,.f,.q] (y1 (ar h1))
end iy
namespace uJ
theorem e0(p:Rs)(x a:ag)(b:Option Int)(c:Int)(h1:Cp 139 [ae p,x.pv] (.aF [a.pv,bW b]))(h2:Cp 119 [a.pv] (vI c)):Cp 185 [ae p,x.pv] (vI c) :=
 eD func185 [] [.q,.h 2 (.pv (.aF [a.pv,bW b])),.h 1 (.pv (vI c))] (y2 h1 h2)
end uJ
namespace iF
theorem e0(p:Rs)(a:Int)(h1:Cp 162 [ae p] (vI a))(h2:a≠0):Cp 204 [ae p] (vI a) :=
 eD func204 [] [.q,.h 1 (.pv (vI a)),.q,.t,.q] (y2 h1 (kg h2))
theorem e1(p:Rs)(a:Int)(h1:Cp 162 [ae p] (vI a))(h2:a=0)(h3:p.length=0):Cp 204 [ae p] (vI 8) :=
 eD func204 [] [.q,.h 1 (.pv (vI a)),.q,.f,.h 1 (iL p),.t,.q] (y4 h1 (gr h2) (an ag.cells p) (aM h3))
theorem e2(p:Rs)(a:Int)(h1:Cp 162 [ae p] (vI a))(h2:a=0)(h3:p.length≠0):Cp 204 [ae p] (vI 0) :=
 eD func204 [] [.q,.h 1 (.pv (vI a)),.q,.f,.h 1 (iL p),.f,.q] (y4 h1 (gr h2) (an ag.cells p) (aB h3))
end iF
namespace dw
@[reducible] def fn:Func:=Tryz.f207
def aY:List dJ:=focus [0,2,0,2,0,0,2,0,0] [.code (aL fn)]
def inv1(PB:Nat)(xk:Int)(l:List (List ag))(rS:Nat)(x:ag):St:=⟨[(3,(.ptr 3 0)),(5,(eI (PB:Int))),(6,(eI xk)),(10,(.pv (bB (bp ag.cells) l))),(11,(eI (l.length:Int))),(12,(eI (rS:Int)))],[(3,(.lit [(eB x.neg),(.pv (af x.num)),(.pv (af x.den))]))]⟩
@[reducible] def ah(PB:Nat)(xk:Int)(l:List (List ag))(rS:Nat)(x:ag)(r:PV):Prop:=L bu fn aY (inv1 PB xk l rS x) r
theorem e0 (l : List (Rs)) (x : ag) {r : PV}  (hL : ah 0 0 l 0 x r) : Cp 207 [(bB lR l), x.pv] r :=
 eG func207 [] [.q,.q,.h 1 (iL l),.aG [3,5,6,10,11,12]] (y1 (an lR l)) hL
theorem l10(b:Nat)(c:Int)(l:List (Rs))(d:Nat)(x:ag)(v:Rs)(g:ag)(i:Int){r:PV}(h1:d<l.length)(h2:l[d]? = some v)(h3:Cp 208 [ae v,x.pv] g.pv)(h4:Cp 85 [g.pv] (vI i))(h5:i=0)(h6:(d+1)<9223372036854775808)(hL:ah b c l (d+1) x r):ah b c l d x r :=
 lG [1,3] [.a,.q,.t,.h 0 (.row d (lR v)),.aR [.o,.o,(.pv g.pv),(.pv (vI i))],.q,.t,.h 0 (iI (((d+1):Nat):Int)),.aG [3,5,6,10,11,12]] (y6 (ai h1) (ba lR (rN d) h2) h3 h4 (aU h5) (aJ h6)) hL
theorem cB(b:Nat)(c:Int)(l:List (Rs))(d:Nat)(x:ag)(v:Rs)(g:ag)(i:Int){r:PV}(h1:d<l.length)(h2:l[d]? = some v)(h3:Cp 208 [ae v,x.pv] g.pv)(h4:Cp 85 [g.pv] (vI i))(h5:i≠0)(h6:ay (-c))(h7:i=(-c))(h8:(b+1)<9223372036854775808)(h9:(d+1)<9223372036854775808)(hL:ah (b+1) i l (d+1) x r):ah b c l d x r :=
 lG [1,3] [.a,.q,.t,.h 0 (.row d (lR v)),.aR [.o,.o,(.pv g.pv),(.pv (vI i))],.q,.f,.h 2 (iI (-c)),.t,.h 1 (iI (((b+1):Nat):Int)),.q,.h 0 (iI (((d+1):Nat):Int)),.aG [3,5,6,10,11,12]] (y9 (ai h1) (ba lR (rN d) h2) h3 h4 (bf h5) (De h6) (aU h7) (aJ h8) (aJ h9)) hL
theorem jT(b:Nat)(c:Int)(l:List (Rs))(d:Nat)(x:ag)(v:Rs)(g:ag)(i:Int){r:PV}(h1:d<l.length)(h2:l[d]? = some v)(h3:Cp 208 [ae v,x.pv] g.pv)(h4:Cp 85 [g.pv] (vI i))(h5:i≠0)(h6:ay (-c))(h7:i≠(-c))(h8:(d+1)<9223372036854775808)(hL:ah b i l (d+1) x r):ah b c l d x r :=
 lG [1,3] [.a,.q,.t,.h 0 (.row d (lR v)),.aR [.o,.o,(.pv g.pv),(.pv (vI i))],.q,.f,.h 2 (iI (-c)),.f,.q,.h 0 (iI (((d+1):Nat):Int)),.aG [3,5,6,10,11,12]] (y8 (ai h1) (ba lR (rN d) h2) h3 h4 (bf h5) (De h6) (bf h7) (aJ h8)) hL
theorem tN(b:Nat)(c:Int)(l:List (Rs))(d:Nat)(x:ag)(h1:l.length≤d):ah b c l d x (vI (b:Int)) :=
 lD [] [.a,.q,.f,.q] (y1 (ar h1))
end dw
namespace A7
theorem e3(p:Rs)(lo hi:ag)(b c:Bool)(d:Int)(g:List (Rs))(i j:Int)(h1:Cp 175 [ae p] .aC)(h2:Cp 102 [lo.pv] (vB b))(h3:b=true)(h4:Cp 102 [hi.pv] (vB c))(h5:c=true)(h6:Cp 17 [lo.pv,hi.pv] (vI d))(h7:d≤0)(h8:Cp 130 [ae p] (.aF [(bB lR g),.aC]))(h9:Cp 184 [(bB lR g),lo.pv] (vI i))(bQ:Cp 184 [(bB lR g),hi.pv] (vI j))(dU:ay (i-j)):Cp 223 [ae p,lo.pv,hi.pv] (.aF [(vI (i-j)),.aC]) :=
 eD func223 [] [.q,.h 1 (.pv .aC),.q,.a,.aR [.o,(.pv (vB b)),.o,.o,.o,(.pv (vB c)),.o,(.dec false),.o,.o,.o,(.pv (vI d)),.o,(.dec false)],.f,.h 1 (.pv (.aF [(bB lR g),.aC])),.q,.a,dr 7 2 [.none,.none,(.pv (vI i)),.none,.none,(.pv (vI j)),(iI (i-j))]] (U3 h1 h2 (bw h3) (bw h3) h4 (bw h3) (bw h3) (bw h5) (bw h5) (bw h5) h6 (bw h5) (bw h5) (bm h7) h8 h9 bQ (aQ dU))
end A7
end Go.Proofs.YtcpnocgollpbhaaGreatDoor.Sym.Path
end
