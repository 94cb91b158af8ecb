/- The statement NormalOrders holds: a linkage with its bodies, joints and drivers in another order is the same; no condition. -/
import Derived.Test.YtfjfekodeplcoaaGreatT0
import Derived.Test.YtfjfekodeplcoaaGreatG6
noncomputable section
namespace Go.Proofs.YtfjfekodeplcoaaGreat.Sym.Path
open Go
set_option maxRecDepth 20000
set_option linter.unusedVariables false
namespace aO
@[reducible] def fn:Func:=Tryz.f8
def br:List dI:=focus [0,2,0,0,2,1,2,0,2,0,2,0,2,0,0,2,0,0] [.code (aA fn)]
def inv1(turn:Nat)(l:aj)(fB:List Int)(kN:Nat):St:=⟨[(1,(.pv (.int .u8 (turn:Int)))),(2,(.ptr 2 0)),(5,(eI ((l.aa.length:Int)-1))),(6,(.ptr 6 0)),(7,(.row 38 0 fB.length 1)),(8,(eI (kN:Int)))],[(2,(.lit [(.pv (.str l.name)),(.pv (aZ ab.cells l.aa)),(.pv (aZ ag.cells l.an)),(.pv (aZ af.cells l.ak))])),(6,(.lit [(.pv (.str l.name)),(.row 36 0 l.aa.length 2),(.row 135 0 0 7),(.row 164 0 0 2)])),(36,(.pure ((List.replicate l.aa.length (⟨ByteArray.empty,[]⟩:ab):List ab).map ab.cells).flatten)),(38,(.pure ((fB:List Int).map aq).flatten)),(135,(.pure (([]:List ag).map ag.cells).flatten)),(164,(.pure (([]:List af).map af.cells).flatten))]⟩
@[reducible] def ar(turn:Nat)(l:aj)(fB:List Int)(kN:Nat)(r:PV):Prop:=L a7 fn br (inv1 turn l fB kN) r
def fP:List dI:=focus [0,2,0,0,2,1,2,0,2,0,2,0,2,0,0,2,0,0,0,0,0,2,1,2,2,2,2,0,0,2,0,0] [.code (aA fn)]
def inv2(turn:Nat)(fB:List Int)(R5:Nat)(l:aj)(lM:List ab):St:=⟨[(1,(.pv (.int .u8 (turn:Int)))),(2,(.ptr 2 0)),(6,(.ptr 6 0)),(7,(.row 38 0 fB.length 1)),(9,(eI (R5:Int)))],[(2,(.lit [(.pv (.str l.name)),(.pv (aZ ab.cells l.aa)),(.pv (aZ ag.cells l.an)),(.pv (aZ af.cells l.ak))])),(6,(.lit [(.pv (.str l.name)),(.row 36 0 l.aa.length 2),(.row 135 0 0 7),(.row 164 0 0 2)])),(36,(.pure ((lM:List ab).map ab.cells).flatten)),(38,(.pure ((fB:List Int).map aq).flatten)),(135,(.pure (([]:List ag).map ag.cells).flatten)),(164,(.pure (([]:List af).map af.cells).flatten))]⟩
@[reducible] def aJ(turn:Nat)(fB:List Int)(R5:Nat)(l:aj)(lM:List ab)(r:PV):Prop:=L a7 fn fP (inv2 turn fB R5 l lM) r
def vw:List dI:=focus [0,2,0,0,2,1,2,0,2,0,2,0,2,0,0,2,0,0,0,0,0,2,1,2,2,2,2,0,0,2,0,0,0,0,0,2,1,2,2,2,2,0,0,2,0,0] [.code (aA fn)]
def vx(turn:Nat)(fB:List Int)(Nk:Int)(l:aj)(lN:List ag)(lM:List ab):St:=⟨[(1,(.pv (.int .u8 (turn:Int)))),(2,(.ptr 2 0)),(6,(.ptr 6 0)),(7,(.row 38 0 fB.length 1)),(10,(eI Nk))],[(2,(.lit [(.pv (.str l.name)),(.pv (aZ ab.cells l.aa)),(.pv (aZ ag.cells l.an)),(.pv (aZ af.cells l.ak))])),(6,(.lit [(.pv (.str l.name)),(.row 36 0 l.aa.length 2),(.row 135 0 lN.length 7),(.row 164 0 0 2)])),(36,(.pure ((lM:List ab).map ab.cells).flatten)),(38,(.pure ((fB:List Int).map aq).flatten)),(135,(.pure ((lN:List ag).map ag.cells).flatten)),(164,(.pure (([]:List af).map af.cells).flatten))]⟩
@[reducible] def cL(turn:Nat)(fB:List Int)(Nk:Int)(l:aj)(lN:List ag)(lM:List ab)(r:PV):Prop:=L a7 fn vw (vx turn fB Nk l lN lM) r
def Bf:List dI:=focus [0,2,0,0,2,1,2,0,2,0,2,0,2,0,0,2,0,0,0,0,0,2,1,2,2,2,2,0,0,2,0,0,0,0,0,2,1,2,2,2,2,0,0,2,0,0,0,0,0,2,1,2,2,2,2,0,0,2,0,0] [.code (aA fn)]
def Bg(fB:List Int)(yC:Int)(l:aj)(lN:List ag)(uT:List af)(lM:List ab):St:=⟨[(2,(.ptr 2 0)),(6,(.ptr 6 0)),(7,(.row 38 0 fB.length 1)),(12,(eI yC))],[(2,(.lit [(.pv (.str l.name)),(.pv (aZ ab.cells l.aa)),(.pv (aZ ag.cells l.an)),(.pv (aZ af.cells l.ak))])),(6,(.lit [(.pv (.str l.name)),(.row 36 0 l.aa.length 2),(.row 135 0 lN.length 7),(.row 164 0 uT.length 2)])),(36,(.pure ((lM:List ab).map ab.cells).flatten)),(38,(.pure ((fB:List Int).map aq).flatten)),(135,(.pure ((lN:List ag).map ag.cells).flatten)),(164,(.pure ((uT:List af).map af.cells).flatten))]⟩
@[reducible] def fE(fB:List Int)(yC:Int)(l:aj)(lN:List ag)(uT:List af)(lM:List ab)(r:PV):Prop:=L a7 fn Bf (Bg fB yC l lN uT lM) r
theorem e1(l:aj)(b:Nat)(c d g:Bool)(h1:Cp 10 [] (vB c))(h2:c=true)(h3:Cp 11 [l.pv] (vB d))(h4:d=true)(h5:Cp 10 [] (vB g)):Cp 8 [l.pv,(.int .u8 (b:Int))] (vB g) :=
 eD Tryz.func8 84 [1,1,1,1,1,1,1,1,1,1] [.q,.aQ [(.pv (vB c)),.o,.o,.o,(.pv (vB d)),(.dec false),.o,.skip,.skip,.skip,(.dec true)],.a,.h 0 (.pv (vB g))] (wh h1 (ah h2) (ah h2) h3 (ah h2) h4 h4 h4 h4 h5)
theorem e2(l:aj)(b:Nat)(c d:Bool){r:PV}(h1:Cp 10 [] (vB c))(h2:c=true)(h3:Cp 11 [l.pv] (vB d))(h4:d=false)(h5:Cp 23 [l.pv] .bK)(h6:aK ((l.aa.length:Int)-1))(h7:40*l.aa.length≤140737488355328)(hL:ar b l [0] 0 r):Cp 8 [l.pv,(.int .u8 (b:Int))] r :=
 eG Tryz.func8 114 [1,1,1,1,1,1,1,1,1,1,1,1,1,5] [.q,.aQ [(.pv (vB c)),.o,.o,.o,(.pv (vB d)),(.dec false),.o,.o,(.pv .bK),.o,(.dec false)],.a,.aQ [.o,.o,(iI (l.aa.length:Int)),(iI ((l.aa.length:Int)-1))],dr 8 1 [.none,.none,.none,.none,(iI (l.aa.length:Int)),(.app l.aa.length ((List.replicate l.aa.length (⟨ByteArray.empty,[]⟩:ab):List ab).map ab.cells).flatten),.nil],.nU 6 2 135 7,.nU 6 3 164 2,.q,.q,.aH [1,2,5,6,7,8],.ord [2,6,36,38,135,164]] (Ga h1 (ah h2) (ah h2) h3 (ah h2) h4 h4 h5 h4 h4 (av ab.cells l.aa) (bu h6) (av ab.cells l.aa) (pn ab.cells (⟨ByteArray.empty,[]⟩:ab) 40 l.aa.length (Eq.refl (((l.aa.length:Nat):Int):Int)) h7 rfl)) hL
theorem e3(l:aj)(b:Nat)(c d:Bool)(g:Int)(i:Bool)(h1:Cp 10 [] (vB c))(h2:c=true)(h3:Cp 11 [l.pv] (vB d))(h4:d=false)(h5:Cp 23 [l.pv] (.iface 74 (vI g)))(h6:Cp 10 [] (vB i)):Cp 8 [l.pv,(.int .u8 (b:Int))] (vB i) :=
 eD Tryz.func8 84 [1,1,1,1,1,1,1,1,1,1,1] [.q,.aQ [(.pv (vB c)),.o,.o,.o,(.pv (vB d)),(.dec false),.o,.o,(.pv (.iface 74 (vI g))),.o,(.dec false)],.a,.h 0 (.pv (vB i))] (A8 h1 (ah h2) (ah h2) h3 (ah h2) h4 h4 h5 h4 h4 h6)
theorem dC(b:Nat)(l:aj)(c:List Int)(d n:Nat){r:PV}(h1:(d:Int)<((l.aa.length:Int)-1))(h2:b<9223372036854775808)(h3:(d+b)<9223372036854775808)(h4:((l.aa.length:Int)-1)=(n:Int))(h5:n≠0)(h6:(1+((d+b)%n))<9223372036854775808)(h7:((c++[(((1+((d+b)%n)):Nat):Int)]):List Int).length*8≤140737488355328)(h8:(d+1)<9223372036854775808)(hL:ar b l (c++[(((1+((d+b)%n)):Nat):Int)]) (d+1) r):ar b l c d r :=
 lG 147 [1,1,1,1,1,6,1] [.a,.q,.t,.aQ [.o,.o,.o,(iI (b:Int)),(iI (((d+b):Nat):Int)),.o,(iI ((((d+b)%n):Nat):Int)),(iI (((1+((d+b)%n)):Nat):Int)),.o,(.app ((c++[(((1+((d+b)%n)):Nat):Int)]):List Int).length (((c++[(((1+((d+b)%n)):Nat):Int)]):List Int).map aq).flatten)],.h 1 (iI (((d+1):Nat):Int)),.aH [1,2,5,6,7,8],.drop [52],.Cw 53 38,.ord [2,6,36,38,135,164]] (y7 (bf h1) (oK h2) (aI h3) (J8 h4 (uw (x:=(d+b)) h5)) (aI h6) (gw pk (c:List Int) ([(((1+((d+b)%n)):Nat):Int)]:List Int) 8 (Eq.refl (c:List Int).length) (Eq.refl ([(((1+((d+b)%n)):Nat):Int)]:List Int).length) h7 rfl) (aI h8)) hL
theorem dD(b:Nat)(l:aj)(c:List Int)(d:Nat){r:PV}(h1:((l.aa.length:Int)-1)≤(d:Int))(hL:aJ b c 0 l (List.replicate l.aa.length (⟨ByteArray.empty,[]⟩:ab)) r):ar b l c d r :=
 lG 156 [1] [.a,.q,.f,.q,.aH [1,2,6,7,9]] (y1 (bp h1)) hL
theorem nK(b:Nat)(c:List Int)(d:Nat)(l:aj)(g:List ab)(v:Int)(v1:ab)(k:Nat){r:PV}(h1:d<c.length)(h2:c[d]? = some v)(h3:l.aa[d]? = some v1)(h4:v=(k:Int))(h5:k<l.aa.length)(h6:k<g.length)(h7:(d+1)<9223372036854775808)(hL:aJ b c (d+1) l (g.set k v1) r):aJ b c d l g r :=
 lG 189 [1,2,1,3,2,2,1] [.a,.q,.t,dr 12 1 [.none,.none,.none,.none,(.nat d),(.ev (.pv (vI v))),.none,.none,.none,(.row d (ab.cells v1)),.none,(.nat k),(.cells (.pure (((g.set k v1):List ab).map ab.cells).flatten))],.h 1 (iI (((d+1):Nat):Int)),.aH [1,2,6,7,9]] (y7 (ay h1) (cj (Eq.refl (((d:Nat):Int):Int)) h1) (dz (enc:=aq) (f:=fun a=>(vI a)) (fun _=>rfl) h2) (aL ab.cells (Eq.refl (((d:Nat):Int):Int)) h3) (cj h4 h5) (eN dj (g:List ab) v1 h6) (aI h7)) hL
theorem nL(b:Nat)(c:List Int)(d:Nat)(l:aj)(g:List ab){r:PV}(h1:c.length≤d)(h2:aK ((l.an.length:Int)-1))(hL:cL b c ((l.an.length:Int)-1) l [] g r):aJ b c d l g r :=
 lG 198 [1,1,1] [.a,.q,.f,.aQ [.o,.o,(iI (l.an.length:Int)),(iI ((l.an.length:Int)-1))],.aH [1,2,6,7,10]] (y3 (az h1) (av ag.cells l.an) (bu h2)) hL
theorem Gb(c:Nat)(d:List Int)(g:Int)(l:aj)(i:List ag)(j:List ab)(k:Nat)(v:ag)(k1:Nat)(v1:Int)(k2:Nat)(v2:Int){r:PV}(h1:0≤g)(h2:g=(k:Int))(h3:l.an[k]? = some v)(h4:v.a=(k1:Int))(h5:k1<d.length)(h6:d[k1]? = some v1)(h7:v.b=(k2:Int))(h8:k2<d.length)(h9:d[k2]? = some v2)(bQ:v.kind=0)(cW:(c%2)=1)(cP:v.kind≠1)(cD:((i++[(⟨v.name,v.kind,v2,v.fD,v1,v.bq,v.fj⟩:ag)]):List ag).length*64≤140737488355328)(en:aK (g-1))(hL:cL c d (g-1) l (i++[(⟨v.name,v.kind,v2,v.fD,v1,v.bq,v.fj⟩:ag)]) j r):cL c d g l i j r :=
 lG 273 [1,3,2,1,2,1,1,1,1,1,1,1,1,1,1,1,6,1] [.a,.q,.t,.h 3 (.row k (ag.cells v)),dr 13 1 [.none,.none,.none,(.nat k1),(.ev (.pv (vI v1))),.none,.none,.none,(.nat k2),(.ev (.pv (vI v2)))],.aQ [.o,.o,.o,.o,.o,(.pv (.int .u8 (((c%2):Nat):Int))),.o,(.dec true)],.t,.q,.aQ [.o,.o,.o,.o,.skip,.skip,.skip,(.dec false)],.a,.h 4 (.app ((i++[(⟨v.name,v.kind,v2,v.fD,v1,v.bq,v.fj⟩:ag)]):List ag).length (((i++[(⟨v.name,v.kind,v2,v.fD,v1,v.bq,v.fj⟩:ag)]):List ag).map ag.cells).flatten),.h 1 (iI (g-1)),.aH [1,2,6,7,10],.drop [134,11],.ord [2,6,36,38,135,164]] (Jm (eM h1) (aL ag.cells h2 h3) (cj h4 h5) (dz (enc:=aq) (f:=fun a=>(vI a)) (fun _=>rfl) h6) (cj h7 h8) (dz (enc:=aq) (f:=fun a=>(vI a)) (fun _=>rfl) h9) (bA bQ) (bA bQ) (sa (x:=c) (y:=2) (by decide)) (bA bQ) (bA bQ) (bd cW) (bm cP) (bm cP) (bm cP) (bm cP) (gw cQ (i:List ag) ([(⟨v.name,v.kind,v2,v.fD,v1,v.bq,v.fj⟩:ag)]:List ag) 64 (Eq.refl (i:List ag).length) (Eq.refl ([(⟨v.name,v.kind,v2,v.fD,v1,v.bq,v.fj⟩:ag)]:List ag).length) cD rfl) (bu en)) hL
theorem Vm(c:Nat)(d:List Int)(g:Int)(l:aj)(i:List ag)(j:List ab)(k:Nat)(v:ag)(k1:Nat)(v1:Int)(k2:Nat)(v2:Int){r:PV}(h1:0≤g)(h2:g=(k:Int))(h3:l.an[k]? = some v)(h4:v.a=(k1:Int))(h5:k1<d.length)(h6:d[k1]? = some v1)(h7:v.b=(k2:Int))(h8:k2<d.length)(h9:d[k2]? = some v2)(bQ:v.kind=0)(cW:(c%2)≠1)(cP:v.kind≠1)(cD:((i++[(⟨v.name,v.kind,v1,v.bq,v2,v.fD,v.fj⟩:ag)]):List ag).length*64≤140737488355328)(en:aK (g-1))(hL:cL c d (g-1) l (i++[(⟨v.name,v.kind,v1,v.bq,v2,v.fD,v.fj⟩:ag)]) j r):cL c d g l i j r :=
 lG 273 [1,3,2,1,2,1,1,1,1,1,1,1,1,1,1,1,6,1] [.a,.q,.t,.h 3 (.row k (ag.cells v)),dr 13 1 [.none,.none,.none,(.nat k1),(.ev (.pv (vI v1))),.none,.none,.none,(.nat k2),(.ev (.pv (vI v2)))],.aQ [.o,.o,.o,.o,.o,(.pv (.int .u8 (((c%2):Nat):Int))),.o,(.dec true)],.f,.aQ [.o,.o,.o,.o,.skip,.skip,.skip,(.dec false)],.a,.h 4 (.app ((i++[(⟨v.name,v.kind,v1,v.bq,v2,v.fD,v.fj⟩:ag)]):List ag).length (((i++[(⟨v.name,v.kind,v1,v.bq,v2,v.fD,v.fj⟩:ag)]):List ag).map ag.cells).flatten),.h 1 (iI (g-1)),.aH [1,2,6,7,10],.drop [134,11],.ord [2,6,36,38,135,164]] (Jm (eM h1) (aL ag.cells h2 h3) (cj h4 h5) (dz (enc:=aq) (f:=fun a=>(vI a)) (fun _=>rfl) h6) (cj h7 h8) (dz (enc:=aq) (f:=fun a=>(vI a)) (fun _=>rfl) h9) (bA bQ) (bA bQ) (sa (x:=c) (y:=2) (by decide)) (bA bQ) (bA bQ) (aR cW) (bm cP) (bm cP) (bm cP) (bm cP) (gw cQ (i:List ag) ([(⟨v.name,v.kind,v1,v.bq,v2,v.fD,v.fj⟩:ag)]:List ag) 64 (Eq.refl (i:List ag).length) (Eq.refl ([(⟨v.name,v.kind,v1,v.bq,v2,v.fD,v.fj⟩:ag)]:List ag).length) cD rfl) (bu en)) hL
theorem Vn(c:Nat)(d:List Int)(g:Int)(l:aj)(i:List ag)(j:List ab)(k:Nat)(v:ag)(k1:Nat)(v1:Int)(k2:Nat)(v2:Int){r:PV}(h1:0≤g)(h2:g=(k:Int))(h3:l.an[k]? = some v)(h4:v.a=(k1:Int))(h5:k1<d.length)(h6:d[k1]? = some v1)(h7:v.b=(k2:Int))(h8:k2<d.length)(h9:d[k2]? = some v2)(bQ:v.kind≠0)(cW:v.kind=1)(cP:(c%2)=1)(cD:((i++[(⟨v.name,v.kind,v1,v.bq,v2,v.fj,v.fD⟩:ag)]):List ag).length*64≤140737488355328)(en:aK (g-1))(hL:cL c d (g-1) l (i++[(⟨v.name,v.kind,v1,v.bq,v2,v.fj,v.fD⟩:ag)]) j r):cL c d g l i j r :=
 lG 273 [1,3,2,1,2,1,1,1,1,1,1,1,1,1,1,1,6,1] [.a,.q,.t,.h 3 (.row k (ag.cells v)),dr 13 1 [.none,.none,.none,(.nat k1),(.ev (.pv (vI v1))),.none,.none,.none,(.nat k2),(.ev (.pv (vI v2)))],.aQ [.o,.o,.o,.o,.skip,.skip,.skip,(.dec false)],.a,.aQ [.o,.o,.o,.o,.o,(.pv (.int .u8 (((c%2):Nat):Int))),.o,(.dec true)],.t,.q,.h 4 (.app ((i++[(⟨v.name,v.kind,v1,v.bq,v2,v.fj,v.fD⟩:ag)]):List ag).length (((i++[(⟨v.name,v.kind,v1,v.bq,v2,v.fj,v.fD⟩:ag)]):List ag).map ag.cells).flatten),.h 1 (iI (g-1)),.aH [1,2,6,7,10],.drop [134,11],.ord [2,6,36,38,135,164]] (Jm (eM h1) (aL ag.cells h2 h3) (cj h4 h5) (dz (enc:=aq) (f:=fun a=>(vI a)) (fun _=>rfl) h6) (cj h7 h8) (dz (enc:=aq) (f:=fun a=>(vI a)) (fun _=>rfl) h9) (bm bQ) (bm bQ) (bm bQ) (bm bQ) (bA cW) (bA cW) (sa (x:=c) (y:=2) (by decide)) (bA cW) (bA cW) (bd cP) (gw cQ (i:List ag) ([(⟨v.name,v.kind,v1,v.bq,v2,v.fj,v.fD⟩:ag)]:List ag) 64 (Eq.refl (i:List ag).length) (Eq.refl ([(⟨v.name,v.kind,v1,v.bq,v2,v.fj,v.fD⟩:ag)]:List ag).length) cD rfl) (bu en)) hL
theorem Vo(c:Nat)(d:List Int)(g:Int)(l:aj)(i:List ag)(j:List ab)(k:Nat)(v:ag)(k1:Nat)(v1:Int)(k2:Nat)(v2:Int){r:PV}(h1:0≤g)(h2:g=(k:Int))(h3:l.an[k]? = some v)(h4:v.a=(k1:Int))(h5:k1<d.length)(h6:d[k1]? = some v1)(h7:v.b=(k2:Int))(h8:k2<d.length)(h9:d[k2]? = some v2)(bQ:v.kind≠0)(cW:v.kind=1)(cP:(c%2)≠1)(cD:((i++[(⟨v.name,v.kind,v1,v.bq,v2,v.fD,v.fj⟩:ag)]):List ag).length*64≤140737488355328)(en:aK (g-1))(hL:cL c d (g-1) l (i++[(⟨v.name,v.kind,v1,v.bq,v2,v.fD,v.fj⟩:ag)]) j r):cL c d g l i j r :=
 lG 273 [1,3,2,1,2,1,1,1,1,1,1,1,1,1,1,1,6,1] [.a,.q,.t,.h 3 (.row k (ag.cells v)),dr 13 1 [.none,.none,.none,(.nat k1),(.ev (.pv (vI v1))),.none,.none,.none,(.nat k2),(.ev (.pv (vI v2)))],.aQ [.o,.o,.o,.o,.skip,.skip,.skip,(.dec false)],.a,.aQ [.o,.o,.o,.o,.o,(.pv (.int .u8 (((c%2):Nat):Int))),.o,(.dec true)],.f,.h 4 (.app ((i++[(⟨v.name,v.kind,v1,v.bq,v2,v.fD,v.fj⟩:ag)]):List ag).length (((i++[(⟨v.name,v.kind,v1,v.bq,v2,v.fD,v.fj⟩:ag)]):List ag).map ag.cells).flatten),.h 1 (iI (g-1)),.aH [1,2,6,7,10],.drop [134,11],.ord [2,6,36,38,135,164]] (Jm (eM h1) (aL ag.cells h2 h3) (cj h4 h5) (dz (enc:=aq) (f:=fun a=>(vI a)) (fun _=>rfl) h6) (cj h7 h8) (dz (enc:=aq) (f:=fun a=>(vI a)) (fun _=>rfl) h9) (bm bQ) (bm bQ) (bm bQ) (bm bQ) (bA cW) (bA cW) (sa (x:=c) (y:=2) (by decide)) (bA cW) (bA cW) (aR cP) (gw cQ (i:List ag) ([(⟨v.name,v.kind,v1,v.bq,v2,v.fD,v.fj⟩:ag)]:List ag) 64 (Eq.refl (i:List ag).length) (Eq.refl ([(⟨v.name,v.kind,v1,v.bq,v2,v.fD,v.fj⟩:ag)]:List ag).length) cD rfl) (bu en)) hL
theorem Vp(b:Nat)(c:List Int)(d:Int)(l:aj)(g:List ag)(i:List ab){r:PV}(h1:d<0)(h2:aK ((l.ak.length:Int)-1))(hL:fE c ((l.ak.length:Int)-1) l g [] i r):cL b c d l g i r :=
 lG 240 [1,1,1] [.a,.q,.f,.aQ [.o,.o,(iI (l.ak.length:Int)),(iI ((l.ak.length:Int)-1))],.aH [2,6,7,12]] (y3 (jI h1) (av af.cells l.ak) (bu h2)) hL
theorem Kd(b:List Int)(c:Int)(l:aj)(d:List ag)(g:List af)(i:List ab)(k:Nat)(v:af)(k1:Nat)(v1:af)(k2:Nat)(v2:Int){r:PV}(h1:0≤c)(h2:c=(k:Int))(h3:l.ak[k]? = some v)(h4:c=(k1:Int))(h5:l.ak[k1]? = some v1)(h6:v1.body=(k2:Int))(h7:k2<b.length)(h8:b[k2]? = some v2)(h9:((g++[(⟨v.name,v2⟩:af)]):List af).length*24≤140737488355328)(bQ:aK (c-1))(hL:fE b (c-1) l d (g++[(⟨v.name,v2⟩:af)]) i r):fE b c l d g i r :=
 lG 273 [1,3,3,2,1,6,1] [.a,.q,.t,dr 19 3 [.none,.none,.none,.none,.none,(.row k (af.cells v)),.none,.none,.none,.none,.none,.none,(.row k1 (af.cells v1)),.none,.none,(.nat k2),(.ev (.pv (vI v2))),.none,.none,(.app ((g++[(⟨v.name,v2⟩:af)]):List af).length (((g++[(⟨v.name,v2⟩:af)]):List af).map af.cells).flatten)],.h 1 (iI (c-1)),.aH [2,6,7,12],.drop [163],.ord [2,6,36,38,135,164]] (y7 (eM h1) (aL af.cells h2 h3) (aL af.cells h4 h5) (cj h6 h7) (dz (enc:=aq) (f:=fun a=>(vI a)) (fun _=>rfl) h8) (gw cm (g:List af) ([(⟨v.name,v2⟩:af)]:List af) 24 (Eq.refl (g:List af).length) (Eq.refl ([(⟨v.name,v2⟩:af)]:List af).length) h9 rfl) (bu bQ)) hL
theorem Ke(b:List Int)(c:Int)(l:aj)(d:List ag)(g:List af)(i:List ab)(j:Bool)(h1:c<0)(h2:l.aa.length=i.length)(h3:Cp 29 [l.pv,(⟨l.name,i,d,g⟩:aj).pv] (.bh [vB j,.bK])):fE b c l d g i (vB j) :=
 lD 279 [1,3,3,3,1,1] [.a,.q,.f,.lQ 6 1 ((i:List ab).map ab.cells),.lQ 6 2 ((d:List ag).map ag.cells),.lQ 6 3 ((g:List af).map af.cells),.h 2 (.pv (.bh [vB j,.bK])),.q] (y6 (jI h1) (cq dj (i:List ab) h2) (cq cQ (d:List ag) (Eq.refl (d:List ag).length)) (cq cm (g:List af) (Eq.refl (g:List af).length)) h3 (Eq.refl true))
end aO
end Go.Proofs.YtfjfekodeplcoaaGreat.Sym.Path
namespace Go.Proofs.YtfjfekodeplcoaaGreat.Sym
open Go Path fi Go.RowKit
set_option linter.unusedVariables false
def wT(n turn:Nat)(i:Nat):Nat:=if i=0 then 0 else 1+(i-1+turn)%n
def zr(n turn:Nat)(i:Int):Int:=(wT n turn i.toNat:Int)
def Jv(n turn:Nat):List Int:=(List.range (n+1)).map fun i=>(wT n turn i:Int)
theorem Nl{n turn i:Nat}(h:i<n+1):wT n turn i<n+1:=by
 unfold wT
 split
 ·omega
 ·have:=Nat.mod_lt (i-1+turn) (show 0<n by omega);omega
theorem uU{n turn i:Nat}(h:i<n):(i+turn)%n=if i+turn%n<n then i+turn%n else i+turn%n-n:=by
 have hs:=Nat.mod_lt turn (show 0<n by omega)
 rw[Nat.add_mod,Nat.mod_eq_of_lt h]
 split
 ·rename_i h1;exact Nat.mod_eq_of_lt h1
 ·rename_i h1
  have e:i+turn%n=(i+turn%n-n)+n:=by omega
  conv=>lhs;rw[e,Nat.add_mod_right]
  exact Nat.mod_eq_of_lt (by omega)
theorem KO{n turn i k:Nat}(hi:i<n+1)(hk:k<n+1)(h:wT n turn i=wT n turn k):i=k:=by
 unfold wT at h
 by_cases h1:i=0
 ·by_cases h2:k=0
  ·omega
  ·rw[if_pos h1,if_neg h2] at h;omega
 ·by_cases h2:k=0
  ·rw[if_neg h1,if_pos h2] at h;omega
  ·rw[if_neg h1,if_neg h2,uU (show i-1<n by omega),uU (show k-1<n by omega)] at h
   have hs:=Nat.mod_lt turn (show 0<n by omega)
   split at h<;>split at h<;>omega
theorem Gy{α:Type}{t t':List α}{turn:Nat}(hl:t'.length=t.length)(h:∀(i:Nat) x,t[i]? = some x→t'[(i+turn)%t.length]? = some x):t'.Perm t:=by
 by_cases h0:t.length=0
 ·rw[List.length_eq_zero_iff.1 h0,List.length_eq_zero_iff.1 (hl.trans h0)]
 ·have hs:=Nat.mod_lt turn (show 0<t.length by omega)
  have e:t'=t.drop (t.length-turn%t.length)++t.take (t.length-turn%t.length):=by
   apply List.ext_getElem?
   intro k
   by_cases hk:k<t.length
   ·by_cases hks:k<turn%t.length
    ·have g:=List.getElem?_eq_getElem (l:=t) (i:=k+t.length-turn%t.length) (by omega)
     have:=h _ _ g
     rw[uU (by omega),if_neg (by omega),show k+t.length-turn%t.length+turn%t.length-t.length=k by omega] at this
     rw[this,List.getElem?_append_left (by rw[List.length_drop];omega),List.getElem?_drop,show t.length-turn%t.length+k=k+t.length-turn%t.length by omega,g]
    ·have g:=List.getElem?_eq_getElem (l:=t) (i:=k-turn%t.length) (by omega)
     have:=h _ _ g
     rw[uU (by omega),if_pos (by omega),show k-turn%t.length+turn%t.length=k by omega] at this
     rw[this,List.getElem?_append_right (by rw[List.length_drop];omega),List.length_drop,List.getElem?_take,if_pos (by omega),show k-(t.length-(t.length-turn%t.length))=k-turn%t.length by omega,g]
   ·rw[List.getElem?_eq_none (by omega),List.getElem?_eq_none (by rw[List.length_append,List.length_drop,List.length_take];omega)]
  rw[e]
  refine List.perm_append_comm.trans (.of_eq ?_)
  exact List.take_append_drop _ _
namespace Ls
theorem R6(l:aj)(turn:Nat)(hl:rY l)(ht:turn<256):Cp 8 [l.pv,.int .u8 (turn:Int)] (vB true):=by
 obtain⟨d,h1,h2⟩:=AF hl
 cases d with
 |true=>exact aO.e1 l turn _ _ _ eV rfl h1 rfl eV
 |false =>
  have fl:=fit hl (h2 rfl).2
  have cl:=pA.Check l fl
  by_cases k:gN l=0
  ·have ol:=fG.1 k
   rw[k] at cl
   have h8:=ol.len
   have gu:=ol.jl
   have LF:=ol.dl
   obtain⟨f,t,hb⟩:=List.exists_cons_of_ne_nil (l:=l.aa) (fun e=>by have:=ol.pos;rw[e] at this;simp at this)
   have Jn:l.aa.length=t.length+1:=by rw[hb];rfl
   refine aO.e2 l turn _ _ eV rfl h1 rfl cl (by unfold aK;omega) (by omega) ?_
   have VX:(Jv t.length turn).length=t.length+1:=by unfold Jv;rw[List.length_map,List.length_range]
   have GU:∀{i:Nat},i<t.length+1→(Jv t.length turn)[i]? = some (wT t.length turn i:Int):=fun {i} hi=>by
    unfold Jv;rw[List.getElem?_map,List.getElem?_range hi];rfl
   have fin:∀(t':List ab),t'.Perm t→(∀(i:Nat) x,t[i]? = some x→t'[(i+turn)%t.length]? = some x) →
     aO.cL turn (Jv t.length turn) ((l.an.length:Int)-1) l [] (f::t') (vB true):=by
    intro t' hp DA
    have OR:∀i b,nth l.aa i=some b→i≠0→zr t.length turn i≠0∧nth (f::t') (zr t.length turn i)=some b:=by
     intro i b FT VY
     obtain⟨q,rfl,hq⟩:=bX FT
     have Jg:q≠0:=by omega
     rw[hb] at hq
     obtain⟨q,rfl⟩:∃p,q=p+1:=⟨q-1,by omega⟩
     have hq:t[q]? = some b:=hq
     have e:zr t.length turn ((q+1:Nat):Int)=(((q+turn)%t.length+1:Nat):Int):=by
      unfold zr wT
      rw[Int.toNat_natCast,if_neg (by omega),Nat.add_sub_cancel,Nat.add_comm]
     rw[e]
     refine⟨by omega,?_⟩
     rw[ke]
     exact DA q b hq
    have key:=fun {js:List ag} {ds:List af} (hj:js.Perm (l.an.map (tw (decide (turn%2=1)) (zr t.length turn)))) (hd:ds.Perm (l.ak.map (td (zr t.length turn)))) =>
     Gi ol hb hp (zr t.length turn) rfl OR (decide (turn%2=1)) hj hd
    have s4:∀(n:Nat),n≤l.ak.length→aO.fE (Jv t.length turn) ((n:Int)-1) l ((l.an.map (tw (decide (turn%2=1)) (zr t.length turn))).reverse) (((l.ak.drop n).map (td (zr t.length turn))).reverse) (f::t') (vB true):=by
     intro n
     induction n with
     |zero =>
      intro _
      rw[List.drop_zero]
      obtain⟨om,em⟩:=key (List.reverse_perm _) (List.reverse_perm _)
      have fm:iM ⟨l.name,f::t',(l.an.map (tw (decide (turn%2=1)) (zr t.length turn))).reverse,(l.ak.map (td (zr t.length turn))).reverse⟩ := {
       name:=fl.name
       aa:=fun b cX=>fl.aa b (by rw[hb];exact(hp.cons f).mem_iff.1 cX)
       an:=fun j hj=>by
        obtain⟨i,hi,rfl⟩:=List.mem_map.1 (List.mem_reverse.1 hj)
        rw[BI];exact fl.an i hi
       ak:=fun d hd=>by
        obtain⟨i,hi,rfl⟩:=List.mem_map.1 (List.mem_reverse.1 hd)
        exact fl.ak i hi }
      have hS:=pA.Gw ol om fl fm
      rw[em,dZ rfl] at hS
      exact aO.Ke _ _ l _ _ _ _ (by omega) (by rw[hb,List.length_cons,List.length_cons,hp.length_eq]) hS
     |succ n ih =>
      intro hn
      have hv:=List.getElem?_eq_getElem (l:=l.ak) (i:=n) (by omega)
      have e0:=List.drop_eq_getElem_cons (l:=l.ak) (i:=n) (by omega)
      generalize l.ak[n]=v at hv e0
      obtain⟨_,⟨b,cX⟩,_⟩:=ol.ak v (List.mem_of_getElem? hv)
      obtain⟨q,eq,hq⟩:=bX cX
      have z8:=(List.getElem?_eq_some_iff.1 hq).1
      have h:=ih (by omega)
      rw[e0,List.map_cons,List.reverse_cons] at h
      have e:td (zr t.length turn) v=⟨v.name,(wT t.length turn q:Int)⟩:=by unfold td zr;rw[eq,Int.toNat_natCast]
      rw[e] at h
      exact aO.Kd _ _ l _ _ _ n v n v q _ (by omega) (by omega) hv (by omega) hv eq (by omega) (GU (by omega)) (by rw[List.length_append,List.length_reverse,List.length_map,List.length_drop,List.length_singleton];omega) (by unfold aK;omega) (by rw[show ((n+1:Nat):Int)-1-1=(n:Int)-1 by omega];exact h)
    have s3:∀(n:Nat),n≤l.an.length→aO.cL turn (Jv t.length turn) ((n:Int)-1) l (((l.an.drop n).map (tw (decide (turn%2=1)) (zr t.length turn))).reverse) (f::t') (vB true):=by
     intro n
     induction n with
     |zero =>
      intro _
      rw[List.drop_zero]
      refine aO.Vp turn _ _ l _ _ (by omega) (by unfold aK;omega) ?_
      have h:=s4 l.ak.length (Nat.le_refl _)
      rw[List.drop_length,List.map_nil,List.reverse_nil] at h
      exact h
     |succ n ih =>
      intro hn
      have hv:=List.getElem?_eq_getElem (l:=l.an) (i:=n) (by omega)
      have e0:=List.drop_eq_getElem_cons (l:=l.an) (i:=n) (by omega)
      generalize l.an[n]=v at hv e0
      obtain⟨A,B,P,Q,hA,hB,_,_,_,hk⟩:=(ol.an v (List.mem_of_getElem? hv)).2
      obtain⟨kA,eA,gA⟩:=bX hA
      obtain⟨kB,eB,gB⟩:=bX hB
      have lA:=(List.getElem?_eq_some_iff.1 gA).1
      have lB:=(List.getElem?_eq_some_iff.1 gB).1
      have tA:zr t.length turn v.a=(wT t.length turn kA:Int):=by unfold zr;rw[eA,Int.toNat_natCast]
      have tB:zr t.length turn v.b=(wT t.length turn kB:Int):=by unfold zr;rw[eB,Int.toNat_natCast]
      have h:=ih (by omega)
      rw[e0,List.map_cons,List.reverse_cons] at h
      have hq:((n+1:Nat):Int)-1-1=(n:Int)-1:=by omega
      have hs:∀x:ag,(((((l.an.drop (n+1)).map (tw (decide (turn%2=1)) (zr t.length turn))).reverse++[x]):List ag)).length*64≤140737488355328:=fun x=>by
       rw[List.length_append,List.length_reverse,List.length_map,List.length_drop,List.length_singleton];omega
      by_cases yQ:turn%2=1
      ·rcases hk with ⟨h0,_⟩|⟨Ha,_⟩
       ·have e:tw (decide (turn%2=1)) (zr t.length turn) v=⟨v.name,v.kind,(wT t.length turn kB:Int),v.fD,(wT t.length turn kA:Int),v.bq,v.fj⟩:=by
         unfold tw;rw[if_pos ⟨h0,decide_eq_true yQ⟩,tA,tB]
        rw[e] at h
        exact aO.Gb turn _ _ l _ _ n v kA _ kB _ (by omega) (by omega) hv eA (by omega) (GU (by omega)) eB (by omega) (GU (by omega)) h0 yQ (by omega) (hs _) (by unfold aK;omega) (by rw[hq];exact h)
       ·have e:tw (decide (turn%2=1)) (zr t.length turn) v=⟨v.name,v.kind,(wT t.length turn kA:Int),v.bq,(wT t.length turn kB:Int),v.fj,v.fD⟩:=by
         unfold tw;rw[if_neg (fun h=>by have:=h.1;omega),if_pos ⟨Ha,decide_eq_true yQ⟩,tA,tB]
        rw[e] at h
        exact aO.Vn turn _ _ l _ _ n v kA _ kB _ (by omega) (by omega) hv eA (by omega) (GU (by omega)) eB (by omega) (GU (by omega)) (by omega) Ha yQ (hs _) (by unfold aK;omega) (by rw[hq];exact h)
      ·have e:tw (decide (turn%2=1)) (zr t.length turn) v=⟨v.name,v.kind,(wT t.length turn kA:Int),v.bq,(wT t.length turn kB:Int),v.fD,v.fj⟩:=by
        unfold tw;rw[if_neg (fun h=>yQ (of_decide_eq_true h.2)),if_neg (fun h=>yQ (of_decide_eq_true h.2)),tA,tB]
       rw[e] at h
       rcases hk with ⟨h0,_⟩|⟨Ha,_⟩
       ·exact aO.Vm turn _ _ l _ _ n v kA _ kB _ (by omega) (by omega) hv eA (by omega) (GU (by omega)) eB (by omega) (GU (by omega)) h0 yQ (by omega) (hs _) (by unfold aK;omega) (by rw[hq];exact h)
       ·exact aO.Vo turn _ _ l _ _ n v kA _ kB _ (by omega) (by omega) hv eA (by omega) (GU (by omega)) eB (by omega) (GU (by omega)) (by omega) Ha yQ (hs _) (by unfold aK;omega) (by rw[hq];exact h)
    have h:=s3 l.an.length (Nat.le_refl _)
    rw[List.drop_length,List.map_nil,List.reverse_nil] at h
    exact h
   have s2:∀(n d:Nat) (o:List ab),d+n=t.length+1→o.length=t.length+1→(∀(i:Nat) b,i<d→l.aa[i]? = some b→o[wT t.length turn i]? = some b) →
     aO.aJ turn (Jv t.length turn) d l o (vB true):=by
    intro n
    induction n with
    |zero =>
     intro d o hd ho h
     refine aO.nL turn _ d l o (by omega) (by unfold aK;omega) ?_
     obtain⟨x,t',rfl⟩:=List.exists_cons_of_ne_nil (l:=o) (fun e=>by rw[e] at ho;simp at ho)
     have h0:some x=some f:=h 0 f (by omega) (by rw[hb];rfl)
     injection h0 with h0
     subst h0
     have DA:∀(i:Nat) y,t[i]? = some y→t'[(i+turn)%t.length]? = some y:=fun i y hy=>by
      have hi:=(List.getElem?_eq_some_iff.1 hy).1
      have:=h (i+1) y (by omega) (by rw[hb];exact hy)
      unfold wT at this
      rw[if_neg (by omega),Nat.add_sub_cancel,Nat.add_comm 1] at this
      exact this
     have GD:t'.length=t.length:=by simpa using ho
     exact fin t' (Gy GD DA) DA
    |succ n ih =>
     intro d o hd ho h
     have hv:=List.getElem?_eq_getElem (l:=l.aa) (i:=d) (by omega)
     generalize l.aa[d]=v at hv
     have hk:=Nl (turn:=turn) (show d<t.length+1 by omega)
     refine aO.nK turn _ d l o _ v (wT t.length turn d) (by omega) (GU (by omega)) hv rfl (by omega) (by omega) (by omega) (ih (d+1) _ (by omega) (by rw[List.length_set];exact ho) (fun i b hi FT => ?_))
     rw[List.getElem?_set]
     by_cases e:wT t.length turn d=wT t.length turn i
     ·have:d=i:=KO (by omega) (by omega) e
      subst this
      rw[hv] at FT;injection FT with FT;subst FT
      rw[if_pos rfl,if_pos (by omega)]
     ·rw[if_neg e]
      have hid:i≠d:=fun e2=>e (by rw[e2])
      exact h i b (by omega) FT
   have s1:∀(n d:Nat),d+n=t.length→aO.ar turn l ((Jv t.length turn).take (d+1)) d (vB true):=by
    intro n
    induction n with
    |zero =>
     intro d hd
     rw[List.take_of_length_le (by omega)]
     refine aO.dD turn l _ d (by omega) ?_
     exact s2 (t.length+1) 0 _ (by omega) (by rw[List.length_replicate];omega) (fun i b hi=>by omega)
    |succ n ih =>
     intro d hd
     have h:=ih (d+1) (by omega)
     rw[ep (GU (i:=d+1) (by omega))] at h
     have e:wT t.length turn (d+1)=1+(d+turn)%t.length:=by unfold wT;rw[if_neg (by omega),Nat.add_sub_cancel]
     rw[e] at h
     have hm:=Nat.mod_lt (d+turn) (show 0<t.length by omega)
     exact aO.dC turn l _ d t.length (by omega) (by omega) (by omega) (by omega) (by omega) (by omega) (by rw[List.length_append,List.length_take,List.length_singleton];omega) (by omega) h
   have h:=s1 t.length 0 (by omega)
   have e1:(Jv t.length turn).take 1=[0]:=by
    have:=ep (GU (i:=0) (by omega))
    rw[this];rfl
   rw[Nat.zero_add,e1] at h
   exact h
  ·rw[mV k] at cl
   exact aO.e3 l turn _ _ _ _ eV rfl h1 rfl cl eV
theorem BU(l:aj)(turn:Int)(hl:rY l)(ht:0≤turn∧turn≤255):Cp 8 [l.pv,.int .u8 turn] (vB true):=by
 have:=R6 l turn.toNat hl (by omega)
 rwa[show ((turn.toNat:Nat):Int)=turn by omega] at this
end Ls
end Go.Proofs.YtfjfekodeplcoaaGreat.Sym
end
