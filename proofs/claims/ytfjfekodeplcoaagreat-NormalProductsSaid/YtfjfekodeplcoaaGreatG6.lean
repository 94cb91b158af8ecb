/- Lemmas for the statements of this seat. -/
import Derived.Test.YtfjfekodeplcoaaGreatG5
import Derived.Test.YtfjfekodeplcoaaGreatP5
import Derived.Test.YtfjfekodeplcoaaGreatP6
noncomputable section
namespace Go.Proofs.YtfjfekodeplcoaaGreat.Sym.Path
open Go
set_option maxRecDepth 20000
set_option linter.unusedVariables false
namespace eZ
@[reducible] def fn:Func:=Tryz.f36
def bM:List eh:=focus [0,2,0,2,0,0,2,0,0] [.code (az fn)]
def inv1(l:aj)(ub:Nat)(nH:List (ByteArray×Nat×Nat))(z:List ak)(z1:List ag)(heap:List (List ai)):St:=⟨[(2,(.ptr 2 0)),(3,(.ptr 3 0)),(19,(.pv (bG ah.cells l.ab))),(20,(eI (l.ab.length:Int))),(21,(eI (ub:Int)))],[(2,(.lit [(.pv (.str (ByteArray.mk #[]))),(.pv (.list [])),(.pv (.list [])),(.pv (.list []))])),(3,(.lit [(.pv (.str l.name)),(.row 56 0 nH.length 2),(.row 13 0 z.length 7),(.row 16 0 z1.length 2)])),(13,(.pure ((z:List ak).map ak.cells).flatten)),(16,(.pure ((z1:List ag).map ag.cells).flatten)),(56,(.fY nH 7)),(999999,(.heap (cL ai.cells (heap:List (List ai)))))]⟩
@[reducible] def au(l:aj)(ub:Nat)(nH:List (ByteArray×Nat×Nat))(z:List ak)(z1:List ag)(heap:List (List ai))(sin:aG)(r:EV)(sout:aG):Prop:=LX bp fn bM (inv1 l ub nH z z1 heap) sin r sout
def fw:List eh:=focus [0,2,0,2,0,0,2,0,0,0,0,2,0,0,2,0,0,0,2,0,2,0,0,2,0,0] [.code (az fn)]
def inv2(l:aj)(ub:Nat)(v:ah)(ua:Nat)(nH:List (ByteArray×Nat×Nat))(z:List ak)(z1:List ag)(nv:List ai)(heap:List (List ai)):St:=⟨[(2,(.ptr 2 0)),(3,(.ptr 3 0)),(6,(.ptr 6 0)),(19,(.pv (bG ah.cells l.ab))),(20,(eI (l.ab.length:Int))),(21,(eI (ub:Int))),(29,(.pv (bG ai.cells v.points))),(30,(eI (v.points.length:Int))),(31,(eI (ua:Int)))],[(2,(.lit [(.pv (.str (ByteArray.mk #[]))),(.pv (.list [])),(.pv (.list [])),(.pv (.list []))])),(3,(.lit [(.pv (.str l.name)),(.row 56 0 nH.length 2),(.row 13 0 z.length 7),(.row 16 0 z1.length 2)])),(6,(.lit [(.pv (.str v.name)),(.row 49 0 nv.length 7)])),(13,(.pure ((z:List ak).map ak.cells).flatten)),(16,(.pure ((z1:List ag).map ag.cells).flatten)),(49,(.pure ((nv:List ai).map ai.cells).flatten)),(56,(.fY nH 7)),(999999,(.heap (cL ai.cells (heap:List (List ai)))))]⟩
@[reducible] def aM(l:aj)(ub:Nat)(v:ah)(ua:Nat)(nH:List (ByteArray×Nat×Nat))(z:List ak)(z1:List ag)(nv:List ai)(heap:List (List ai))(sin:aG)(r:EV)(sout:aG):Prop:=LX bp fn fw (inv2 l ub v ua nH z z1 nv heap) sin r sout
theorem e0(l:aj)(z:List ak)(z1:List ag){r:EV}{sout:aG}(h1:av bp 80 [.pv (bG ak.cells l.aq)] [] (.row 0 0 z.length 7) [(0,(.pure ((z:List ak).map ak.cells).flatten))])(h2:av bp 81 [.pv (bG ag.cells l.an)] [] (.row 0 0 z1.length 2) [(0,(.pure ((z1:List ag).map ag.cells).flatten))])(hL:au l 0 [] z z1 [] [] r sout):av bp 36 [(.pv l.pv)] [] r sout :=
 AM Tryz.func36 87 [1,1,1] [.qp,.q,dr 10 1 [.none,.none,.none,.none,(.bN [] (some (0,13)) (.row 0 0 z.length 7) [(0,(.pure ((z:List ak).map ak.cells).flatten))]),.none,.none,(.bN [] (some (0,16)) (.row 0 0 z1.length 2) [(0,(.pure ((z1:List ag).map ag.cells).flatten))]),.nil],.nQ 3 1 56 2,.Im 56 7,.h 2 (iI (l.ab.length:Int)),.aN [2,3,19,20,21],.drop [1],.ord [2,3,13,16,56,999999]] (y3 h1 h2 (ar ah.cells l.ab)) hL
theorem eo(l:aj)(b:Nat)(c:List (ByteArray×Nat×Nat))(z:List ak)(z1:List ag)(d:List (List ai))(v:ah){r:EV}{sout:aG}{sin:aG}(hs:sin.all (fun p=>Nat.ble fn.ntmps p.1)=true)(h1:b<l.ab.length)(h2:l.ab[b]? = some v)(hL:aM l b v 0 c z z1 [] d sin r sout):au l b c z z1 d sin r sout :=
 xQ 138 [1,3,1] [.a,.q,.t,.h 0 (.row b (ah.cells v)),.h 2 .nil,.nQ 6 1 49 7,.h 2 (iI (v.points.length:Int)),.aN [2,3,6,19,20,21,29,30,31],.drop [5],.ord [2,3,6,13,16,49,56,999999]] hs (y3 (ax h1) (aY ah.cells (Eq.refl (((b:Nat):Int):Int)) h2) (ar ai.cells v.points)) hL
theorem ew(l:aj)(b:Nat)(c:List (ByteArray×Nat×Nat))(z:List ak)(z1:List ag)(d:List (List ai)){sin:aG}(hs:sin.all (fun p=>Nat.ble fn.ntmps p.1)=true)(hi:sin.all (fun p=>pN p.1||(aG.get [(999999,(.heap (cL ai.cells (d:List (List ai))))),(56,(.fY c 7)),(13,(.pure ((z:List ak).map ak.cells).flatten)),(16,(.pure ((z1:List ag).map ag.cells).flatten)),(2,(.lit [(.pv (.str l.name)),(.row 56 0 c.length 2),(.row 13 0 z.length 7),(.row 16 0 z1.length 2)]))] p.1).isSome)=true)(h1:l.ab.length≤b):au l b c z z1 d sin (.dV [.pv (.str l.name),.row 56 0 c.length 2,.row 13 0 z.length 7,.row 16 0 z1.length 2]) [(999999,(.heap (cL ai.cells (d:List (List ai))))),(56,(.fY c 7)),(13,(.pure ((z:List ak).map ak.cells).flatten)),(16,(.pure ((z1:List ag).map ag.cells).flatten)),(2,(.lit [(.pv (.str l.name)),(.row 56 0 c.length 2),(.row 13 0 z.length 7),(.row 16 0 z1.length 2)]))] :=
 wv 120 [1] [.a,.q,.f,.q,.drop [3],.ord [999999,56,13,16,2]] hs hi (y1 (ay h1))
theorem mX(l:aj)(b:Nat)(v:ah)(c:Nat)(d:List (ByteArray×Nat×Nat))(z:List ak)(z1:List ag)(g:List ai)(i:List (List ai))(v1:ai)(j k:aK){r:EV}{sout:aG}{sin:aG}(hs:sin.all (fun p=>Nat.ble fn.ntmps p.1)=true)(h1:c<v.points.length)(h2:v.points[c]? = some v1)(h3:Cp 38 [v1.x.pv,(⟨false,[],[]⟩:aK).pv] j.pv)(h4:Cp 38 [v1.y.pv,(⟨false,[],[]⟩:aK).pv] k.pv)(h5:((g++[(⟨v1.name,j,k⟩:ai)]):List ai).length*128≤140737488355328)(h6:(c+1)<9223372036854775808)(hL:aM l b v (c+1) d z z1 (g++[(⟨v1.name,j,k⟩:ai)]) i sin r sout):aM l b v c d z z1 g i sin r sout :=
 xQ 177 [1,3,1,1,6,1] [.a,.q,.t,.h 0 (.row c (ai.cells v1)),dr 14 3 [.none,.none,.none,.none,.none,.none,.none,(.pv j.pv),.none,.none,.none,(.pv k.pv),.none,.none,(.app ((g++[(⟨v1.name,j,k⟩:ai)]):List ai).length (((g++[(⟨v1.name,j,k⟩:ai)]):List ai).map ai.cells).flatten)],.h 0 (iI (((c+1):Nat):Int)),.aN [2,3,6,19,20,21,29,30,31],.drop [48,8],.ord [2,3,6,13,16,49,56,999999]] hs (y6 (ax h1) (aY ai.cells (Eq.refl (((c:Nat):Int):Int)) h2) h3 h4 (pr fm (g:List ai) ([(⟨v1.name,j,k⟩:ai)]:List ai) 128 (Eq.refl (g:List ai).length) (Eq.refl ([(⟨v1.name,j,k⟩:ai)]:List ai).length) h5 rfl) (aH h6)) hL
theorem mY(l:aj)(b:Nat)(v:ah)(c:Nat)(d:List (ByteArray×Nat×Nat))(z:List ak)(z1:List ag)(g:List ai)(i:List (List ai)){r:EV}{sout:aG}{sin:aG}(hs:sin.all (fun p=>Nat.ble fn.ntmps p.1)=true)(h1:v.points.length≤c)(h2:(d++[(v.name,i.length,g.length)]).length*40≤140737488355328)(h3:(b+1)<9223372036854775808)(hL:au l (b+1) (d++[(v.name,i.length,g.length)]) z z1 (i++[g]) sin r sout):aM l b v c d z z1 g i sin r sout :=
 xQ 174 [1,2,6,1] [.a,.q,.f,.Ik 6 1 i.length (cL ai.cells ((i++[g]):List (List ai))),.aR [.o,.o,.o,.Ew,(.Ko (d++[(v.name,i.length,g.length)]).length (.fY (d++[(v.name,i.length,g.length)]) 7))],.h 0 (iI (((b+1):Nat):Int)),.aN [2,3,19,20,21],.drop [55,6],.ord [2,3,13,16,56,999999]] hs (y4 (ay h1) (LV ai.cells (i:List (List ai)) (g:List ai)) (IM d (v.name,i.length,g.length) 40 h2 rfl) (aH h3)) hL
end eZ
namespace eE
@[reducible] def fn:Func:=Tryz.f50
def bM:List eh:=focus [0,2,0,2,0,2,0,2,0,0,2,0,0] [.code (az fn)]
def inv1(NJ:Nat)(l:aj)(ym:List (ByteArray×Nat×Nat))(heap:List (List ai)):St:=⟨[(1,(.ptr 1 0)),(2,(.ptr 2 0)),(3,(.ptr 3 0)),(4,(eI (NJ:Int)))],[(1,(.lit [(.pv (.str l.name)),(.pv (bG ah.cells l.ab)),(.pv (bG ak.cells l.aq)),(.pv (bG ag.cells l.an))])),(2,(.lit [(.pv (.str (ByteArray.mk #[]))),(.pv (.list [])),(.pv (.list [])),(.pv (.list []))])),(3,(.lit [(.pv (.str l.name)),(.row 49 0 ym.length 2),(.row 13 0 l.aq.length 7),(.row 19 0 l.an.length 2)])),(13,(.pure ((l.aq:List ak).map ak.cells).flatten)),(19,(.pure ((l.an:List ag).map ag.cells).flatten)),(49,(.fY ym 7)),(999999,(.heap (cL ai.cells (heap:List (List ai)))))]⟩
@[reducible] def au(NJ:Nat)(l:aj)(ym:List (ByteArray×Nat×Nat))(heap:List (List ai))(sin:aG)(r:EV)(sout:aG):Prop:=LX bp fn bM (inv1 NJ l ym heap) sin r sout
theorem e0(l:aj){r:EV}{sout:aG}(h1:(([]:List ak)++l.aq:List ak).length*64≤140737488355328)(h2:(([]:List ag)++l.an:List ag).length*24≤140737488355328)(hL:au 0 l [] [] [] r sout):av bp 50 [(.pv l.pv)] [] r sout :=
 AM Tryz.func50 99 [6,6] [.qp,.q,.h 2 .nil,.nQ 3 2 13 7,.nQ 3 3 19 2,.nQ 3 1 49 2,.Im 49 7,.h 4 (.app (l.aq:List ak).length ((l.aq:List ak).map ak.cells).flatten),.h 4 (.app (l.an:List ag).length ((l.an:List ag).map ag.cells).flatten),.q,.aN [1,2,3,4],.ord [1,2,3,13,19,49,999999]] (y2 (rX fX ([]:List ak) (l.aq:List ak) 64 (Eq.refl ([]:List ak).length) h1 rfl) (rX dw ([]:List ag) (l.an:List ag) 24 (Eq.refl ([]:List ag).length) h2 rfl)) hL
theorem eo(b:Nat)(l:aj)(c:List (ByteArray×Nat×Nat))(d:List (List ai))(v:ah){r:EV}{sout:aG}{sin:aG}(hs:sin.all (fun p=>Nat.ble fn.ntmps p.1)=true)(h1:b<l.ab.length)(h2:l.ab[b]? = some v)(h3:(([]:List ai)++v.points:List ai).length*128≤140737488355328)(h4:(c++[(v.name,d.length,v.points.length)]).length*40≤140737488355328)(h5:(b+1)<9223372036854775808)(hL:au (b+1) l (c++[(v.name,d.length,v.points.length)]) (d++[v.points]) sin r sout):au b l c d sin r sout :=
 xQ 144 [1,1,3,3,6,2,6,1] [.a,.h 3 (iI (l.ab.length:Int)),.t,.aR [.o,.o,.o,(.row b (ah.cells v)),.o,.o,.nil],.nQ 5 1 43 7,dr 8 3 [.none,.none,.none,.none,.none,(.row b (ah.cells v)),.none,.none,(.app (v.points:List ai).length ((v.points:List ai).map ai.cells).flatten)],.Ik 5 1 d.length (cL ai.cells ((d++[v.points]):List (List ai))),.aR [.o,.o,.o,.Ew,(.Ko (c++[(v.name,d.length,v.points.length)]).length (.fY (c++[(v.name,d.length,v.points.length)]) 7))],.h 1 (iI (((b+1):Nat):Int)),.aN [1,2,3,4],.drop [48,5],.ord [1,2,3,13,19,49,999999]] hs (y8 (ar ah.cells l.ab) (ax h1) (aY ah.cells (Eq.refl (((b:Nat):Int):Int)) h2) (aY ah.cells (Eq.refl (((b:Nat):Int):Int)) h2) (rX fm ([]:List ai) (v.points:List ai) 128 (Eq.refl ([]:List ai).length) h3 rfl) (LV ai.cells (d:List (List ai)) (v.points:List ai)) (IM c (v.name,d.length,v.points.length) 40 h4 rfl) (aH h5)) hL
theorem ew(b:Nat)(l:aj)(c:List (ByteArray×Nat×Nat))(d:List (List ai)){sin:aG}(hs:sin.all (fun p=>Nat.ble fn.ntmps p.1)=true)(hi:sin.all (fun p=>pN p.1||(aG.get [(999999,(.heap (cL ai.cells (d:List (List ai))))),(49,(.fY c 7)),(13,(.pure ((l.aq:List ak).map ak.cells).flatten)),(19,(.pure ((l.an:List ag).map ag.cells).flatten)),(2,(.lit [(.pv (.str l.name)),(.row 49 0 c.length 2),(.row 13 0 l.aq.length 7),(.row 19 0 l.an.length 2)]))] p.1).isSome)=true)(h1:l.ab.length≤b):au b l c d sin (.dV [.pv (.str l.name),.row 49 0 c.length 2,.row 13 0 l.aq.length 7,.row 19 0 l.an.length 2]) [(999999,(.heap (cL ai.cells (d:List (List ai))))),(49,(.fY c 7)),(13,(.pure ((l.aq:List ak).map ak.cells).flatten)),(19,(.pure ((l.an:List ag).map ag.cells).flatten)),(2,(.lit [(.pv (.str l.name)),(.row 49 0 c.length 2),(.row 13 0 l.aq.length 7),(.row 19 0 l.an.length 2)]))] :=
 wv 132 [1,1] [.a,.h 3 (iI (l.ab.length:Int)),.f,.q,.drop [1,3],.ord [999999,49,13,19,2]] hs hi (y2 (ar ah.cells l.ab) (ay h1))
end eE
namespace ef
@[reducible] def fn:Func:=Tryz.f12
def bM:List eh:=focus [0,2,0,0,2,0,2,1,2,0,0,2,1,2,0,2,0,0,2,0,0] [.code (az fn)]
def inv1(ab:List (ByteArray×Nat×Nat))(vf:Nat)(rm:aK)(name:ByteArray)(aq:List ak)(an:List ag)(heap:List (List ai)):St:=⟨[(3,(.ptr 3 0)),(4,(.ptr 4 0)),(7,(.ptr 7 0)),(31,(.row 65 0 ab.length 2)),(32,(eI (ab.length:Int))),(33,(eI (vf:Int)))],[(3,(.lit [(eB rm.neg),(.pv (aa rm.num)),(.pv (aa rm.den))])),(4,(.lit [(.pv (.str (ByteArray.mk #[]))),(.pv (.list [])),(.pv (.list [])),(.pv (.list []))])),(7,(.lit [(.pv (.str name)),(.row 65 0 ab.length 2),(.row 64 0 aq.length 7),(.row 63 0 an.length 2)])),(63,(.pure ((an:List ag).map ag.cells).flatten)),(64,(.pure ((aq:List ak).map ak.cells).flatten)),(65,(.fY ab 7)),(999999,(.heap (cL ai.cells (heap:List (List ai)))))]⟩
@[reducible] def au(ab:List (ByteArray×Nat×Nat))(vf:Nat)(rm:aK)(name:ByteArray)(aq:List ak)(an:List ag)(heap:List (List ai))(r:PV):Prop:=L bp fn bM (inv1 ab vf rm name aq an heap) r
def fw:List eh:=focus [0,2,0,0,2,0,2,1,2,0,0,2,1,2,0,2,0,0,2,0,0,0,0,2,0,0,2,0,0,0,2,0,2,0,0] [.code (az fn)]
def inv2(ab:List (ByteArray×Nat×Nat))(vf j l lN:Nat)(rm:aK)(name:ByteArray)(aq:List ak)(an:List ag)(nm:ByteArray)(heap:List (List ai)):St:=⟨[(3,(.ptr 3 0)),(4,(.ptr 4 0)),(7,(.ptr 7 0)),(9,(.ptr 9 0)),(31,(.row 65 0 ab.length 2)),(32,(eI (ab.length:Int))),(33,(eI (vf:Int))),(38,(.cv j l 7)),(39,(eI (l:Int))),(40,(eI (lN:Int)))],[(3,(.lit [(eB rm.neg),(.pv (aa rm.num)),(.pv (aa rm.den))])),(4,(.lit [(.pv (.str (ByteArray.mk #[]))),(.pv (.list [])),(.pv (.list [])),(.pv (.list []))])),(7,(.lit [(.pv (.str name)),(.row 65 0 ab.length 2),(.row 64 0 aq.length 7),(.row 63 0 an.length 2)])),(9,(.lit [(.pv (.str nm)),(.cv j l 7)])),(63,(.pure ((an:List ag).map ag.cells).flatten)),(64,(.pure ((aq:List ak).map ak.cells).flatten)),(65,(.fY ab 7)),(999999,(.heap (cL ai.cells (heap:List (List ai)))))]⟩
@[reducible] def aM(ab:List (ByteArray×Nat×Nat))(vf j l lN:Nat)(rm:aK)(name:ByteArray)(aq:List ak)(an:List ag)(nm:ByteArray)(heap:List (List ai))(r:PV):Prop:=L bp fn fw (inv2 ab vf j l lN rm name aq an nm heap) r
theorem e0(l:aj)(b:aK)(c:Bool)(h1:Cp 23 [l.pv] .cd)(h2:Cp 34 [b.pv] (vB c))(h3:c=false):Cp 12 [l.pv,b.pv] (.bx [(⟨(ByteArray.mk #[]),[],[],[]⟩:aj).pv,(.iface 74 (vI 3))]) :=
 eD Tryz.func12 105 [1,1,1,1,1,1] [.q,.h 1 (.pv .cd),.q,.a,.aR [.o,(.pv (vB c)),.o,.o,.skip,.skip,.skip,(.dec true)],.a,.q] (y6 h1 h2 (aF h3) (aF h3) (aF h3) (aF h3))
theorem e1(l:aj)(b:aK)(c:Bool)(d:Int)(h1:Cp 23 [l.pv] .cd)(h2:Cp 34 [b.pv] (vB c))(h3:c=true)(h4:Cp 35 [b.pv] (vI d))(h5:d≤0):Cp 12 [l.pv,b.pv] (.bx [(⟨(ByteArray.mk #[]),[],[],[]⟩:aj).pv,(.iface 74 (vI 3))]) :=
 eD Tryz.func12 105 [1,1,1,1,1,1,1,1] [.q,.h 1 (.pv .cd),.q,.a,.aR [.o,(.pv (vB c)),.o,.o,.o,(.pv (vI d)),.o,(.dec false)],.t,.q] (y8 h1 h2 (ae h3) (ae h3) h4 (ae h3) (ae h3) (dz h5))
theorem e2(l:aj)(b:aK)(c:Bool)(d:Int)(g:ByteArray)(i:List (ByteArray×Nat×Nat))(j:List ak)(k:List ag)(X:List (List ai)){r:PV}(h1:Cp 23 [l.pv] .cd)(h2:Cp 34 [b.pv] (vB c))(h3:c=true)(h4:Cp 35 [b.pv] (vI d))(h5:0<d)(h6:av bp 36 [.pv l.pv] [] (.dV [.pv (.str g),.row 56 0 i.length 2,.row 13 0 j.length 7,.row 16 0 k.length 2]) [(999999,(.heap (cL ai.cells (X:List (List ai))))),(56,(.fY i 7)),(13,(.pure ((j:List ak).map ak.cells).flatten)),(16,(.pure ((k:List ag).map ag.cells).flatten))])(hL:au i 0 b g j k X r):Cp 12 [l.pv,b.pv] r :=
 eG Tryz.func12 123 [1,1,1,1,1,1,1,1,2] [.q,.h 1 (.pv .cd),.q,.a,.aR [.o,(.pv (vB c)),.o,.o,.o,(.pv (vI d)),.o,(.dec false)],.f,.h 1 (.FK [(56,65),(13,64),(16,63)] [.pv (.str g),.row 56 0 i.length 2,.row 13 0 j.length 7,.row 16 0 k.length 2] [(56,(.fY i 7)),(13,(.pure ((j:List ak).map ak.cells).flatten)),(16,(.pure ((k:List ag).map ag.cells).flatten))] (cL ai.cells (X:List (List ai)))),.q,.aN [3,4,7,31,32,33],.drop [2],.ord [3,4,7,63,64,65,999999]] (y9 h1 h2 (ae h3) (ae h3) h4 (ae h3) (ae h3) (eL h5) (cj (LW 56 13 16 i ((j:List ak).map ak.cells).flatten ((k:List ag).map ag.cells).flatten) h6)) hL
theorem e3(l:aj)(b:aK)(c:Int)(h1:Cp 23 [l.pv] (.iface 74 (vI c))):Cp 12 [l.pv,b.pv] (.bx [(⟨(ByteArray.mk #[]),[],[],[]⟩:aj).pv,(.iface 74 (vI c))]) :=
 eD Tryz.func12 90 [1] [.q,.h 1 (.pv (.iface 74 (vI c))),.q,.a,.q] (y1 h1)
theorem eo(b:List (ByteArray×Nat×Nat))(c:Nat)(d:aK)(g:ByteArray)(i:List ak)(k:List ag)(m:List (List ai))(nm:ByteArray)(j l:Nat){r:PV}(h1:c<b.length)(h2:b[c]? = some (nm,j,l))(hL:aM b c j l 0 d g i k nm m r):au b c d g i k m r :=
 lG 165 [1,2,2] [.a,.q,.t,.aR [(.nat c),(.ev (.dV [.pv (.str nm),.cv j l 7]))],.q,.aN [3,4,7,9,31,32,33,38,39,40],.ord [3,4,7,9,63,64,65,999999]] (y3 (ax h1) (cj (Eq.refl (((c:Nat):Int):Int)) h1) (KU h2)) hL
theorem ew(b:List (ByteArray×Nat×Nat))(c:Nat)(d:aK)(g:ByteArray)(i:List ak)(j:List ag)(k:List (List ai))(bs:List ah)(h1:b.length≤c)(h2:GA b k bs):au b c d g i j k (.bx [(⟨g,bs,i,j⟩:aj).pv,.cd]) :=
 lD 156 [1,2,3,3] [.a,.q,.f,.Il 7 1 ((bs:List ah).map ah.cells),.xM 7 2 ((i:List ak).map ak.cells),.xM 7 3 ((j:List ag).map ag.cells),.q] (y4 (ay h1) (JT h2) (eM fX (i:List ak) (Eq.refl (i:List ak).length)) (eM dw (j:List ag) (Eq.refl (j:List ag).length)))
theorem og(ab:List (ByteArray×Nat×Nat))(vf j l lN:Nat)(rm:aK)(name:ByteArray)(aq:List ak)(an:List ag)(nm:ByteArray)(heap:List (List ai))(rV:List ai)(v:ai)(mul wM:aK):uX bp mr fn.ntmps (bA (focus [0,2,0,0,2,0,2,1,2,0,0,2,1,2,0,2,0,0,2,0,0,0,0,2,0,0,2,0,0,0,2,0,2,0,0,0,0,2,0,0,2,0,0,0,2] [.code (az fn)])) (lL (bA (focus [0,2,0,0,2,0,2,1,2,0,0,2,1,2,0,2,0,0,2,0,0,0,0,2,0,0,2,0,0,0,2,0,2,0,0,0,0,2,0,0,2,0,0,0,2] [.code (az fn)])) [0,2,3,5,6,10]) (jo (bA (focus [0,2,0,0,2,0,2,1,2,0,0,2,1,2,0,2,0,0,2,0,0,0,0,2,0,0,2,0,0,0,2,0,2,0,0,0,0,2,0,0,2,0,0,0,2] [.code (az fn)])) [0,2,3,5,6,10]) [.none,.none,.none,.none,.none,.none,.none,.none,.none,(.pv mul.pv),.none,.none,.none,(.pv wM.pv),(.nat lN),.none,(.uB ((rV:List ai).map ai.cells).flatten (((rV.set lN (⟨v.name,mul,v.y⟩:ai)):List ai).map ai.cells).flatten (cL ai.cells ((heap.set j (rV.set lN (⟨v.name,mul,v.y⟩:ai))):List (List ai)))),(.nat lN),.none,(.uB (((rV.set lN (⟨v.name,mul,v.y⟩:ai)):List ai).map ai.cells).flatten ((((rV.set lN (⟨v.name,mul,v.y⟩:ai)).set lN (⟨(⟨v.name,mul,v.y⟩:ai).name,((⟨v.name,mul,v.y⟩:ai).x),wM⟩:ai)):List ai).map ai.cells).flatten (cL ai.cells (((heap.set j (rV.set lN (⟨v.name,mul,v.y⟩:ai))).set j ((rV.set lN (⟨v.name,mul,v.y⟩:ai)).set lN (⟨(⟨v.name,mul,v.y⟩:ai).name,((⟨v.name,mul,v.y⟩:ai).x),wM⟩:ai))):List (List ai))))] (Ar mr fn.ntmps (bA (focus [0,2,0,0,2,0,2,1,2,0,0,2,1,2,0,2,0,0,2,0,0,0,0,2,0,0,2,0,0,0,2,0,2,0,0,0,0,2,0,0,2,0,0,0,2] [.code (az fn)])) [0,2,3,5,6,10] ⟨[(3,(.ptr 3 0)),(4,(.ptr 4 0)),(7,(.ptr 7 0)),(9,(.ptr 9 0)),(10,(eI (lN:Int))),(11,(.ptr 11 0)),(31,(.row 65 0 ab.length 2)),(32,(eI (ab.length:Int))),(33,(eI (vf:Int))),(38,(.cv j l 7)),(39,(eI (l:Int))),(40,(eI (lN:Int)))],[(11,(.lit [(.pv (.str v.name)),(eB v.x.neg),(.pv (aa v.x.num)),(.pv (aa v.x.den)),(eB v.y.neg),(.pv (aa v.y.num)),(.pv (aa v.y.den))])),(3,(.lit [(eB rm.neg),(.pv (aa rm.num)),(.pv (aa rm.den))])),(4,(.lit [(.pv (.str (ByteArray.mk #[]))),(.pv (.list [])),(.pv (.list [])),(.pv (.list []))])),(7,(.lit [(.pv (.str name)),(.row 65 0 ab.length 2),(.row 64 0 aq.length 7),(.row 63 0 an.length 2)])),(9,(.lit [(.pv (.str nm)),(.cv j l 7)])),(63,(.pure ((an:List ag).map ag.cells).flatten)),(64,(.pure ((aq:List ak).map ak.cells).flatten)),(65,(.fY ab 7)),(999999,(.heap (cL ai.cells (heap:List (List ai)))))]⟩)=uY bp mr fn.ntmps (bA (focus [0,2,0,0,2,0,2,1,2,0,0,2,1,2,0,2,0,0,2,0,0,0,0,2,0,0,2,0,0,0,2,0,2,0,0,0,0,2,0,0,2,0,0,0,2] [.code (az fn)])) (lL (bA (focus [0,2,0,0,2,0,2,1,2,0,0,2,1,2,0,2,0,0,2,0,0,0,0,2,0,0,2,0,0,0,2,0,2,0,0,0,0,2,0,0,2,0,0,0,2] [.code (az fn)])) [0,2,3,5,6,10]) (jo (bA (focus [0,2,0,0,2,0,2,1,2,0,0,2,1,2,0,2,0,0,2,0,0,0,0,2,0,0,2,0,0,0,2,0,2,0,0,0,0,2,0,0,2,0,0,0,2] [.code (az fn)])) [0,2,3,5,6,10]) [.none,.none,.none,.none,.none,.none,.none,.none,.none,(.pv mul.pv),.none,.none,.none,(.pv wM.pv),(.nat lN),.none,(.uB ((rV:List ai).map ai.cells).flatten (((rV.set lN (⟨v.name,mul,v.y⟩:ai)):List ai).map ai.cells).flatten (cL ai.cells ((heap.set j (rV.set lN (⟨v.name,mul,v.y⟩:ai))):List (List ai)))),(.nat lN),.none,(.uB (((rV.set lN (⟨v.name,mul,v.y⟩:ai)):List ai).map ai.cells).flatten ((((rV.set lN (⟨v.name,mul,v.y⟩:ai)).set lN (⟨(⟨v.name,mul,v.y⟩:ai).name,((⟨v.name,mul,v.y⟩:ai).x),wM⟩:ai)):List ai).map ai.cells).flatten (cL ai.cells (((heap.set j (rV.set lN (⟨v.name,mul,v.y⟩:ai))).set j ((rV.set lN (⟨v.name,mul,v.y⟩:ai)).set lN (⟨(⟨v.name,mul,v.y⟩:ai).name,((⟨v.name,mul,v.y⟩:ai).x),wM⟩:ai))):List (List ai))))] (Ar mr fn.ntmps (bA (focus [0,2,0,0,2,0,2,1,2,0,0,2,1,2,0,2,0,0,2,0,0,0,0,2,0,0,2,0,0,0,2,0,2,0,0,0,0,2,0,0,2,0,0,0,2] [.code (az fn)])) [0,2,3,5,6,10] ⟨[(3,(.ptr 3 0)),(4,(.ptr 4 0)),(7,(.ptr 7 0)),(9,(.ptr 9 0)),(10,(eI (lN:Int))),(11,(.ptr 11 0)),(31,(.row 65 0 ab.length 2)),(32,(eI (ab.length:Int))),(33,(eI (vf:Int))),(38,(.cv j l 7)),(39,(eI (l:Int))),(40,(eI (lN:Int)))],[(11,(.lit [(.pv (.str v.name)),(eB v.x.neg),(.pv (aa v.x.num)),(.pv (aa v.x.den)),(eB v.y.neg),(.pv (aa v.y.num)),(.pv (aa v.y.den))])),(3,(.lit [(eB rm.neg),(.pv (aa rm.num)),(.pv (aa rm.den))])),(4,(.lit [(.pv (.str (ByteArray.mk #[]))),(.pv (.list [])),(.pv (.list [])),(.pv (.list []))])),(7,(.lit [(.pv (.str name)),(.row 65 0 ab.length 2),(.row 64 0 aq.length 7),(.row 63 0 an.length 2)])),(9,(.lit [(.pv (.str nm)),(.cv j l 7)])),(63,(.pure ((an:List ag).map ag.cells).flatten)),(64,(.pure ((aq:List ak).map ak.cells).flatten)),(65,(.fY ab 7)),(999999,(.heap (cL ai.cells (heap:List (List ai)))))]⟩):=by kernel_rfl
theorem mX(b:List (ByteArray×Nat×Nat))(c j l d:Nat)(g:aK)(i:ByteArray)(k:List ak)(m:List ag)(nm:ByteArray)(n:List (List ai))(rV:List ai)(v:ai)(p s:aK){r:PV}(h1:d<l)(h2:n[j]? = some rV)(h3:rV[d]? = some v)(h4:Cp 24 [v.x.pv,g.pv] p.pv)(h5:Cp 24 [v.y.pv,g.pv] s.pv)(h6:(n.set j (rV.set d (⟨v.name,p,v.y⟩:ai)))[j]? = some (rV.set d (⟨v.name,p,v.y⟩:ai)))(h7:(rV.set d (⟨v.name,p,v.y⟩:ai))[d]? = some (⟨v.name,p,v.y⟩:ai))(h8:(d+1)<9223372036854775808)(hL:aM b c j l (d+1) g i k m nm ((n.set j (rV.set d (⟨v.name,p,v.y⟩:ai))).set j ((rV.set d (⟨v.name,p,v.y⟩:ai)).set d (⟨(⟨v.name,p,v.y⟩:ai).name,((⟨v.name,p,v.y⟩:ai).x),s⟩:ai))) r):aM b c j l d g i k m nm n r :=
 lG 204 [1,2,3,1,1,2,4,2,4,1,1] [.a,.q,.t,.aR [.o,(.nat d),(.BD ((rV:List ai).map ai.cells).flatten [(.str v.name),vB v.x.neg,aa v.x.num,aa v.x.den,vB v.y.neg,aa v.y.num,aa v.y.den])],.aN [3,4,7,9,10,11,31,32,33,38,39,40],.any [0,2,3,5,6,10] [.none,.none,.none,.none,.none,.none,.none,.none,.none,(.pv p.pv),.none,.none,.none,(.pv s.pv),(.nat d),.none,(.uB ((rV:List ai).map ai.cells).flatten (((rV.set d (⟨v.name,p,v.y⟩:ai)):List ai).map ai.cells).flatten (cL ai.cells ((n.set j (rV.set d (⟨v.name,p,v.y⟩:ai))):List (List ai)))),(.nat d),.none,(.uB (((rV.set d (⟨v.name,p,v.y⟩:ai)):List ai).map ai.cells).flatten ((((rV.set d (⟨v.name,p,v.y⟩:ai)).set d (⟨(⟨v.name,p,v.y⟩:ai).name,((⟨v.name,p,v.y⟩:ai).x),s⟩:ai)):List ai).map ai.cells).flatten (cL ai.cells (((n.set j (rV.set d (⟨v.name,p,v.y⟩:ai))).set j ((rV.set d (⟨v.name,p,v.y⟩:ai)).set d (⟨(⟨v.name,p,v.y⟩:ai).name,((⟨v.name,p,v.y⟩:ai).x),s⟩:ai))):List (List ai))))],.h 0 (iI (((d+1):Nat):Int)),.aN [3,4,7,9,31,32,33,38,39,40],.drop [11]] (Fb (ax h1) (cj (Eq.refl (((d:Nat):Int):Int)) h1) (Nj fm h2 h3) h4 h5 (cj (Eq.refl (((d:Nat):Int):Int)) h1) (sD fm h2 h3 1 [vB p.neg,aa p.num,aa p.den] (⟨v.name,p,v.y⟩:ai) rfl rfl) (cj (Eq.refl (((d:Nat):Int):Int)) h1) (sD fm h6 h7 4 [vB s.neg,aa s.num,aa s.den] (⟨(⟨v.name,p,v.y⟩:ai).name,((⟨v.name,p,v.y⟩:ai).x),s⟩:ai) rfl rfl) (og b c j l d g i k m nm n rV v p s) (aH h8)) hL
theorem mY(b:List (ByteArray×Nat×Nat))(c j l d:Nat)(g:aK)(i:ByteArray)(k:List ak)(m:List ag)(nm:ByteArray)(n:List (List ai)){r:PV}(h1:l≤d)(h2:(c+1)<9223372036854775808)(hL:au b (c+1) g i k m n r):aM b c j l d g i k m nm n r :=
 lG 198 [1,1] [.a,.q,.f,.h 0 (iI (((c+1):Nat):Int)),.aN [3,4,7,31,32,33],.drop [9]] (y2 (ay h1) (aH h2)) hL
end ef
namespace cT
@[reducible] def fn:Func:=Tryz.f20
def bM:List eh:=focus [0,2,0,2,0,0,2,0,0] [.code (az fn)]
def inv1(xd:Nat)(rm:aK)(name:ByteArray)(ab:List (ByteArray×Nat×Nat))(aq:List ak)(an:List ag)(heap:List (List ai)):St:=⟨[(3,(.ptr 3 0)),(4,(.ptr 4 0)),(5,(.ptr 5 0)),(6,(eI (xd:Int)))],[(3,(.lit [(eB rm.neg),(.pv (aa rm.num)),(.pv (aa rm.den))])),(4,(.lit [(.pv (.str (ByteArray.mk #[]))),(.pv (.list [])),(.pv (.list [])),(.pv (.list []))])),(5,(.lit [(.pv (.str name)),(.row 55 0 ab.length 2),(.row 54 0 aq.length 7),(.row 53 0 an.length 2)])),(53,(.pure ((an:List ag).map ag.cells).flatten)),(54,(.pure ((aq:List ak).map ak.cells).flatten)),(55,(.fY ab 7)),(999999,(.heap (cL ai.cells (heap:List (List ai)))))]⟩
@[reducible] def au(xd:Nat)(rm:aK)(name:ByteArray)(ab:List (ByteArray×Nat×Nat))(aq:List ak)(an:List ag)(heap:List (List ai))(r:PV):Prop:=L bp fn bM (inv1 xd rm name ab aq an heap) r
def fw:List eh:=focus [0,2,0,2,0,0,2,0,0,0,0,0,2,0,2,0,0,0,2,0,0] [.code (az fn)]
def inv2(xd vA:Nat)(rm:aK)(name:ByteArray)(ab:List (ByteArray×Nat×Nat))(aq:List ak)(an:List ag)(heap:List (List ai)):St:=⟨[(3,(.ptr 3 0)),(4,(.ptr 4 0)),(5,(.ptr 5 0)),(6,(eI (xd:Int))),(7,(eI (vA:Int)))],[(3,(.lit [(eB rm.neg),(.pv (aa rm.num)),(.pv (aa rm.den))])),(4,(.lit [(.pv (.str (ByteArray.mk #[]))),(.pv (.list [])),(.pv (.list [])),(.pv (.list []))])),(5,(.lit [(.pv (.str name)),(.row 55 0 ab.length 2),(.row 54 0 aq.length 7),(.row 53 0 an.length 2)])),(53,(.pure ((an:List ag).map ag.cells).flatten)),(54,(.pure ((aq:List ak).map ak.cells).flatten)),(55,(.fY ab 7)),(999999,(.heap (cL ai.cells (heap:List (List ai)))))]⟩
@[reducible] def aM(xd vA:Nat)(rm:aK)(name:ByteArray)(ab:List (ByteArray×Nat×Nat))(aq:List ak)(an:List ag)(heap:List (List ai))(r:PV):Prop:=L bp fn fw (inv2 xd vA rm name ab aq an heap) r
theorem e0(l:aj)(a:aK)(b:ByteArray)(c:List (ByteArray×Nat×Nat))(d:List ak)(g:List ag)(X:List (List ai)){r:PV}(h1:av bp 50 [.pv l.pv] [] (.dV [.pv (.str b),.row 49 0 c.length 2,.row 13 0 d.length 7,.row 19 0 g.length 2]) [(999999,(.heap (cL ai.cells (X:List (List ai))))),(49,(.fY c 7)),(13,(.pure ((d:List ak).map ak.cells).flatten)),(19,(.pure ((g:List ag).map ag.cells).flatten))])(hL:au 0 a b c d g X r):Cp 20 [l.pv,a.pv] r :=
 eG Tryz.func20 87 [2] [.q,.h 1 (.FK [(49,55),(13,54),(19,53)] [.pv (.str b),.row 49 0 c.length 2,.row 13 0 d.length 7,.row 19 0 g.length 2] [(49,(.fY c 7)),(13,(.pure ((d:List ak).map ak.cells).flatten)),(19,(.pure ((g:List ag).map ag.cells).flatten))] (cL ai.cells (X:List (List ai)))),.q,.aN [3,4,5,6],.drop [2],.ord [3,4,5,53,54,55,999999]] (y1 (cj (LW 49 13 19 c ((d:List ak).map ak.cells).flatten ((g:List ag).map ag.cells).flatten) h1)) hL
theorem eo(b:Nat)(c:aK)(d:ByteArray)(g:List (ByteArray×Nat×Nat))(i:List ak)(j:List ag)(k:List (List ai)){r:PV}(h1:b<g.length)(hL:aM b 0 c d g i j k r):au b c d g i j k r :=
 lG 123 [1] [.a,.q,.t,.q,.aN [3,4,5,6,7]] (y1 (ax h1)) hL
theorem ew(b:Nat)(c:aK)(d:ByteArray)(g:List (ByteArray×Nat×Nat))(i:List ak)(j:List ag)(k:List (List ai))(bs:List ah)(h1:g.length≤b)(h2:GA g k bs):au b c d g i j k ((⟨d,bs,i,j⟩:aj).pv) :=
 lD 120 [1,2,3,3] [.a,.q,.f,.Il 5 1 ((bs:List ah).map ah.cells),.xM 5 2 ((i:List ak).map ak.cells),.xM 5 3 ((j:List ag).map ag.cells),.q] (y4 (ay h1) (JT h2) (eM fX (i:List ak) (Eq.refl (i:List ak).length)) (eM dw (j:List ag) (Eq.refl (j:List ag).length)))
theorem og(xd vA:Nat)(rm:aK)(name:ByteArray)(ab:List (ByteArray×Nat×Nat))(aq:List ak)(an:List ag)(heap:List (List ai))(j:Nat)(rV:List ai)(v:ai)(mul wM:aK):uX bp mr fn.ntmps (bA (focus [0,2,0,2,0,0,2,0,0,0,0,0,2,0,2,0,0,0,2,0,0,0,0,0,2,0,2,0,0,0,2] [.code (az fn)])) (lL (bA (focus [0,2,0,2,0,0,2,0,0,0,0,0,2,0,2,0,0,0,2,0,0,0,0,0,2,0,2,0,0,0,2] [.code (az fn)])) [0,1,2,8]) (jo (bA (focus [0,2,0,2,0,0,2,0,0,0,0,0,2,0,2,0,0,0,2,0,0,0,0,0,2,0,2,0,0,0,2] [.code (az fn)])) [0,1,2,8]) [.none,.none,.none,.none,.none,(.BD ((rV:List ai).map ai.cells).flatten [(vB v.x.neg),(aa v.x.num),(aa v.x.den)]),.none,(.pv mul.pv),.none,.none,.none,(.BD ((rV:List ai).map ai.cells).flatten [(vB v.y.neg),(aa v.y.num),(aa v.y.den)]),.none,(.pv wM.pv),.none,.none,(.uB ((rV:List ai).map ai.cells).flatten (((rV.set vA (⟨v.name,mul,v.y⟩:ai)):List ai).map ai.cells).flatten (cL ai.cells ((heap.set j (rV.set vA (⟨v.name,mul,v.y⟩:ai))):List (List ai)))),.none,.none,(.uB (((rV.set vA (⟨v.name,mul,v.y⟩:ai)):List ai).map ai.cells).flatten ((((rV.set vA (⟨v.name,mul,v.y⟩:ai)).set vA (⟨(⟨v.name,mul,v.y⟩:ai).name,((⟨v.name,mul,v.y⟩:ai).x),wM⟩:ai)):List ai).map ai.cells).flatten (cL ai.cells (((heap.set j (rV.set vA (⟨v.name,mul,v.y⟩:ai))).set j ((rV.set vA (⟨v.name,mul,v.y⟩:ai)).set vA (⟨(⟨v.name,mul,v.y⟩:ai).name,((⟨v.name,mul,v.y⟩:ai).x),wM⟩:ai))):List (List ai))))] (Ar mr fn.ntmps (bA (focus [0,2,0,2,0,0,2,0,0,0,0,0,2,0,2,0,0,0,2,0,0,0,0,0,2,0,2,0,0,0,2] [.code (az fn)])) [0,1,2,8] ⟨[(3,(.ptr 3 0)),(4,(.ptr 4 0)),(5,(.ptr 5 0)),(6,(eI (xd:Int))),(7,(eI (vA:Int))),(8,(.kf j (vA*7)))],[(3,(.lit [(eB rm.neg),(.pv (aa rm.num)),(.pv (aa rm.den))])),(4,(.lit [(.pv (.str (ByteArray.mk #[]))),(.pv (.list [])),(.pv (.list [])),(.pv (.list []))])),(5,(.lit [(.pv (.str name)),(.row 55 0 ab.length 2),(.row 54 0 aq.length 7),(.row 53 0 an.length 2)])),(53,(.pure ((an:List ag).map ag.cells).flatten)),(54,(.pure ((aq:List ak).map ak.cells).flatten)),(55,(.fY ab 7)),(999999,(.heap (cL ai.cells (heap:List (List ai)))))]⟩)=uY bp mr fn.ntmps (bA (focus [0,2,0,2,0,0,2,0,0,0,0,0,2,0,2,0,0,0,2,0,0,0,0,0,2,0,2,0,0,0,2] [.code (az fn)])) (lL (bA (focus [0,2,0,2,0,0,2,0,0,0,0,0,2,0,2,0,0,0,2,0,0,0,0,0,2,0,2,0,0,0,2] [.code (az fn)])) [0,1,2,8]) (jo (bA (focus [0,2,0,2,0,0,2,0,0,0,0,0,2,0,2,0,0,0,2,0,0,0,0,0,2,0,2,0,0,0,2] [.code (az fn)])) [0,1,2,8]) [.none,.none,.none,.none,.none,(.BD ((rV:List ai).map ai.cells).flatten [(vB v.x.neg),(aa v.x.num),(aa v.x.den)]),.none,(.pv mul.pv),.none,.none,.none,(.BD ((rV:List ai).map ai.cells).flatten [(vB v.y.neg),(aa v.y.num),(aa v.y.den)]),.none,(.pv wM.pv),.none,.none,(.uB ((rV:List ai).map ai.cells).flatten (((rV.set vA (⟨v.name,mul,v.y⟩:ai)):List ai).map ai.cells).flatten (cL ai.cells ((heap.set j (rV.set vA (⟨v.name,mul,v.y⟩:ai))):List (List ai)))),.none,.none,(.uB (((rV.set vA (⟨v.name,mul,v.y⟩:ai)):List ai).map ai.cells).flatten ((((rV.set vA (⟨v.name,mul,v.y⟩:ai)).set vA (⟨(⟨v.name,mul,v.y⟩:ai).name,((⟨v.name,mul,v.y⟩:ai).x),wM⟩:ai)):List ai).map ai.cells).flatten (cL ai.cells (((heap.set j (rV.set vA (⟨v.name,mul,v.y⟩:ai))).set j ((rV.set vA (⟨v.name,mul,v.y⟩:ai)).set vA (⟨(⟨v.name,mul,v.y⟩:ai).name,((⟨v.name,mul,v.y⟩:ai).x),wM⟩:ai))):List (List ai))))] (Ar mr fn.ntmps (bA (focus [0,2,0,2,0,0,2,0,0,0,0,0,2,0,2,0,0,0,2,0,0,0,0,0,2,0,2,0,0,0,2] [.code (az fn)])) [0,1,2,8] ⟨[(3,(.ptr 3 0)),(4,(.ptr 4 0)),(5,(.ptr 5 0)),(6,(eI (xd:Int))),(7,(eI (vA:Int))),(8,(.kf j (vA*7)))],[(3,(.lit [(eB rm.neg),(.pv (aa rm.num)),(.pv (aa rm.den))])),(4,(.lit [(.pv (.str (ByteArray.mk #[]))),(.pv (.list [])),(.pv (.list [])),(.pv (.list []))])),(5,(.lit [(.pv (.str name)),(.row 55 0 ab.length 2),(.row 54 0 aq.length 7),(.row 53 0 an.length 2)])),(53,(.pure ((an:List ag).map ag.cells).flatten)),(54,(.pure ((aq:List ak).map ak.cells).flatten)),(55,(.fY ab 7)),(999999,(.heap (cL ai.cells (heap:List (List ai)))))]⟩):=by kernel_rfl
theorem mX(b c:Nat)(d:aK)(g:ByteArray)(i:List (ByteArray×Nat×Nat))(k:List ak)(m:List ag)(n:List (List ai))(nm:ByteArray)(j l:Nat)(rV:List ai)(v:ai)(p q:aK){r:PV}(h1:b<i.length)(h2:i[b]? = some (nm,j,l))(h3:c<l)(h4:n[j]? = some rV)(h5:rV[c]? = some v)(h6:Cp 51 [v.x.pv,d.pv] p.pv)(h7:Cp 51 [v.y.pv,d.pv] q.pv)(h8:(n.set j (rV.set c (⟨v.name,p,v.y⟩:ai)))[j]? = some (rV.set c (⟨v.name,p,v.y⟩:ai)))(h9:(rV.set c (⟨v.name,p,v.y⟩:ai))[c]? = some (⟨v.name,p,v.y⟩:ai))(bg:(c+1)<9223372036854775808)(hL:aM b (c+1) d g i k m ((n.set j (rV.set c (⟨v.name,p,v.y⟩:ai))).set j ((rV.set c (⟨v.name,p,v.y⟩:ai)).set c (⟨(⟨v.name,p,v.y⟩:ai).name,((⟨v.name,p,v.y⟩:ai).x),q⟩:ai))) r):aM b c d g i k m n r :=
 lG 162 [2,1,1,2,1,2,3,1,3,1,4,4,1,1] [.a,.aR [.o,.o,.o,.o,(.nat b),.o,(.ev (.cv j l 7))],.t,.aR [.o,.o,.o,(.nat b),.o,(.ev (.cv j l 7)),.o,(.nat c)],.aN [3,4,5,6,7,8],.any [0,1,2,8] [.none,.none,.none,.none,.none,(.BD ((rV:List ai).map ai.cells).flatten [vB v.x.neg,aa v.x.num,aa v.x.den]),.none,(.pv p.pv),.none,.none,.none,(.BD ((rV:List ai).map ai.cells).flatten [vB v.y.neg,aa v.y.num,aa v.y.den]),.none,(.pv q.pv),.none,.none,(.uB ((rV:List ai).map ai.cells).flatten (((rV.set c (⟨v.name,p,v.y⟩:ai)):List ai).map ai.cells).flatten (cL ai.cells ((n.set j (rV.set c (⟨v.name,p,v.y⟩:ai))):List (List ai)))),.none,.none,(.uB (((rV.set c (⟨v.name,p,v.y⟩:ai)):List ai).map ai.cells).flatten ((((rV.set c (⟨v.name,p,v.y⟩:ai)).set c (⟨(⟨v.name,p,v.y⟩:ai).name,((⟨v.name,p,v.y⟩:ai).x),q⟩:ai)):List ai).map ai.cells).flatten (cL ai.cells (((n.set j (rV.set c (⟨v.name,p,v.y⟩:ai))).set j ((rV.set c (⟨v.name,p,v.y⟩:ai)).set c (⟨(⟨v.name,p,v.y⟩:ai).name,((⟨v.name,p,v.y⟩:ai).x),q⟩:ai))):List (List ai))))],.h 1 (iI (((c+1):Nat):Int)),.aN [3,4,5,6,7]] (G9 (cj (Eq.refl (((b:Nat):Int):Int)) h1) (Fa h2) (ax h3) (cj (Eq.refl (((b:Nat):Int):Int)) h1) (Fa h2) (cj (Eq.refl (((c:Nat):Int):Int)) h3) (Gc fm h4 h5 1 3 rfl) h6 (Gc fm h4 h5 4 3 rfl) h7 (sD fm h4 h5 1 [vB p.neg,aa p.num,aa p.den] (⟨v.name,p,v.y⟩:ai) rfl rfl) (sD fm h8 h9 4 [vB q.neg,aa q.num,aa q.den] (⟨(⟨v.name,p,v.y⟩:ai).name,((⟨v.name,p,v.y⟩:ai).x),q⟩:ai) rfl rfl) (og b c d g i k m n j rV v p q) (aH bg)) hL
theorem mY(b c:Nat)(d:aK)(g:ByteArray)(i:List (ByteArray×Nat×Nat))(k:List ak)(m:List ag)(n:List (List ai))(nm:ByteArray)(j l:Nat){r:PV}(h1:b<i.length)(h2:i[b]? = some (nm,j,l))(h3:l≤c)(h4:(b+1)<9223372036854775808)(hL:au (b+1) d g i k m n r):aM b c d g i k m n r :=
 lG 156 [2,1,1,1] [.a,.aR [.o,.o,.o,.o,(.nat b),.o,(.ev (.cv j l 7))],.f,.h 1 (iI (((b+1):Nat):Int)),.aN [3,4,5,6]] (y4 (cj (Eq.refl (((b:Nat):Int):Int)) h1) (Fa h2) (ay h3) (aH h4)) hL
end cT
end Go.Proofs.YtfjfekodeplcoaaGreat.Sym.Path
namespace Go.Proofs.YtfjfekodeplcoaaGreat.Sym
open Go Path fB Go.RowKit
set_option linter.unusedVariables false
def rj(bs:List ah):List (ByteArray×Nat×Nat):=bs.zipIdx.map fun x=>(x.1.name,x.2,x.1.points.length)
def oz(bs:List ah):List (List ai):=bs.map ah.points
theorem nI(bs:List ah):(rj bs).length=bs.length:=by unfold rj;rw[List.length_map,List.length_zipIdx]
theorem Eb(xs:List ah)(v:ah):rj (xs++[v])=rj xs++[(v.name,(oz xs).length,v.points.length)]:=by
 unfold rj oz
 rw[List.zipIdx_append,List.map_append,List.length_map]
 simp
theorem CF{bs:List ah}{k:Nat}{b:ah}(h:bs[k]? = some b):(rj bs)[k]? = some (b.name,k,b.points.length):=by
 unfold rj
 rw[List.getElem?_map,List.getElem?_zipIdx,h]
 simp
theorem Qr{f:FuncId}{args:List EV}{sin:aG}{fs:List FE}{a b c:Nat}{X:List (Option (List PV))}{H:List (ByteArray×Nat×Nat)}{q r:List PV}{s:aG}(ha:a<999999)(hb:b<999999)(GC:c<999999)
  (h:av bp f args sin (.dV fs) ((999999,.heap X)::(a,.fY H 7)::(b,.pure q)::(c,.pure r)::s)) (BB:∀y off len sz,FE.row y off len sz∈fs→y=a∨y=b∨y=c) (MZ:∀j len sz,FE.cv j len sz ∉ fs) :
  av bp f args sin (.dV fs) [(999999,.heap X),(a,.fY H 7),(b,.pure q),(c,.pure r)]:=by
 have JU:∀ps:List PV,uQ ((SC.pure ps).jc):=fun ps=>wb.jc (sc := .pure ps) True.intro
 refine h.RH (fun x sc hx => ?_) (fun j hj => ?_) (fun y off len sz hy => ?_) MZ
 ·rw[rR] at hx ⊢
  by_cases h9:x<999999
  ·rw[if_pos h9] at hx ⊢
   simp only[aG.cp] at hx ⊢
   cases h1:Nat.beq a x with
   |true=>rw[h1,cond_true] at hx;rw[cond_true];injection hx with hx;subst hx;exact⟨rfl,ss H⟩
   |false =>
    rw[h1,cond_false] at hx;rw[cond_false]
    cases h2:Nat.beq b x with
    |true=>rw[h2,cond_true] at hx;rw[cond_true];injection hx with hx;subst hx;exact⟨rfl,JU _⟩
    |false =>
     rw[h2,cond_false] at hx;rw[cond_false]
     cases h3:Nat.beq c x with
     |true=>rw[h3,cond_true] at hx;rw[cond_true];injection hx with hx;subst hx;exact⟨rfl,JU _⟩
     |false=>rw[h3,cond_false] at hx;cases hx
  ·rw[if_neg h9] at hx ⊢
   by_cases bg:x<1000000
   ·rw[if_pos bg] at hx;cases hx
   ·rw[if_neg bg] at hx ⊢
    refine⟨hx,?_⟩
    unfold cY at hx
    split at hx
    ·injection hx with hx;subst hx;exact JU _
    ·cases hx
 ·unfold aS at hj ⊢
  rw[rR] at hj ⊢
  rw[if_neg (by unfold hc;omega),if_neg (by unfold hc;omega)] at hj ⊢
  exact hj
 ·unfold aS
  rw[rR]
  have h9:y<999999:=by rcases BB y off len sz hy with rfl|rfl|rfl<;>assumption
  rw[if_pos h9]
  simp only[aG.cp]
  rcases BB y off len sz hy with rfl|rfl|rfl
  ·rw[Nat.beq_refl];rfl
  ·cases h1:Nat.beq a y<;>simp
  ·cases h1:Nat.beq a y<;>cases h2:Nat.beq b y<;>simp
def tA(q:Rat)(m:ai):ai:=⟨m.name,gN (m.x.val*q),gN (m.y.val*q)⟩
def AT(q:Rat)(b:ah):ah:=⟨b.name,b.points.map (tA q)⟩
def rn(q:Rat)(l:aj):aj:=⟨l.name,l.ab.map (AT q),l.aq,l.an⟩
def At(q:Rat)(bs:List ah)(c d:Nat)(n:List (List ai)):Prop :=
 ∀(i:Nat) b,bs[i]? = some b→n[i]? = some (if i<c then b.points.map (tA q) else if i=c then (b.points.take d).map (tA q)++b.points.drop d else b.points)
theorem At.start(q:Rat)(bs:List ah):At q bs 0 0 (oz bs):=fun i b h=>by
 unfold oz
 rw[List.getElem?_map,h,if_neg (by omega)]
 split<;>simp
theorem At.next{q:Rat}{bs:List ah}{c:Nat}{n:List (List ai)}{v:ah}(hv:bs[c]? = some v)(h:At q bs c v.points.length n):At q bs (c+1) 0 n:=fun i b hb=>by
 rw[h i b hb]
 by_cases h1:i<c
 ·rw[if_pos h1,if_pos (by omega)]
 ·by_cases h2:i=c
  ·subst h2
   rw[hv] at hb;injection hb with hb;subst hb
   rw[if_neg h1,if_pos rfl,if_pos (by omega),List.take_length,List.drop_length,List.append_nil]
  ·rw[if_neg h1,if_neg h2,if_neg (by omega)]
   split<;>simp
theorem At.row{q:Rat}{bs:List ah}{c d:Nat}{n:List (List ai)}{v:ah}(hv:bs[c]? = some v)(h:At q bs c d n):n[c]? = some ((v.points.take d).map (tA q)++v.points.drop d):=by
 rw[h c v hv,if_neg (by omega),if_pos rfl]
theorem JV{q:Rat}{ms:List ai}{d:Nat}{p:ai}(h:ms[d]? = some p):((ms.take d).map (tA q)++ms.drop d)[d]? = some p:=by
 have hd:=(List.getElem?_eq_some_iff.1 h).1
 rw[List.getElem?_append_right (by rw[List.length_map,List.length_take];omega),List.length_map,List.length_take,Nat.min_eq_left (by omega),Nat.sub_self,List.getElem?_drop,Nat.add_zero]
 exact h
theorem Lv{q:Rat}{ms:List ai}{d:Nat}{p x:ai}(h:ms[d]? = some p):(((ms.take d).map (tA q)++ms.drop d).set d x).set d (tA q p)=(ms.take (d+1)).map (tA q)++ms.drop (d+1):=by
 have hd:=(List.getElem?_eq_some_iff.1 h).1
 rw[List.set_set]
 apply List.ext_getElem?
 intro i
 have hl:((ms.take d).map (tA q)).length=d:=by rw[List.length_map,List.length_take];omega
 have J6:((ms.take (d+1)).map (tA q)).length=d+1:=by rw[List.length_map,List.length_take];omega
 rw[List.getElem?_set]
 by_cases h1:d=i
 ·subst h1
  rw[if_pos rfl,if_pos (by rw[List.length_append,hl,List.length_drop];omega),List.getElem?_append_left (by omega),List.getElem?_map,List.getElem?_take,if_pos (by omega),h]
  rfl
 ·rw[if_neg h1]
  by_cases h2:i<d
  ·rw[List.getElem?_append_left (by omega),List.getElem?_append_left (by omega),List.getElem?_map,List.getElem?_map,List.getElem?_take,List.getElem?_take,if_pos h2,if_pos (by omega)]
  ·rw[List.getElem?_append_right (by omega),List.getElem?_append_right (by omega),hl,J6,List.getElem?_drop,List.getElem?_drop]
   congr 1;omega
theorem At.step{q:Rat}{bs:List ah}{c d:Nat}{n:List (List ai)}{v:ah}{p x:ai}{A:List ai}(hv:bs[c]? = some v)(hp:v.points[d]? = some p)(h:At q bs c d n) :
  At q bs c (d+1) ((n.set c A).set c ((((v.points.take d).map (tA q)++v.points.drop d).set d x).set d (tA q p))):=fun i b hb=>by
 rw[List.set_set,Lv hp,List.getElem?_set]
 by_cases h1:c=i
 ·subst h1
  rw[hv] at hb;injection hb with hb;subst hb
  have:=(List.getElem?_eq_some_iff.1 (h.row hv)).1
  rw[if_pos rfl,if_pos this,if_neg (by omega),if_pos rfl]
 ·rw[if_neg h1,h i b hb]
  by_cases h2:i<c
  ·rw[if_pos h2,if_pos h2]
  ·rw[if_neg h2,if_neg h2,if_neg (Ne.symm h1),if_neg (Ne.symm h1)]
theorem At.done{q:Rat}{bs:List ah}{n:List (List ai)}(h:At q bs bs.length 0 n):GA (rj bs) n (bs.map (AT q)):=by
 refine⟨by rw[nI,List.length_map],fun i b hb => ?_⟩
 rw[List.getElem?_map] at hb
 obtain⟨v,hv,rfl⟩:=Option.map_eq_some_iff.1 hb
 refine⟨i,by rw[CF hv];simp[AT],?_⟩
 have:=(List.getElem?_eq_some_iff.1 hv).1
 rw[h i v hv,if_pos (by omega)];rfl
namespace fF
theorem CG{l:aj}(hl:Ok l)(hf:lM l):av bp 36 [.pv l.pv] [] (.dV [.pv (.str l.name),.row 56 0 (rj l.ab).length 2,.row 13 0 l.aq.length 7,.row 16 0 l.an.length 2]) [(999999,(.heap (cL ai.cells ((oz l.ab:List (List ai)))))),(56,(.fY (rj l.ab) 7)),(13,(.pure ((l.aq:List ak).map ak.cells).flatten)),(16,(.pure ((l.an:List ag).map ag.cells).flatten))]:=by
 refine Qr (s:=[(2,(.lit [(.pv (.str l.name)),(.row 56 0 (rj l.ab).length 2),(.row 13 0 l.aq.length 7),(.row 16 0 l.an.length 2)]))]) (by omega) (by omega) (by omega) ?_ (fun y off len sz h=>by simpa using(show y=56∨y=13∨y=16 by simp at h;omega)) (by simp)
 refine eZ.e0 l l.aq l.an (JJ _ (by have:=hl.jl;omega)) (JK _ (by have:=hl.dl;omega)) ?_
 have key:∀(m b:Nat),b+m=l.ab.length→eZ.au l b (rj (l.ab.take b)) l.aq l.an (oz (l.ab.take b)) [] (.dV [.pv (.str l.name),.row 56 0 (rj l.ab).length 2,.row 13 0 l.aq.length 7,.row 16 0 l.an.length 2]) [(999999,(.heap (cL ai.cells ((oz l.ab:List (List ai)))))),(56,(.fY (rj l.ab) 7)),(13,(.pure ((l.aq:List ak).map ak.cells).flatten)),(16,(.pure ((l.an:List ag).map ag.cells).flatten)),(2,(.lit [(.pv (.str l.name)),(.row 56 0 (rj l.ab).length 2),(.row 13 0 l.aq.length 7),(.row 16 0 l.an.length 2)]))]:=by
  intro m
  induction m with
  |zero =>
   intro b hb
   have e:l.ab.take b=l.ab:=List.take_of_length_le (by omega)
   rw[e]
   exact eZ.ew l b (rj l.ab) l.aq l.an (oz l.ab) rfl rfl (by omega)
  |succ m ih =>
   intro b hb
   have hv:=List.getElem?_eq_getElem (l:=l.ab) (i:=b) (by omega)
   generalize l.ab[b]=v at hv
   have rl:=hl.ab v (List.mem_of_getElem? hv)
   have Ho:=hf.ab v (List.mem_of_getElem? hv)
   have h8:=rl.2.len
   have UF:=hl.len
   refine eZ.eo l b _ _ _ _ v rfl (by omega) hv ?_
   have FF:∀(m c:Nat),c+m=v.points.length→eZ.aM l b v c (rj (l.ab.take b)) l.aq l.an (v.points.take c) (oz (l.ab.take b)) [] (.dV [.pv (.str l.name),.row 56 0 (rj l.ab).length 2,.row 13 0 l.aq.length 7,.row 16 0 l.an.length 2]) [(999999,(.heap (cL ai.cells ((oz l.ab:List (List ai)))))),(56,(.fY (rj l.ab) 7)),(13,(.pure ((l.aq:List ak).map ak.cells).flatten)),(16,(.pure ((l.an:List ag).map ag.cells).flatten)),(2,(.lit [(.pv (.str l.name)),(.row 56 0 (rj l.ab).length 2),(.row 13 0 l.aq.length 7),(.row 16 0 l.an.length 2)]))]:=by
    intro m
    induction m with
    |zero =>
     intro c hc
     have e:v.points.take c=v.points:=List.take_of_length_le (by omega)
     rw[e]
     have h:=ih (b+1) (by omega)
     rw[iH hv,Eb,show oz (l.ab.take b++[v])=oz (l.ab.take b)++[v.points] by unfold oz;rw[List.map_append];rfl] at h
     exact eZ.mY l b v c _ _ _ v.points _ rfl (by omega) (by rw[List.length_append,nI,List.length_take,List.length_singleton];omega) (by omega) h
    |succ m BM =>
     intro c hc
     have hp:=List.getElem?_eq_getElem (l:=v.points) (i:=c) (by omega)
     generalize v.points[c]=p at hp
     have Qo:=rl.2.all p (List.mem_of_getElem? hp)
     have Bv:=Ho.2 p (List.mem_of_getElem? hp)
     have h:=BM (c+1) (by omega)
     rw[iH hp] at h
     exact eZ.mX l b v c _ _ _ _ _ p p.x p.y rfl (by omega) hp (yj Bv.2.1 Qo.2.1) (yj Bv.2.2 Qo.2.2) (by rw[List.length_append,List.length_take,List.length_singleton];omega) (by omega) h
   exact FF v.points.length 0 (by omega)
 exact key l.ab.length 0 (by omega)
theorem vx{l:aj}(hl:Ok l)(hf:lM l){q:aK}(hq:fi q)(hv:q.valid=true)(hp:0<q.val):Cp 12 [l.pv,q.pv] (.bx [(rn q.val l).pv,.cd]):=by
 have hc:=Check l hf
 rw[kJ.2 hl] at hc
 have hV:=xi.Valid q hq.r
 have hS:=xi.Sign q hq.r
 have UF:=hl.len
 refine ef.e2 l q _ _ l.name (rj l.ab) l.aq l.an (oz l.ab) hc hV hv hS (ke.2 hp) (CG hl hf) ?_
 have key:∀(m c:Nat) (n:List (List ai)),c+m=l.ab.length→At q.val l.ab c 0 n→ef.au (rj l.ab) c q l.name l.aq l.an n (.bx [(rn q.val l).pv,.cd]):=by
  intro m
  induction m with
  |zero =>
   intro c n QX hA
   have:c=l.ab.length:=by omega
   subst this
   exact ef.ew _ _ _ _ _ _ _ _ (by rw[nI];omega) hA.done
  |succ m ih =>
   intro c n QX hA
   have hv:=List.getElem?_eq_getElem (l:=l.ab) (i:=c) (by omega)
   generalize l.ab[c]=v at hv
   have rl:=hl.ab v (List.mem_of_getElem? hv)
   have Ho:=hf.ab v (List.mem_of_getElem? hv)
   have h8:=rl.2.len
   refine ef.eo _ c _ _ _ _ _ v.name c v.points.length (by rw[nI];omega) (CF hv) ?_
   have FF:∀(m d:Nat) (n:List (List ai)),d+m=v.points.length→At q.val l.ab c d n→ef.aM (rj l.ab) c c v.points.length d q l.name l.aq l.an v.name n (.bx [(rn q.val l).pv,.cd]):=by
    intro m
    induction m with
    |zero =>
     intro d n hd hA
     have:d=v.points.length:=by omega
     subst this
     exact ef.mY _ c _ _ _ _ _ _ _ _ _ (Nat.le_refl _) (by omega) (ih (c+1) n (by omega) (hA.next hv))
    |succ m BM =>
     intro d n hd hA
     have hp:=List.getElem?_eq_getElem (l:=v.points) (i:=d) (by omega)
     generalize v.points[d]=p at hp
     have Bv:=Ho.2 p (List.mem_of_getElem? hp)
     have m1:=xi.Mul p.x q Bv.2.1.r hq.r
     have m2:=xi.Mul p.y q Bv.2.2.r hq.r
     have kK:=hA.row hv
     have jb:=(List.getElem?_eq_some_iff.1 kK).1
     have Qs:=JV (q:=q.val) hp
     have rj:=(List.getElem?_eq_some_iff.1 Qs).1
     exact ef.mX _ c c _ d _ _ _ _ _ n _ p _ _ (by omega) kK Qs m1 m2 (by rw[List.getElem?_set,if_pos rfl,if_pos jb]) (by rw[List.getElem?_set,if_pos rfl,if_pos rj]) (by omega) (BM (d+1) _ (by omega) (hA.step hv hp))
   exact FF v.points.length 0 n (by omega) hA
 exact key l.ab.length 0 _ (by omega) (At.start _ _)
theorem JW{l:aj}(hf:lM l)(h0:sZ l≠0)(q:aK):Cp 12 [l.pv,q.pv] (.bx [oq.pv,iE (sZ l)]):=by
 have h:=Check l hf
 rw[qP h0] at h
 exact ef.e3 l q _ h
theorem vy{l:aj}(hl:Ok l)(hf:lM l){q:aK}(hq:fi q)(h:¬(q.valid=true∧0<q.val)):Cp 12 [l.pv,q.pv] (.bx [oq.pv,iE 3]):=by
 have hc:=Check l hf
 rw[kJ.2 hl] at hc
 have hV:=xi.Valid q hq.r
 by_cases hv:q.valid=true
 ·exact ef.e1 l q _ _ hc hV hv (xi.Sign q hq.r) (by have:¬0<iM q.val 0:=fun hp=>h ⟨hv,ke.1 hp⟩;omega)
 ·exact ef.e0 l q _ hc hV (by simpa using hv)
end fF
namespace HA
theorem CG{l:aj}(hl:Mk l):av bp 50 [.pv l.pv] [] (.dV [.pv (.str l.name),.row 49 0 (rj l.ab).length 2,.row 13 0 l.aq.length 7,.row 19 0 l.an.length 2]) [(999999,(.heap (cL ai.cells ((oz l.ab:List (List ai)))))),(49,(.fY (rj l.ab) 7)),(13,(.pure ((l.aq:List ak).map ak.cells).flatten)),(19,(.pure ((l.an:List ag).map ag.cells).flatten))]:=by
 have hb:=hl.b
 refine Qr (s:=[(2,(.lit [(.pv (.str l.name)),(.row 49 0 (rj l.ab).length 2),(.row 13 0 l.aq.length 7),(.row 19 0 l.an.length 2)]))]) (by omega) (by omega) (by omega) ?_ (fun y off len sz h=>by simpa using(show y=49∨y=13∨y=19 by simp at h;omega)) (by simp)
 refine eE.e0 l (by rw[List.nil_append];have:=hl.j;omega) (by rw[List.nil_append];have:=hl.d;omega) ?_
 have s:∀(n b:Nat),b+n=l.ab.length→eE.au b l (rj (l.ab.take b)) (oz (l.ab.take b)) [] (.dV [.pv (.str l.name),.row 49 0 (rj l.ab).length 2,.row 13 0 l.aq.length 7,.row 19 0 l.an.length 2]) [(999999,(.heap (cL ai.cells ((oz l.ab:List (List ai)))))),(49,(.fY (rj l.ab) 7)),(13,(.pure ((l.aq:List ak).map ak.cells).flatten)),(19,(.pure ((l.an:List ag).map ag.cells).flatten)),(2,(.lit [(.pv (.str l.name)),(.row 49 0 (rj l.ab).length 2),(.row 13 0 l.aq.length 7),(.row 19 0 l.an.length 2)]))]:=by
  intro n
  induction n with
  |zero =>
   intro b Hs
   have e:l.ab.take b=l.ab:=List.take_of_length_le (by omega)
   rw[e]
   exact eE.ew b l (rj l.ab) (oz l.ab) rfl rfl (by omega)
  |succ n ih =>
   intro b Hs
   have hv:=List.getElem?_eq_getElem (l:=l.ab) (i:=b) (by omega)
   generalize l.ab[b]=v at hv
   have h:=ih (b+1) (by omega)
   rw[iH hv,Eb,show oz (l.ab.take b++[v])=oz (l.ab.take b)++[v.points] by unfold oz;rw[List.map_append];rfl] at h
   exact eE.eo b l _ _ v rfl (by omega) hv (by rw[List.nil_append];have:=hl.p v (List.mem_of_getElem? hv);omega) (by rw[List.length_append,nI,List.length_take,List.length_singleton];omega) (by omega) h
 exact s l.ab.length 0 (by omega)
theorem JX{l:aj}(hl:Mk l)(hf:lM l){q:aK}(hq:fi q):Cp 20 [l.pv,q.pv] (rn q.val l).pv:=by
 have Q0:=hl.b
 refine cT.e0 l q l.name (rj l.ab) l.aq l.an (oz l.ab) (CG hl) ?_
 have key:∀(m c:Nat) (n:List (List ai)),c+m=l.ab.length→At q.val l.ab c 0 n→cT.au c q l.name (rj l.ab) l.aq l.an n (rn q.val l).pv:=by
  intro m
  induction m with
  |zero =>
   intro c n QX hA
   have:c=l.ab.length:=by omega
   subst this
   exact cT.ew _ _ _ _ _ _ _ _ (by rw[nI];omega) hA.done
  |succ m ih =>
   intro c n QX hA
   have hv:=List.getElem?_eq_getElem (l:=l.ab) (i:=c) (by omega)
   generalize l.ab[c]=v at hv
   have Ho:=hf.ab v (List.mem_of_getElem? hv)
   have WU:=hl.p v (List.mem_of_getElem? hv)
   refine cT.eo c _ _ _ _ _ _ (by rw[nI];omega) ?_
   have FF:∀(m d:Nat) (n:List (List ai)),d+m=v.points.length→At q.val l.ab c d n→cT.aM c d q l.name (rj l.ab) l.aq l.an n (rn q.val l).pv:=by
    intro m
    induction m with
    |zero =>
     intro d n hd hA
     have:d=v.points.length:=by omega
     subst this
     exact cT.mY c _ _ _ _ _ _ _ v.name c v.points.length (by rw[nI];omega) (CF hv) (Nat.le_refl _) (by omega) (ih (c+1) n (by omega) (hA.next hv))
    |succ m BM =>
     intro d n hd hA
     have hp:=List.getElem?_eq_getElem (l:=v.points) (i:=d) (by omega)
     generalize v.points[d]=p at hp
     have Bv:=Ho.2 p (List.mem_of_getElem? hp)
     have m1:=yi.Mul p.x q Bv.2.1.r hq.r
     have m2:=yi.Mul p.y q Bv.2.2.r hq.r
     have kK:=hA.row hv
     have jb:=(List.getElem?_eq_some_iff.1 kK).1
     have Qs:=JV (q:=q.val) hp
     have Ts:=(List.getElem?_eq_some_iff.1 Qs).1
     exact cT.mX c d _ _ _ _ _ n v.name c v.points.length _ p _ _ (by rw[nI];omega) (CF hv) (by omega) kK Qs m1 m2 (by rw[List.getElem?_set,if_pos rfl,if_pos jb]) (by rw[List.getElem?_set,if_pos rfl,if_pos Ts]) (by omega) (BM (d+1) _ (by omega) (hA.step hv hp))
   exact FF v.points.length 0 n (by omega) hA
 exact key l.ab.length 0 _ (by omega) (At.start _ _)
end HA
theorem CH{α β:Type}(f:α→β)(xs:List α)(i:Int):nth (xs.map f) i=(nth xs i).map f:=by
 unfold nth
 split
 ·rw[List.getElem?_map]
 ·rfl
theorem JY(q:Rat)(l:aj):(rn q l).ab.map ah.name=l.ab.map ah.name:=by
 show(l.ab.map (AT q)).map ah.name=_
 rw[List.map_map];rfl
theorem JZ(q:Rat)(b:ah):(AT q b).points.map ai.name=b.points.map ai.name:=by
 show(b.points.map (tA q)).map ai.name=_
 rw[List.map_map];rfl
theorem By{q x y:Rat}(hq:0<q):iM (gN (x*q)).val (gN (y*q)).val=0↔iM x y=0:=by
 rw[dm,dm,Gn,Gn]
 constructor
 ·intro h
  have iO:q≠0:=fun e=>by rw[e] at hq;exact absurd hq (by decide)
  have:=congrArg (fun t=>t*q⁻¹) h
  simpa[Rat.mul_assoc,Rat.mul_inv_cancel q iO] using this
 ·intro h;rw[h]
theorem Ok.scale{l:aj}(h:Ok l){q:Rat}(hq:0<q):Ok (rn q l) where
 name:=h.name
 pos:=by show 0<(l.ab.map (AT q)).length;rw[List.length_map];exact h.pos
 len:=by show(l.ab.map (AT q)).length≤8;rw[List.length_map];exact h.len
 ab b hb:=by
  obtain⟨v,hv,rfl⟩:=List.mem_map.1 (show b∈l.ab.map (AT q) from hb)
  obtain⟨h1,h2⟩:=h.ab v hv
  refine⟨h1,by show(v.points.map (tA q)).length≤8;rw[List.length_map];exact h2.len,by rw[JZ];exact h2.nodup,fun m hm => ?_⟩
  obtain⟨p,hp,rfl⟩:=List.mem_map.1 (show m∈v.points.map (tA q) from hm)
  exact⟨(h2.all p hp).1,nL _,nL _⟩
 bn:=by rw[JY];exact h.bn
 jl:=h.jl
 aq j hj:=by
  obtain⟨h1,A,B,P,Q,a1,a2,a3,a4,a5,a6⟩:=h.aq j hj
  have e:∀i:Int,nth (rn q l).ab i=(nth l.ab i).map (AT q):=fun i=>CH _ _ _
  have e2:∀(b:ah) (i:Int),nth (AT q b).points i=(nth b.points i).map (tA q):=fun b i=>CH _ _ _
  refine⟨h1,AT q A,AT q B,tA q P,tA q Q,by rw[e,a1];rfl,by rw[e,a2];rfl,a3,by rw[e2,a4];rfl,by rw[e2,a5];rfl,?_⟩
  rcases a6 with a6|⟨a6,R,a7,a8⟩
  ·exact .inl a6
  ·refine .inr ⟨a6,tA q R,by rw[e2,a7];rfl,fun hx=>a8 ?_⟩
   exact⟨(By hq).1 hx.1,(By hq).1 hx.2⟩
 jn:=h.jn
 dl:=h.dl
 an d hd:=by
  obtain⟨h1,⟨b,h2⟩,h3⟩:=h.an d hd
  exact⟨h1,⟨AT q b,by rw[show nth (rn q l).ab d.body=(nth l.ab d.body).map (AT q) from CH _ _ _,h2];rfl⟩,h3⟩
 dn:=h.dn
 db:=h.db
def Lw(k:Nat)(l:aj):Prop:=∀b∈l.ab,∀m∈b.points,ht m.x.val≤k∧ht m.y.val≤k
theorem Lw.of{l:aj}(h:∀b∈l.ab,∀m∈b.points,Og m):Lw 12 l:=fun b hb m hm=>by
 have:=h b hb m hm
 unfold Og at this
 exact⟨eY (by omega) (by omega) (by omega),eY (by omega) (by omega) (by omega)⟩
theorem Lw.scale{k j:Nat}{l:aj}(h:Lw k l){q:Rat}(hq:ht q≤j):Lw (k+j) (rn q l):=fun b hb m hm=>by
 obtain⟨v,hv,rfl⟩:=List.mem_map.1 (show b∈l.ab.map (AT q) from hb)
 obtain⟨p,hp,rfl⟩:=List.mem_map.1 (show m∈v.points.map (tA q) from hm)
 obtain⟨h1,h2⟩:=h v hv p hp
 have m1:=l9 p.x.val q
 have m2:=l9 p.y.val q
 show ht (gN (p.x.val*q)).val≤_∧ht (gN (p.y.val*q)).val≤_
 rw[dm,dm]
 omega
theorem yn{k j:Nat}{l:aj}(hf:lM l)(h:Lw k l){q:Rat}(hq:ht q≤j)(hk:k+j≤1000):lM (rn q l) where
 name:=hf.name
 ab b hb:=by
  obtain⟨v,hv,rfl⟩:=List.mem_map.1 (show b∈l.ab.map (AT q) from hb)
  obtain⟨h1,h2⟩:=hf.ab v hv
  refine⟨h1,fun m hm => ?_⟩
  obtain⟨p,hp,rfl⟩:=List.mem_map.1 (show m∈v.points.map (tA q) from hm)
  obtain⟨k1,k2⟩:=h v hv p hp
  have m1:=l9 p.x.val q
  have m2:=l9 p.y.val q
  exact⟨(h2 p hp).1,Oh.wL (by omega),Oh.wL (by omega)⟩
 aq:=hf.aq
 an:=hf.an
theorem Lx(a b:Rat)(l:aj):rn b (rn a l)=rn (a*b) l:=by
 unfold rn
 simp only[aj.mk.injEq,true_and,and_true,List.map_map]
 apply List.map_congr_left
 intro v _
 show ah.mk _ _=ah.mk _ _
 simp only[ah.mk.injEq]
 refine⟨rfl,?_⟩
 show(v.points.map (tA a)).map (tA b)=v.points.map (tA (a*b))
 rw[List.map_map]
 apply List.map_congr_left
 intro p _
 show ai.mk p.name (gN ((gN (p.x.val*a)).val*b)) (gN ((gN (p.y.val*a)).val*b))=ai.mk p.name (gN (p.x.val*(a*b))) (gN (p.y.val*(a*b)))
 rw[dm,dm,Rat.mul_assoc,Rat.mul_assoc]
theorem J0(a:Rat)(p q:ai):fF.CA (tA a p) (tA a q)=fF.CA p q*(a*a):=by
 unfold fF.CA
 show((gN (p.x.val*a)).val-(gN (q.x.val*a)).val)*((gN (p.x.val*a)).val-(gN (q.x.val*a)).val)+((gN (p.y.val*a)).val-(gN (q.y.val*a)).val)*((gN (p.y.val*a)).val-(gN (q.y.val*a)).val)=_
 rw[dm,dm,dm,dm]
 grind
theorem J1{α β:Type}{f g:α→List β}(l:List α)(h:∀x∈l,f x=g x):l.flatMap f=l.flatMap g:=by rw[List.flatMap_def,List.flatMap_def,List.map_congr_left h]
theorem FI(a:Rat)(ms:List ai):fF.gi (ms.map (tA a))=(fF.gi ms).map fun r=>gN (r.val*(a*a)):=by
 unfold fF.gi
 rw[List.length_map,List.map_flatMap]
 apply J1
 intro c _
 unfold fF.gd
 rw[List.getElem?_map]
 cases ms[c]? with
 |none=>rfl
 |some q =>
  show((ms.map (tA a)).take c).map (fun p=>gN (fF.CA p (tA a q)))=((ms.take c).map fun p=>gN (fF.CA p q)).map fun r=>gN (r.val*(a*a))
  rw[←List.map_take,List.map_map,List.map_map]
  apply List.map_congr_left
  intro p _
  show gN (fF.CA (tA a p) (tA a q))=gN ((gN (fF.CA p q)).val*(a*a))
  rw[J0,dm]
theorem Ec{ms:List ai}{r:aK}(h:r∈fF.gi ms):∃p∈ms,∃q∈ms,r=gN (fF.CA p q):=by
 unfold fF.gi at h
 obtain⟨c,_,hc⟩:=List.mem_flatMap.1 h
 unfold fF.gd at hc
 cases hq:ms[c]? with
 |none=>rw[hq] at hc;cases hc
 |some q =>
  rw[hq] at hc
  obtain⟨p,hp,rfl⟩:=List.mem_map.1 hc
  exact⟨p,List.mem_of_mem_take hp,q,List.mem_of_getElem? hq,rfl⟩
theorem J2{p q:ai}(hp:fi p.x∧fi p.y)(hq:fi q.x∧fi q.y):ht (fF.CA p q)≤8005:=by
 have h:∀{a:aK},fi a→ht a.val≤1000:=fun h=>eY h.1 h.2 (by omega)
 have f1:ht (p.x.val-q.x.val)≤2001:=by have:=ug p.x.val q.x.val;have:=h hp.1;have:=h hq.1;omega
 have f2:ht (p.y.val-q.y.val)≤2001:=by have:=ug p.y.val q.y.val;have:=h hp.2;have:=h hq.2;omega
 have f3:=l9 (p.x.val-q.x.val) (p.x.val-q.x.val)
 have f4:=l9 (p.y.val-q.y.val) (p.y.val-q.y.val)
 unfold fF.CA
 have:=Jt ((p.x.val-q.x.val)*(p.x.val-q.x.val)) ((p.y.val-q.y.val)*(p.y.val-q.y.val))
 omega
namespace fF
theorem Ly{l:aj}(hf:lM l)(h0:sZ l≠0)(i:Int):Cp 13 [l.pv,vI i] (.bx [bD [],iE (sZ l)]):=by
 have h:=Check l hf
 rw[qP h0] at h
 exact eX.e3 l i _ h
theorem Om{l:aj}(hl:Ok l)(hf:lM l){i:Int}(h:¬(0≤i∧i<(l.ab.length:Int))):Cp 13 [l.pv,vI i] (.bx [bD [],iE 9]):=by
 have hc:=Check l hf
 rw[kJ.2 hl] at hc
 by_cases h0:i<0
 ·exact eX.e0 l i hc h0
 ·exact eX.e1 l i hc (by omega) (by omega)
end fF
namespace HA
theorem On{l:aj}(hf:lM l){k c d:Nat}{v:ah}{p q:ai}(hk:l.ab[k]? = some v)(hp:v.points[c]? = some p)(hq:v.points[d]? = some q) :
  Cp 52 [l.pv,vI (k:Int),vI (c:Int),vI (d:Int)] (.bx [(gN (fF.CA p q)).pv,vI 0]):=by
 have k1:=(List.getElem?_eq_some_iff.1 hk).1
 have k2:=(List.getElem?_eq_some_iff.1 hp).1
 have k3:=(List.getElem?_eq_some_iff.1 hq).1
 have Bv:=(hf.ab v (List.mem_of_getElem? hk)).2
 obtain⟨_,p1,p2⟩:=Bv p (List.mem_of_getElem? hp)
 obtain⟨_,q1,q2⟩:=Bv q (List.mem_of_getElem? hq)
 have i1:=index (k:Int) (l.ab.length:Int)
 have i2:=index (c:Int) (v.points.length:Int)
 have i3:=index (d:Int) (v.points.length:Int)
 have e:∀{a b:Nat},a<b→fF.JA (a:Int) (b:Int)=true:=fun h=>decide_eq_true (by omega)
 have h:∀{a:aK},fi a→ht a.val≤1000:=fun h=>eY h.1 h.2 (by omega)
 have f1:ht (p.x.val-q.x.val)≤2001:=by have:=ug p.x.val q.x.val;have:=h p1;have:=h q1;omega
 have f2:ht (p.y.val-q.y.val)≤2001:=by have:=ug p.y.val q.y.val;have:=h p2;have:=h q2;omega
 have f3:ht ((p.x.val-q.x.val)*(p.x.val-q.x.val))≤4002:=by have:=l9 (p.x.val-q.x.val) (p.x.val-q.x.val);omega
 have f4:ht ((p.y.val-q.y.val)*(p.y.val-q.y.val))≤4002:=by have:=l9 (p.y.val-q.y.val) (p.y.val-q.y.val);omega
 have s1:=yi.Sub p.x q.x p1.r q1.r
 have s2:=yi.Sub p.y q.y p2.r q2.r
 have s3:=yi.Mul _ _ (gh (q:=p.x.val-q.x.val) (by omega)) (gh (q:=p.x.val-q.x.val) (by omega))
 have s4:=yi.Mul _ _ (gh (q:=p.y.val-q.y.val) (by omega)) (gh (q:=p.y.val-q.y.val) (by omega))
 rw[dm] at s3 s4
 have s5:=yi.Add _ _ (gh (q:=(p.x.val-q.x.val)*(p.x.val-q.x.val)) (by omega)) (gh (q:=(p.y.val-q.y.val)*(p.y.val-q.y.val)) (by omega))
 rw[dm,dm] at s5
 exact mC.e3 l k c d _ k v _ k v _ k v c p k v d q _ _ _ _ _ i1 (e k1) rfl hk i2 (e k2) rfl hk i3 (e k3) rfl hk rfl hp rfl hk rfl hq s1 s2 s3 s4 s5
theorem Tt{l:aj}(hl:Mk l)(hf:lM l){k:Nat}{v:ah}(hk:l.ab[k]? = some v):Cp 22 [l.pv,vI (k:Int)] (bD (fF.gi v.points)):=by
 have Q0:=hl.p v (List.mem_of_getElem? hk)
 refine dc.e0 l k ?_
 have s1:∀(n c:Nat),c+n=max v.points.length 1→1≤c→dc.au (k:Int) ((List.range c).flatMap (fF.gd v.points)) c l (bD (fF.gi v.points)):=by
  intro n
  induction n with
  |zero =>
   intro c hc h1
   have e:(List.range c).flatMap (fF.gd v.points)=fF.gi v.points:=by
    unfold fF.gi
    by_cases h0:v.points.length=0
    ·have:c=1:=by omega
     subst this
     rw[h0]
     show fF.gd v.points 0++[]=[]
     unfold fF.gd
     rw[List.getElem?_eq_none (by omega)]
     rfl
    ·rw[show c=v.points.length by omega]
   rw[e]
   exact dc.ew _ _ c l k v rfl hk (by omega)
  |succ n ih =>
   intro c hc h1
   have hv:=List.getElem?_eq_getElem (l:=v.points) (i:=c) (by omega)
   generalize v.points[c]=q at hv
   refine dc.eo _ _ c l k v rfl hk (by omega) ?_
   have h:=ih (c+1) (by omega) (by omega)
   rw[List.range_succ,List.flatMap_append] at h
   have e:[c].flatMap (fF.gd v.points)=(v.points.take c).map fun p=>gN (fF.CA p q):=by
    simp only[List.flatMap_cons,List.flatMap_nil,List.append_nil]
    unfold fF.gd;rw[hv]
   rw[e] at h
   have s2:∀(n i:Nat),i+n=c→dc.aM (k:Int) ((List.range c).flatMap (fF.gd v.points)++(v.points.take i).map fun p=>gN (fF.CA p q)) c i l (bD (fF.gi v.points)):=by
    intro n
    induction n with
    |zero =>
     intro i hi
     have:i=c:=by omega
     subst this
     exact dc.mY _ _ i i l (Nat.le_refl _) (by omega) h
    |succ n BM =>
     intro i hi
     have hp:=List.getElem?_eq_getElem (l:=v.points) (i:=i) (by omega)
     generalize v.points[i]=p at hp
     have h2:=BM (i+1) (by omega)
     rw[iH hp,List.map_append,←List.append_assoc] at h2
     have Ed:=fF.sj v.points c
     have WC:c*c≤1600:=by
      have:c≤40:=by omega
      calc c*c≤40*40:=Nat.mul_le_mul this this
       _=1600:=rfl
     exact dc.mX _ _ c i l _ _ (by omega) (On hf hk hp hv) (by rw[List.length_append,List.length_append,List.length_map,List.length_take,List.length_singleton];omega) (by omega) h2
   have:=s2 c 0 (by omega)
   rw[List.take_zero,List.map_nil,List.append_nil] at this
   exact this
 have:=s1 (max v.points.length 1-1) 1 (by omega) (Nat.le_refl _)
 have e:(List.range 1).flatMap (fF.gd v.points)=[]:=by
  show fF.gd v.points 0++[]=[]
  unfold fF.gd
  split<;>rfl
 rw[e] at this
 exact this
end HA
namespace Oh
theorem vz{q:Rat}{l:aj}(hs:Mk l):Mk (rn q l) where
 b:=by show(l.ab.map (AT q)).length≤40;rw[List.length_map];exact hs.b
 j:=hs.j
 d:=hs.d
 p b hb:=by
  obtain⟨v,hv,rfl⟩:=List.mem_map.1 (show b∈l.ab.map (AT q) from hb)
  show(v.points.map (tA q)).length≤40
  rw[List.length_map];exact hs.p v hv
theorem J3{ms:List ai}(Q0:ms.length≤40)(hm:∀m∈ms,fi m.x∧fi m.y):Cp 21 [bD (fF.gi ms),bD (fF.gi ms)] (vB true):=by
 have:=vC.Qp (fF.gi ms) (fF.gi ms) (by
  have h1:=fF.sj ms ms.length
  have h2:ms.length*ms.length≤40*40:=Nat.mul_le_mul Q0 Q0
  unfold fF.gi
  omega) (fun a ha=>by
  obtain⟨p,hp,q,hq,rfl⟩:=Ec ha
  have:=D5 (J2 (hm p hp) (hm q hq))
  omega)
 rwa[Bw] at this
theorem CI(l:aj)(q:aK)(body:Int)(hl:D7 l)(hq:q.num.length+q.den.length<9223372036854775808){B:Prop}(_:B):Cp 3 [l.pv,q.pv,vI body] (vB true):=by
 obtain⟨d,h1,h2⟩:=Ml hl
 cases d with
 |true=>exact bl.e1 l q body _ _ _ gj rfl h1 rfl gj
 |false =>
  by_cases h8:q.num.length+q.den.length≤8
  ·obtain⟨hs,hw⟩:=h2 rfl
   have hf:=fit hl hw
   have Am:fi q:=by unfold fi;omega
   have UK:ht q.val≤8:=eY (by omega) (by omega) (by omega)
   have ck:=HA.Check l hf
   have hV:=yi.Valid q Am.r
   have hS:=yi.Sign q Am.r
   by_cases k:sZ l=0
   ·have ol:=kJ.1 k
    rw[k] at ck
    by_cases hb:0≤body∧body<(l.ab.length:Int)
    ·obtain⟨n,rfl⟩:∃n:Nat,body=(n:Int):=⟨body.toNat,by omega⟩
     have hv:=List.getElem?_eq_getElem (l:=l.ab) (i:=n) (by omega)
     generalize l.ab[n]'(by omega)=v at hv
     have L1:=fF.CB ol hf hv
     have L2:=HA.Tt hs hf hv
     have L3:=J3 (hs.p v (List.mem_of_getElem? hv)) (fun m hm=>((hf.ab v (List.mem_of_getElem? hv)).2 m hm).2)
     by_cases hvq:q.valid=true
     ·by_cases hp:0<q.val
      ·have hE:=pg (rn q.val l) (rn q.val l) (vz hs) (yn hf (Lw.of hw) UK (by omega))
       rw[oo rfl] at hE
       exact bl.OM l q n _ _ (rn q.val l) none _ none _ _ _ _ _ (rn q.val l) _ _ _ gj rfl h1 rfl hq h8 (fF.vx ol hf Am hvq hp) L1 ck rfl hV hvq hS (ke.2 hp) hb.1 hb.2 (vC.Bx none) rfl (vC.Bx none) rfl (HA.JX hs hf Am) hE rfl L2 L3
      ·exact bl.Sq l q n _ _ oq (some 3) _ none _ _ _ _ _ _ _ _ gj rfl h1 rfl hq h8 (fF.vy ol hf Am (fun h=>hp h.2)) L1 ck rfl hV hvq hS (by have:¬0<iM q.val 0:=fun h=>hp (ke.1 h);omega) hb.1 hb.2 (vC.Bx (some 3)) rfl (vC.Bx none) rfl (by decide) uo rfl L2 L3
     ·exact bl.e6 l q n _ _ oq (some 3) _ none _ _ _ _ _ _ _ gj rfl h1 rfl hq h8 (fF.vy ol hf Am (fun h=>hvq h.1)) L1 ck rfl hV (by simpa using hvq) hb.1 hb.2 (vC.Bx (some 3)) rfl (vC.Bx none) rfl (by decide) uo rfl L2 L3
    ·have L1:=fF.Om ol hf hb
     by_cases hvq:q.valid=true
     ·by_cases hp:0<q.val
      ·have hE:=pg (rn q.val l) (rn q.val l) (vz hs) (yn hf (Lw.of hw) UK (by omega))
       rw[oo rfl] at hE
       have sc:=fF.vx ol hf Am hvq hp
       by_cases h0:body<0
       ·exact bl.Sr l q body _ _ (rn q.val l) none [] (some 9) _ _ _ _ _ (rn q.val l) _ gj rfl h1 rfl hq h8 sc L1 ck rfl hV hvq hS (ke.2 hp) h0 (vC.Bx none) rfl (vC.Bx (some 9)) rfl (by decide) (by simp) (HA.JX hs hf Am) hE rfl
       ·exact bl.Ss l q body _ _ (rn q.val l) none [] (some 9) _ _ _ _ _ (rn q.val l) _ gj rfl h1 rfl hq h8 sc L1 ck rfl hV hvq hS (ke.2 hp) (by omega) (by omega) (vC.Bx none) rfl (vC.Bx (some 9)) rfl (by decide) (by simp) (HA.JX hs hf Am) hE rfl
      ·have sc:=fF.vy ol hf Am (fun h=>hp h.2)
       have hle:iM q.val 0≤0:=by have:¬0<iM q.val 0:=fun h=>hp (ke.1 h);omega
       by_cases h0:body<0
       ·exact bl.e7 l q body _ _ oq (some 3) [] (some 9) _ _ _ _ _ _ gj rfl h1 rfl hq h8 sc L1 ck rfl hV hvq hS hle h0 (vC.Bx (some 3)) rfl (vC.Bx (some 9)) rfl (by decide) uo rfl (by decide) (by simp)
       ·exact bl.e8 l q body _ _ oq (some 3) [] (some 9) _ _ _ _ _ _ gj rfl h1 rfl hq h8 sc L1 ck rfl hV hvq hS hle (by omega) (by omega) (vC.Bx (some 3)) rfl (vC.Bx (some 9)) rfl (by decide) uo rfl (by decide) (by simp)
     ·have sc:=fF.vy ol hf Am (fun h=>hvq h.1)
      have Ho:q.valid=false:=by simpa using hvq
      by_cases h0:body<0
      ·exact bl.e3 l q body _ _ oq (some 3) [] (some 9) _ _ _ _ _ gj rfl h1 rfl hq h8 sc L1 ck rfl hV Ho h0 (vC.Bx (some 3)) rfl (vC.Bx (some 9)) rfl (by decide) uo rfl (by decide) (by simp)
      ·exact bl.e4 l q body _ _ oq (some 3) [] (some 9) _ _ _ _ _ gj rfl h1 rfl hq h8 sc L1 ck rfl hV Ho (by omega) (by omega) (vC.Bx (some 3)) rfl (vC.Bx (some 9)) rfl (by decide) uo rfl (by decide) (by simp)
   ·exact bl.Su l q body _ _ oq (some (sZ l)) [] (some (sZ l)) _ _ _ _ gj rfl h1 rfl hq h8 (fF.JW hf k q) (fF.Ly hf k body) ck k (vC.Bx (some (sZ l))) rfl (vC.Bx (some (sZ l))) rfl uo rfl (by simp)
  ·exact bl.e2 l q body _ _ _ gj rfl h1 rfl hq (by omega) gj
theorem An(l:aj)(a b:aK)(hl:D7 l)(ha:a.num.length+a.den.length≤281474976710656)(hb:b.num.length+b.den.length≤281474976710656):Cp 4 [l.pv,a.pv,b.pv] (vB true):=by
 obtain⟨d,h1,h2⟩:=Ml hl
 cases d with
 |true=>exact aW.e1 l a b _ _ _ gj rfl h1 rfl gj
 |false =>
  obtain⟨hs,hw⟩:=h2 rfl
  have hf:=fit hl hw
  have ck:=fF.Check l hf
  by_cases k:sZ l=0
  ·have ol:=kJ.1 k
   rw[k] at ck
   by_cases h8:a.num.length+a.den.length+b.num.length+b.den.length≤8
   ·have sa:fi a:=by unfold fi;omega
    have sb:fi b:=by unfold fi;omega
    have va:=yi.Valid a sa.r
    have vb:=yi.Valid b sb.r
    have ga:=yi.Sign a sa.r
    have gb:=yi.Sign b sb.r
    by_cases k1:a.valid=true
    ·by_cases k2:b.valid=true
     ·by_cases k3:0<a.val
      ·by_cases k4:0<b.val
       ·have UL:ht a.val≤8:=eY (by omega) (by omega) (by omega)
        have QQ:ht b.val≤8:=eY (by omega) (by omega) (by omega)
        have hH:=Lw.of hw
        have ox:=ol.scale k3
        have fx:=yn hf hH UL (by omega)
        have WV:=hH.scale UL
        have oy:=ox.scale k4
        have fy:=yn fx WV QQ (by omega)
        have hm:=l9 a.val b.val
        have sp:fi (gN (a.val*b.val)):=wL (by omega)
        have hp:0<(gN (a.val*b.val)).val:=by rw[dm];exact Rat.mul_pos k3 k4
        have z:=fF.vx ol hf sp (nL _) hp
        rw[dm] at z
        have hE:=pg (rn b.val (rn a.val l)) (rn (a.val*b.val) l) (vz (vz hs)) fy
        rw[oo (Lx a.val b.val l)] at hE
        have cy:=fF.Check _ fy
        rw[kJ.2 oy] at cy
        refine aW.e7 l a b _ _ _ _ _ _ (rn a.val l) (rn b.val (rn a.val l)) _ (rn (a.val*b.val) l) _ gj rfl h1 rfl ck (by omega) (by omega) (by omega) h8 va k1 vb k2 ga (ke.2 k3) gb (ke.2 k4) (fF.vx ol hf sa k1 k3) (fF.vx ox fx sb k2 k4) (xi.Mul a b sa.r sb.r) z hE rfl cy ?_
        have s1:∀(n i:Nat),i+n=l.ab.length→aW.au i l a (rn a.val l) (vB true):=by
         intro n
         induction n with
         |zero=>intro i hi;exact aW.ew i l a _ (by omega)
         |succ n ih =>
          intro i hi
          have hv:=List.getElem?_eq_getElem (l:=l.ab) (i:=i) (by omega)
          generalize l.ab[i]'(by omega)=v at hv
          have WW:(rn a.val l).ab[i]? = some (AT a.val v):=by show(l.ab.map (AT a.val))[i]? = _;rw[List.getElem?_map,hv];rfl
          have L1:=fF.CB ol hf hv
          have L2:=fF.CB ox fx WW
          have e:fF.gi (AT a.val v).points=(fF.gi v.points).map fun r=>gN (r.val*(a.val*a.val)):=FI a.val v.points
          rw[e] at L2
          have Xv:=ol.len
          have QT:(fF.gi v.points).length≤64:=by
           have h1:=fF.sj v.points v.points.length
           have UM:=(ol.ab v (List.mem_of_getElem? hv)).2.len
           have h2:v.points.length*v.points.length≤8*8:=Nat.mul_le_mul UM UM
           unfold fF.gi
           omega
          refine aW.eo i l a _ _ _ (by omega) L1 L2 (by rw[List.length_map]) ?_
          have s2:∀(n g:Nat),g+n=(fF.gi v.points).length→aW.aM i (fF.gi v.points) ((fF.gi v.points).map fun r=>gN (r.val*(a.val*a.val))) g l a (rn a.val l) (vB true):=by
           intro n
           induction n with
           |zero=>intro g hg;exact aW.mY i _ _ g l a _ (by omega) (by omega) (ih (i+1) (by omega))
           |succ n BM =>
            intro g hg
            have hr:=List.getElem?_eq_getElem (l:=fF.gi v.points) (i:=g) (by omega)
            generalize (fF.gi v.points)[g]'(by omega)=r at hr
            obtain⟨p,hp,q,hq,UN⟩:=Ec (List.mem_of_getElem? hr)
            have Bv:=fun m hm=>((hf.ab v (List.mem_of_getElem? hv)).2 m hm).2
            have WX:=J2 (Bv p hp) (Bv q hq)
            have fr:l8 r:=by rw[UN];exact gh (by omega)
            have m1:=xi.Mul a a sa.r sa.r
            have Xw:=l9 a.val a.val
            have m2:=xi.Mul r (gN (a.val*a.val)) fr (gh (by omega))
            rw[dm] at m2
            have Xx:ht r.val≤8005:=by rw[UN,dm];exact WX
            have Xy:=l9 r.val (a.val*a.val)
            have rF:=D5 (q:=r.val*(a.val*a.val)) (k:=9000) (by omega)
            have UO:=vC.Rat (gN (r.val*(a.val*a.val))) (gN (r.val*(a.val*a.val))) (by omega) (by omega)
            rw[vv] at UO
            exact aW.mX i _ _ g l a _ _ r _ _ _ (by omega) (by rw[List.getElem?_map,hr];rfl) hr m1 m2 UO rfl (by omega) (BM (g+1) (by omega))
          exact s2 (fF.gi v.points).length 0 (by omega)
        exact s1 l.ab.length 0 (by omega)
       ·exact aW.e6 l a b _ _ _ _ _ _ _ gj rfl h1 rfl ck (by omega) (by omega) (by omega) h8 va k1 vb k2 ga (ke.2 k3) gb (by have:¬0<iM b.val 0:=fun h=>k4 (ke.1 h);omega) gj
      ·exact aW.e5 l a b _ _ _ _ _ _ gj rfl h1 rfl ck (by omega) (by omega) (by omega) h8 va k1 vb k2 ga (by have:¬0<iM a.val 0:=fun h=>k3 (ke.1 h);omega) gj
     ·exact aW.e4 l a b _ _ _ _ _ gj rfl h1 rfl ck (by omega) (by omega) (by omega) h8 va k1 vb (by simpa using k2) gj
    ·exact aW.e3 l a b _ _ _ _ gj rfl h1 rfl ck (by omega) (by omega) (by omega) h8 va (by simpa using k1) gj
   ·exact aW.e2 l a b _ _ _ gj rfl h1 rfl ck (by omega) (by omega) (by omega) (by omega) gj
  ·rw[qP k] at ck
   exact aW.e8 l a b _ _ _ _ gj rfl h1 rfl ck gj
end Oh
end Go.Proofs.YtfjfekodeplcoaaGreat.Sym
end
