/- Lemmas for the statements of this seat. -/
import Derived.Test.YtcpnocgollpbhaaGreatDoorW25
import Derived.Test.YtcpnocgollpbhaaGreatDoorProg
namespace Go.Proofs.YtcpnocgollpbhaaGreatDoor.Sym
open Go
structure ag where
 neg:Bool
 num:List UInt32
 den:List UInt32
def ag.cells(x:ag):List PV:=[(vB x.neg),(af x.num),(af x.den)]
def ag.pv(x:ag):PV := .agg x.cells
theorem aD:Sz ag.cells 3:=fun _=>rfl
abbrev Xa:=List ag
abbrev ae(p:Xa):PV := .list (p.map ag.cells)
structure aA where
 roots:List (List ag)
def aA.cells(x:aA):List PV:=[(dp (db ag.cells) x.roots)]
def aA.pv(x:aA):PV := .agg x.cells
structure aw where
 lo:ag
 hi:ag
def aw.cells(x:aw):List PV:=[(vB x.lo.neg),(af x.lo.num),(af x.lo.den),(vB x.hi.neg),(af x.hi.num),(af x.hi.den)]
def aw.pv(x:aw):PV := .agg x.cells
theorem ri:Sz aw.cells 6:=fun _=>rfl
structure bk where
 p:List ag
 rV:aw
def bk.cells(x:bk):List PV:=[(ae x.p),(vB x.rV.lo.neg),(af x.rV.lo.num),(af x.rV.lo.den),(vB x.rV.hi.neg),(af x.rV.hi.num),(af x.rV.hi.den)]
def bk.pv(x:bk):PV := .agg x.cells
theorem FG:Sz bk.cells 7:=fun _=>rfl
structure av where
 neg:Bool
 cD:List UInt32
def av.cells(x:av):List PV:=[(vB x.neg),(af x.cD)]
def av.pv(x:av):PV := .agg x.cells
@[reducible] noncomputable def bp:Program:=Tryz.prog
def FH:kL:=[(2,⟨.int .i64,1,8,false,[.int .i64 0],[]⟩),
 (3,⟨.int .i64,1,8,false,[.int .i64 0],[]⟩),
 (4,⟨.bool,1,1,false,[(vB false)],[]⟩),
 (5,⟨.int .u8,1,1,false,[.int .u8 0],[]⟩),
 (6,⟨.int .u8,1,1,false,[.int .u8 0],[]⟩),
 (7,⟨.struct [(0,1,false),(1,1,false),(2,1,false),(3,1,false)],4,24,true,[.int .i64 0,.int .i64 0,(vB false),.int .u8 0],[]⟩),
 (8,⟨.struct [(0,1,false),(1,1,false),(2,1,false),(3,1,false)],4,24,true,[.int .i64 0,.int .i64 0,(vB false),.int .u8 0],[]⟩),
 (9,⟨.str,1,16,false,[.str ByteArray.empty],[]⟩),
 (10,⟨.str,1,16,false,[.str ByteArray.empty],[]⟩),
 (11,⟨.str,1,16,false,[.str ByteArray.empty],[]⟩),
 (12,⟨.int .u64,1,8,false,[.int .u64 0],[]⟩),
 (13,⟨.struct [(0,1,false),(1,1,false)],2,24,true,[.str ByteArray.empty,.int .u64 0],[]⟩),
 (14,⟨.struct [(0,1,false),(1,1,false)],2,24,true,[.str ByteArray.empty,.int .u64 0],[]⟩),
 (20,⟨.iface,1,16,false,[.ay],[]⟩),
 (21,⟨.int .i32,1,4,false,[.int .i32 0],[]⟩),
 (22,⟨.slice 26,1,24,false,[.dX],[]⟩),
 (23,⟨.struct [(0,1,false)],1,24,true,[.dX],[]⟩),
 (24,⟨.struct [(0,1,false)],1,24,true,[.dX],[]⟩),
 (25,⟨.slice 36,1,24,false,[.dX],[]⟩),
 (26,⟨.slice 36,1,24,false,[.dX],[]⟩),
 (29,⟨.slice 36,1,24,false,[.dX],[]⟩),
 (30,⟨.iface,1,16,false,[.ay],[]⟩),
 (31,⟨.iface,1,16,false,[.ay],[]⟩),
 (34,⟨.slice 112,1,24,false,[.dX],[]⟩),
 (35,⟨.struct [(0,1,false),(1,1,false),(2,1,false)],3,56,true,[(vB false),.dX,.dX],[]⟩),
 (36,⟨.struct [(0,1,false),(1,1,false),(2,1,false)],3,56,true,[(vB false),.dX,.dX],[]⟩),
 (37,⟨.struct [(0,3,true),(3,3,true)],6,112,true,[(vB false),.dX,.dX,(vB false),.dX,.dX],[]⟩),
 (38,⟨.struct [(0,3,true),(3,3,true)],6,112,true,[(vB false),.dX,.dX,(vB false),.dX,.dX],[]⟩),
 (39,⟨.struct [(0,1,false),(1,6,true)],7,136,true,[.dX,(vB false),.dX,.dX,(vB false),.dX,.dX],[]⟩),
 (40,⟨.struct [(0,1,false),(1,6,true)],7,136,true,[.dX,(vB false),.dX,.dX,(vB false),.dX,.dX],[]⟩),
 (64,⟨.slice 40,1,24,false,[.dX],[]⟩),
 (75,⟨.int .i64,1,8,false,[.int .i64 0],[]⟩),
 (97,⟨.struct [(0,1,false),(1,1,false)],2,32,true,[(vB false),.dX],[]⟩),
 (98,⟨.struct [(0,1,false),(1,1,false)],2,32,true,[(vB false),.dX],[]⟩),
 (112,⟨.int .u32,1,4,false,[.int .u32 0],[]⟩),
 (113,⟨.slice 38,1,24,false,[.dX],[]⟩),
 (117,⟨.slice 3,1,24,false,[.dX],[]⟩),
 (145,⟨.int .u64,1,8,false,[.int .u64 0],[]⟩),
 (146,⟨.int .u64,1,8,false,[.int .u64 0],[]⟩),
 (162,⟨.slice 29,1,24,false,[.dX],[]⟩),
 (174,⟨.slice 9,1,24,false,[.dX],[]⟩),
 (208,⟨.slice 5,1,24,false,[.dX],[]⟩),
 (259,⟨.int .u8,1,1,false,[.int .u8 0],[]⟩),
 (260,⟨.int .u8,1,1,false,[.int .u8 0],[]⟩),
 (262,⟨.int .i32,1,4,false,[.int .i32 0],[]⟩),
 (263,⟨.int .i32,1,4,false,[.int .i32 0],[]⟩)]
theorem zG:n8 bp FH:=n8.of (by kernel_rfl)
theorem mixed:bp.follows .mixedOrders=true:=by kernel_rfl
abbrev Cp:=eu bp
abbrev Ws:=List UInt32
abbrev Rs:=List ag
abbrev TE.a:TE := .auto
abbrev TE.t:TE := .dec true
abbrev TE.f:TE := .dec false
abbrev TE.q:TE := .aR []
abbrev TE.h(n:Nat)(x:Hint):TE := .aR (List.replicate n .none++[x])
abbrev Hint.o:Hint := .none
abbrev lR:List ag→List PV:=db ag.cells
abbrev iL{α:Type}(l:List α):Hint:=iI (l.length:Int)
abbrev pW(l:List UInt32):SC := .pure (l.map ah).flatten
abbrev pC{α:Type}(f:α→List PV)(l:List α):SC := .pure (l.map f).flatten
abbrev kF(fn:Func)(sin:aS):Prop:=sin.all (fun p=>Nat.ble fn.ntmps p.1)=true
theorem rN(n:Nat):((n:Nat):Int)=(n:Int):=rfl
theorem rF:false=false:=rfl
theorem rT:true=true:=rfl
section
variable {fn:Func} {K K':List eR} {s s':St} {r:PV} {sin sout:aS} {rx:EV} {f:FuncId} {args:List PV} {MM:List EV} {A:Prop}
theorem lG(ns:List Nat)(tr:List TE)(hA:A)(h:L bp fn K' s' r)(ar:vS ns (run bp FH fn 900 K s tr)=some (K',s',A):=by kernel_rfl):L bp fn K s r:=L.go mixed zG hA ar h
theorem lD(ns:List Nat)(tr:List TE)(hA:A)(ar:FC ns (run bp FH fn 900 K s tr)=some (r,A):=by kernel_rfl):L bp fn K s r:=L.done mixed zG hA ar
theorem eG(hf:bp.funcs[f]? = some fn)(ns:List Nat)(tr:List TE)(hA:A)(h:L bp fn K' s' r)(o5:JR fn (args.map EV.pv).length []=true:=by kernel_rfl)(ar:vS ns (run bp FH fn 900 [.code (aP fn)] ⟨me 0 (args.map EV.pv),[]⟩ tr)=some (K',s',A):=by kernel_rfl):eu bp f args r:=eu.We hf o5 (L.go mixed zG hA ar h)
theorem eD(hf:bp.funcs[f]? = some fn)(ns:List Nat)(tr:List TE)(hA:A)(o5:JR fn (args.map EV.pv).length []=true:=by kernel_rfl)(ar:FC ns (run bp FH fn 900 [.code (aP fn)] ⟨me 0 (args.map EV.pv),[]⟩ tr)=some (r,A):=by kernel_rfl):eu bp f args r:=eu.We hf o5 (L.done mixed zG hA ar)
theorem Li(ns:List Nat)(tr:List TE)(hs:sin.all (fun p=>Nat.ble fn.ntmps p.1)=true)(hA:A)(h:LX bp fn K' s' sin rx sout)(ar:vS ns (run bp FH fn 900 K s tr)=some (K',s',A):=by kernel_rfl):LX bp fn K s sin rx sout:=LX.go mixed zG hs hA ar h
theorem FI(ns:List Nat)(tr:List TE)(hs:sin.all (fun p=>Nat.ble fn.ntmps p.1)=true)(hi:sin.all (fun p=>vJ p.1||(aS.get sout p.1).isSome)=true)(hA:A)(ar:Em ns [] (run bp FH fn 900 K s tr)=some (rx,sout,A):=by kernel_rfl):LX bp fn K s sin rx sout:=LX.W5 mixed zG hs hi hA ar
theorem NH(hf:bp.funcs[f]? = some fn)(ns:List Nat)(tr:List TE)(hA:A)(h:LX bp fn K' s' sin rx sout)(o5:JR fn MM.length sin=true:=by kernel_rfl)(hs:sin.all (fun p=>Nat.ble fn.ntmps p.1)=true:=by rfl)(ar:vS ns (run bp FH fn 900 [.code (aP fn)] ⟨me 0 MM,sin⟩ tr)=some (K',s',A):=by kernel_rfl):au bp f MM sin rx sout:=au.We hf o5 (LX.go mixed zG hs hA ar h)
theorem MN(hf:bp.funcs[f]? = some fn)(ns:List Nat)(tr:List TE)(hA:A)(o5:JR fn MM.length sin=true:=by kernel_rfl)(hs:sin.all (fun p=>Nat.ble fn.ntmps p.1)=true:=by rfl)(ar:Em ns sin (run bp FH fn 900 [.code (aP fn)] ⟨me 0 MM,sin⟩ tr)=some (rx,sout,A):=by kernel_rfl):au bp f MM sin rx sout:=au.We hf o5 (LX.done mixed zG hs hA ar)
end
theorem y1{p0:Prop}(jy:p0):p0∧True:=⟨jy,trivial⟩
theorem y2{p0 p1:Prop}(jy:p0)(jQ:p1):p0∧p1∧True:=⟨jy,jQ,trivial⟩
theorem y3{p0 p1 p2:Prop}(jy:p0)(jQ:p1)(kg:p2):p0∧p1∧p2∧True:=⟨jy,jQ,kg,trivial⟩
theorem y4{p0 p1 p2 p3:Prop}(jy:p0)(jQ:p1)(kg:p2)(kG:p3):p0∧p1∧p2∧p3∧True:=⟨jy,jQ,kg,kG,trivial⟩
theorem y5{p0 p1 p2 p3 p4:Prop}(jy:p0)(jQ:p1)(kg:p2)(kG:p3)(kh:p4):p0∧p1∧p2∧p3∧p4∧True:=⟨jy,jQ,kg,kG,kh,trivial⟩
theorem y6{p0 p1 p2 p3 p4 p5:Prop}(jy:p0)(jQ:p1)(kg:p2)(kG:p3)(kh:p4)(ll:p5):p0∧p1∧p2∧p3∧p4∧p5∧True:=⟨jy,jQ,kg,kG,kh,ll,trivial⟩
theorem y7{p0 p1 p2 p3 p4 p5 p6:Prop}(jy:p0)(jQ:p1)(kg:p2)(kG:p3)(kh:p4)(ll:p5)(lV:p6):p0∧p1∧p2∧p3∧p4∧p5∧p6∧True:=⟨jy,jQ,kg,kG,kh,ll,lV,trivial⟩
theorem y8{p0 p1 p2 p3 p4 p5 p6 p7:Prop}(jy:p0)(jQ:p1)(kg:p2)(kG:p3)(kh:p4)(ll:p5)(lV:p6)(mf:p7):p0∧p1∧p2∧p3∧p4∧p5∧p6∧p7∧True:=⟨jy,jQ,kg,kG,kh,ll,lV,mf,trivial⟩
theorem y9{p0 p1 p2 p3 p4 p5 p6 p7 p8:Prop}(jy:p0)(jQ:p1)(kg:p2)(kG:p3)(kh:p4)(ll:p5)(lV:p6)(mf:p7)(mP:p8):p0∧p1∧p2∧p3∧p4∧p5∧p6∧p7∧p8∧True:=⟨jy,jQ,kg,kG,kh,ll,lV,mf,mP,trivial⟩
theorem JU{p0 p1 p2 p3 p4 p5 p6 p7 p8 p9:Prop}(jy:p0)(jQ:p1)(kg:p2)(kG:p3)(kh:p4)(ll:p5)(lV:p6)(mf:p7)(mP:p8)(ng:p9):p0∧p1∧p2∧p3∧p4∧p5∧p6∧p7∧p8∧p9∧True:=⟨jy,jQ,kg,kG,kh,ll,lV,mf,mP,ng,trivial⟩
theorem HY{p0 p1 p2 p3 p4 p5 p6 p7 p8 p9 iD:Prop}(jy:p0)(jQ:p1)(kg:p2)(kG:p3)(kh:p4)(ll:p5)(lV:p6)(mf:p7)(mP:p8)(ng:p9)(fD:iD):p0∧p1∧p2∧p3∧p4∧p5∧p6∧p7∧p8∧p9∧iD∧True:=⟨jy,jQ,kg,kG,kh,ll,lV,mf,mP,ng,fD,trivial⟩
theorem Jd{p0 p1 p2 p3 p4 p5 p6 p7 p8 p9 iD jn:Prop}(jy:p0)(jQ:p1)(kg:p2)(kG:p3)(kh:p4)(ll:p5)(lV:p6)(mf:p7)(mP:p8)(ng:p9)(fD:iD)(fI:jn):p0∧p1∧p2∧p3∧p4∧p5∧p6∧p7∧p8∧p9∧iD∧jn∧True:=⟨jy,jQ,kg,kG,kh,ll,lV,mf,mP,ng,fD,fI,trivial⟩
theorem JV{p0 p1 p2 p3 p4 p5 p6 p7 p8 p9 iD jn jG:Prop}(jy:p0)(jQ:p1)(kg:p2)(kG:p3)(kh:p4)(ll:p5)(lV:p6)(mf:p7)(mP:p8)(ng:p9)(fD:iD)(fI:jn)(fS:jG):p0∧p1∧p2∧p3∧p4∧p5∧p6∧p7∧p8∧p9∧iD∧jn∧jG∧True:=⟨jy,jQ,kg,kG,kh,ll,lV,mf,mP,ng,fD,fI,fS,trivial⟩
theorem NI{p0 p1 p2 p3 p4 p5 p6 p7 p8 p9 iD jn jG jR:Prop}(jy:p0)(jQ:p1)(kg:p2)(kG:p3)(kh:p4)(ll:p5)(lV:p6)(mf:p7)(mP:p8)(ng:p9)(fD:iD)(fI:jn)(fS:jG)(fZ:jR):p0∧p1∧p2∧p3∧p4∧p5∧p6∧p7∧p8∧p9∧iD∧jn∧jG∧jR∧True:=⟨jy,jQ,kg,kG,kh,ll,lV,mf,mP,ng,fD,fI,fS,fZ,trivial⟩
theorem NJ{p0 p1 p2 p3 p4 p5 p6 p7 p8 p9 iD jn jG jR kz:Prop}(jy:p0)(jQ:p1)(kg:p2)(kG:p3)(kh:p4)(ll:p5)(lV:p6)(mf:p7)(mP:p8)(ng:p9)(fD:iD)(fI:jn)(fS:jG)(fZ:jR)(gy:kz):p0∧p1∧p2∧p3∧p4∧p5∧p6∧p7∧p8∧p9∧iD∧jn∧jG∧jR∧kz∧True:=⟨jy,jQ,kg,kG,kh,ll,lV,mf,mP,ng,fD,fI,fS,fZ,gy,trivial⟩
theorem Lj{p0 p1 p2 p3 p4 p5 p6 p7 p8 p9 iD jn jG jR kz kN:Prop}(jy:p0)(jQ:p1)(kg:p2)(kG:p3)(kh:p4)(ll:p5)(lV:p6)(mf:p7)(mP:p8)(ng:p9)(fD:iD)(fI:jn)(fS:jG)(fZ:jR)(gy:kz)(gR:kN):p0∧p1∧p2∧p3∧p4∧p5∧p6∧p7∧p8∧p9∧iD∧jn∧jG∧jR∧kz∧kN∧True:=⟨jy,jQ,kg,kG,kh,ll,lV,mf,mP,ng,fD,fI,fS,fZ,gy,gR,trivial⟩
theorem QN{p0 p1 p2 p3 p4 p5 p6 p7 p8 p9 iD jn jG jR kz kN lM:Prop}(jy:p0)(jQ:p1)(kg:p2)(kG:p3)(kh:p4)(ll:p5)(lV:p6)(mf:p7)(mP:p8)(ng:p9)(fD:iD)(fI:jn)(fS:jG)(fZ:jR)(gy:kz)(gR:kN)(im:lM):p0∧p1∧p2∧p3∧p4∧p5∧p6∧p7∧p8∧p9∧iD∧jn∧jG∧jR∧kz∧kN∧lM∧True:=⟨jy,jQ,kg,kG,kh,ll,lV,mf,mP,ng,fD,fI,fS,fZ,gy,gR,im,trivial⟩
theorem Uu{p0 p1 p2 p3 p4 p5 p6 p7 p8 p9 iD jn jG jR kz kN lM mj:Prop}(jy:p0)(jQ:p1)(kg:p2)(kG:p3)(kh:p4)(ll:p5)(lV:p6)(mf:p7)(mP:p8)(ng:p9)(fD:iD)(fI:jn)(fS:jG)(fZ:jR)(gy:kz)(gR:kN)(im:lM)(iR:mj):p0∧p1∧p2∧p3∧p4∧p5∧p6∧p7∧p8∧p9∧iD∧jn∧jG∧jR∧kz∧kN∧lM∧mj∧True:=⟨jy,jQ,kg,kG,kh,ll,lV,mf,mP,ng,fD,fI,fS,fZ,gy,gR,im,iR,trivial⟩
theorem YM{p0 p1 p2 p3 p4 p5 p6 p7 p8 p9 iD jn jG jR kz kN lM mj mR:Prop}(jy:p0)(jQ:p1)(kg:p2)(kG:p3)(kh:p4)(ll:p5)(lV:p6)(mf:p7)(mP:p8)(ng:p9)(fD:iD)(fI:jn)(fS:jG)(fZ:jR)(gy:kz)(gR:kN)(im:lM)(iR:mj)(jD:mR):p0∧p1∧p2∧p3∧p4∧p5∧p6∧p7∧p8∧p9∧iD∧jn∧jG∧jR∧kz∧kN∧lM∧mj∧mR∧True:=⟨jy,jQ,kg,kG,kh,ll,lV,mf,mP,ng,fD,fI,fS,fZ,gy,gR,im,iR,jD,trivial⟩
theorem S5{p0 p1 p2 p3 p4 p5 p6 p7 p8 p9 iD jn jG jR kz kN lM mj mR nO:Prop}(jy:p0)(jQ:p1)(kg:p2)(kG:p3)(kh:p4)(ll:p5)(lV:p6)(mf:p7)(mP:p8)(ng:p9)(fD:iD)(fI:jn)(fS:jG)(fZ:jR)(gy:kz)(gR:kN)(im:lM)(iR:mj)(jD:mR)(jS:nO):p0∧p1∧p2∧p3∧p4∧p5∧p6∧p7∧p8∧p9∧iD∧jn∧jG∧jR∧kz∧kN∧lM∧mj∧mR∧nO∧True:=⟨jy,jQ,kg,kG,kh,ll,lV,mf,mP,ng,fD,fI,fS,fZ,gy,gR,im,iR,jD,jS,trivial⟩
theorem YN{p0 p1 p2 p3 p4 p5 p6 p7 p8 p9 iD jn jG jR kz kN lM mj mR nO ou:Prop}(jy:p0)(jQ:p1)(kg:p2)(kG:p3)(kh:p4)(ll:p5)(lV:p6)(mf:p7)(mP:p8)(ng:p9)(fD:iD)(fI:jn)(fS:jG)(fZ:jR)(gy:kz)(gR:kN)(im:lM)(iR:mj)(jD:mR)(jS:nO)(kH:ou):p0∧p1∧p2∧p3∧p4∧p5∧p6∧p7∧p8∧p9∧iD∧jn∧jG∧jR∧kz∧kN∧lM∧mj∧mR∧nO∧ou∧True:=⟨jy,jQ,kg,kG,kh,ll,lV,mf,mP,ng,fD,fI,fS,fZ,gy,gR,im,iR,jD,jS,kH,trivial⟩
theorem y22{p0 p1 p2 p3 p4 p5 p6 p7 p8 p9 iD jn jG jR kz kN lM mj mR nO ou o9:Prop}(jy:p0)(jQ:p1)(kg:p2)(kG:p3)(kh:p4)(ll:p5)(lV:p6)(mf:p7)(mP:p8)(ng:p9)(fD:iD)(fI:jn)(fS:jG)(fZ:jR)(gy:kz)(gR:kN)(im:lM)(iR:mj)(jD:mR)(jS:nO)(kH:ou)(lu:o9):p0∧p1∧p2∧p3∧p4∧p5∧p6∧p7∧p8∧p9∧iD∧jn∧jG∧jR∧kz∧kN∧lM∧mj∧mR∧nO∧ou∧o9∧True:=⟨jy,jQ,kg,kG,kh,ll,lV,mf,mP,ng,fD,fI,fS,fZ,gy,gR,im,iR,jD,jS,kH,lu,trivial⟩
theorem y23{p0 p1 p2 p3 p4 p5 p6 p7 p8 p9 iD jn jG jR kz kN lM mj mR nO ou o9 qd:Prop}(jy:p0)(jQ:p1)(kg:p2)(kG:p3)(kh:p4)(ll:p5)(lV:p6)(mf:p7)(mP:p8)(ng:p9)(fD:iD)(fI:jn)(fS:jG)(fZ:jR)(gy:kz)(gR:kN)(im:lM)(iR:mj)(jD:mR)(jS:nO)(kH:ou)(lu:o9)(mm:qd):p0∧p1∧p2∧p3∧p4∧p5∧p6∧p7∧p8∧p9∧iD∧jn∧jG∧jR∧kz∧kN∧lM∧mj∧mR∧nO∧ou∧o9∧qd∧True:=⟨jy,jQ,kg,kG,kh,ll,lV,mf,mP,ng,fD,fI,fS,fZ,gy,gR,im,iR,jD,jS,kH,lu,mm,trivial⟩
theorem Wf{p0 p1 p2 p3 p4 p5 p6 p7 p8 p9 iD jn jG jR kz kN lM mj mR nO ou o9 qd rj:Prop}(jy:p0)(jQ:p1)(kg:p2)(kG:p3)(kh:p4)(ll:p5)(lV:p6)(mf:p7)(mP:p8)(ng:p9)(fD:iD)(fI:jn)(fS:jG)(fZ:jR)(gy:kz)(gR:kN)(im:lM)(iR:mj)(jD:mR)(jS:nO)(kH:ou)(lu:o9)(mm:qd)(nh:rj):p0∧p1∧p2∧p3∧p4∧p5∧p6∧p7∧p8∧p9∧iD∧jn∧jG∧jR∧kz∧kN∧lM∧mj∧mR∧nO∧ou∧o9∧qd∧rj∧True:=⟨jy,jQ,kg,kG,kh,ll,lV,mf,mP,ng,fD,fI,fS,fZ,gy,gR,im,iR,jD,jS,kH,lu,mm,nh,trivial⟩
theorem y26{p0 p1 p2 p3 p4 p5 p6 p7 p8 p9 iD jn jG jR kz kN lM mj mR nO ou o9 qd rj sV sW:Prop}(jy:p0)(jQ:p1)(kg:p2)(kG:p3)(kh:p4)(ll:p5)(lV:p6)(mf:p7)(mP:p8)(ng:p9)(fD:iD)(fI:jn)(fS:jG)(fZ:jR)(gy:kz)(gR:kN)(im:lM)(iR:mj)(jD:mR)(jS:nO)(kH:ou)(lu:o9)(mm:qd)(nh:rj)(og:sV)(oh:sW):p0∧p1∧p2∧p3∧p4∧p5∧p6∧p7∧p8∧p9∧iD∧jn∧jG∧jR∧kz∧kN∧lM∧mj∧mR∧nO∧ou∧o9∧qd∧rj∧sV∧sW∧True:=⟨jy,jQ,kg,kG,kh,ll,lV,mf,mP,ng,fD,fI,fS,fZ,gy,gR,im,iR,jD,jS,kH,lu,mm,nh,og,oh,trivial⟩
theorem y27{p0 p1 p2 p3 p4 p5 p6 p7 p8 p9 iD jn jG jR kz kN lM mj mR nO ou o9 qd rj sV sW tI:Prop}(jy:p0)(jQ:p1)(kg:p2)(kG:p3)(kh:p4)(ll:p5)(lV:p6)(mf:p7)(mP:p8)(ng:p9)(fD:iD)(fI:jn)(fS:jG)(fZ:jR)(gy:kz)(gR:kN)(im:lM)(iR:mj)(jD:mR)(jS:nO)(kH:ou)(lu:o9)(mm:qd)(nh:rj)(og:sV)(oh:sW)(pc:tI):p0∧p1∧p2∧p3∧p4∧p5∧p6∧p7∧p8∧p9∧iD∧jn∧jG∧jR∧kz∧kN∧lM∧mj∧mR∧nO∧ou∧o9∧qd∧rj∧sV∧sW∧tI∧True:=⟨jy,jQ,kg,kG,kh,ll,lV,mf,mP,ng,fD,fI,fS,fZ,gy,gR,im,iR,jD,jS,kH,lu,mm,nh,og,oh,pc,trivial⟩
theorem y28{p0 p1 p2 p3 p4 p5 p6 p7 p8 p9 iD jn jG jR kz kN lM mj mR nO ou o9 qd rj sV sW tI vm:Prop}(jy:p0)(jQ:p1)(kg:p2)(kG:p3)(kh:p4)(ll:p5)(lV:p6)(mf:p7)(mP:p8)(ng:p9)(fD:iD)(fI:jn)(fS:jG)(fZ:jR)(gy:kz)(gR:kN)(im:lM)(iR:mj)(jD:mR)(jS:nO)(kH:ou)(lu:o9)(mm:qd)(nh:rj)(og:sV)(oh:sW)(pc:tI)(qN:vm):p0∧p1∧p2∧p3∧p4∧p5∧p6∧p7∧p8∧p9∧iD∧jn∧jG∧jR∧kz∧kN∧lM∧mj∧mR∧nO∧ou∧o9∧qd∧rj∧sV∧sW∧tI∧vm∧True:=⟨jy,jQ,kg,kG,kh,ll,lV,mf,mP,ng,fD,fI,fS,fZ,gy,gR,im,iR,jD,jS,kH,lu,mm,nh,og,oh,pc,qN,trivial⟩
theorem y29{p0 p1 p2 p3 p4 p5 p6 p7 p8 p9 iD jn jG jR kz kN lM mj mR nO ou o9 qd rj sV sW tI vm xn:Prop}(jy:p0)(jQ:p1)(kg:p2)(kG:p3)(kh:p4)(ll:p5)(lV:p6)(mf:p7)(mP:p8)(ng:p9)(fD:iD)(fI:jn)(fS:jG)(fZ:jR)(gy:kz)(gR:kN)(im:lM)(iR:mj)(jD:mR)(jS:nO)(kH:ou)(lu:o9)(mm:qd)(nh:rj)(og:sV)(oh:sW)(pc:tI)(qN:vm)(sf:xn):p0∧p1∧p2∧p3∧p4∧p5∧p6∧p7∧p8∧p9∧iD∧jn∧jG∧jR∧kz∧kN∧lM∧mj∧mR∧nO∧ou∧o9∧qd∧rj∧sV∧sW∧tI∧vm∧xn∧True:=⟨jy,jQ,kg,kG,kh,ll,lV,mf,mP,ng,fD,fI,fS,fZ,gy,gR,im,iR,jD,jS,kH,lu,mm,nh,og,oh,pc,qN,sf,trivial⟩
theorem y30{p0 p1 p2 p3 p4 p5 p6 p7 p8 p9 iD jn jG jR kz kN lM mj mR nO ou o9 qd rj sV sW tI vm xn zH:Prop}(jy:p0)(jQ:p1)(kg:p2)(kG:p3)(kh:p4)(ll:p5)(lV:p6)(mf:p7)(mP:p8)(ng:p9)(fD:iD)(fI:jn)(fS:jG)(fZ:jR)(gy:kz)(gR:kN)(im:lM)(iR:mj)(jD:mR)(jS:nO)(kH:ou)(lu:o9)(mm:qd)(nh:rj)(og:sV)(oh:sW)(pc:tI)(qN:vm)(sf:xn)(tJ:zH):p0∧p1∧p2∧p3∧p4∧p5∧p6∧p7∧p8∧p9∧iD∧jn∧jG∧jR∧kz∧kN∧lM∧mj∧mR∧nO∧ou∧o9∧qd∧rj∧sV∧sW∧tI∧vm∧xn∧zH∧True:=⟨jy,jQ,kg,kG,kh,ll,lV,mf,mP,ng,fD,fI,fS,fZ,gy,gR,im,iR,jD,jS,kH,lu,mm,nh,og,oh,pc,qN,sf,tJ,trivial⟩
theorem y31{p0 p1 p2 p3 p4 p5 p6 p7 p8 p9 iD jn jG jR kz kN lM mj mR nO ou o9 qd rj sV sW tI vm xn zH BW:Prop}(jy:p0)(jQ:p1)(kg:p2)(kG:p3)(kh:p4)(ll:p5)(lV:p6)(mf:p7)(mP:p8)(ng:p9)(fD:iD)(fI:jn)(fS:jG)(fZ:jR)(gy:kz)(gR:kN)(im:lM)(iR:mj)(jD:mR)(jS:nO)(kH:ou)(lu:o9)(mm:qd)(nh:rj)(og:sV)(oh:sW)(pc:tI)(qN:vm)(sf:xn)(tJ:zH)(vX:BW):p0∧p1∧p2∧p3∧p4∧p5∧p6∧p7∧p8∧p9∧iD∧jn∧jG∧jR∧kz∧kN∧lM∧mj∧mR∧nO∧ou∧o9∧qd∧rj∧sV∧sW∧tI∧vm∧xn∧zH∧BW∧True:=⟨jy,jQ,kg,kG,kh,ll,lV,mf,mP,ng,fD,fI,fS,fZ,gy,gR,im,iR,jD,jS,kH,lu,mm,nh,og,oh,pc,qN,sf,tJ,vX,trivial⟩
theorem y34{p0 p1 p2 p3 p4 p5 p6 p7 p8 p9 iD jn jG jR kz kN lM mj mR nO ou o9 qd rj sV sW tI vm xn zH BW En Eo Ep:Prop}(jy:p0)(jQ:p1)(kg:p2)(kG:p3)(kh:p4)(ll:p5)(lV:p6)(mf:p7)(mP:p8)(ng:p9)(fD:iD)(fI:jn)(fS:jG)(fZ:jR)(gy:kz)(gR:kN)(im:lM)(iR:mj)(jD:mR)(jS:nO)(kH:ou)(lu:o9)(mm:qd)(nh:rj)(og:sV)(oh:sW)(pc:tI)(qN:vm)(sf:xn)(tJ:zH)(vX:BW)(yE:En)(yF:Eo)(yG:Ep):p0∧p1∧p2∧p3∧p4∧p5∧p6∧p7∧p8∧p9∧iD∧jn∧jG∧jR∧kz∧kN∧lM∧mj∧mR∧nO∧ou∧o9∧qd∧rj∧sV∧sW∧tI∧vm∧xn∧zH∧BW∧En∧Eo∧Ep∧True:=⟨jy,jQ,kg,kG,kh,ll,lV,mf,mP,ng,fD,fI,fS,fZ,gy,gR,im,iR,jD,jS,kH,lu,mm,nh,og,oh,pc,qN,sf,tJ,vX,yE,yF,yG,trivial⟩
theorem y35{p0 p1 p2 p3 p4 p5 p6 p7 p8 p9 iD jn jG jR kz kN lM mj mR nO ou o9 qd rj sV sW tI vm xn zH BW En Eo Ep HZ:Prop}(jy:p0)(jQ:p1)(kg:p2)(kG:p3)(kh:p4)(ll:p5)(lV:p6)(mf:p7)(mP:p8)(ng:p9)(fD:iD)(fI:jn)(fS:jG)(fZ:jR)(gy:kz)(gR:kN)(im:lM)(iR:mj)(jD:mR)(jS:nO)(kH:ou)(lu:o9)(mm:qd)(nh:rj)(og:sV)(oh:sW)(pc:tI)(qN:vm)(sf:xn)(tJ:zH)(vX:BW)(yE:En)(yF:Eo)(yG:Ep)(BX:HZ):p0∧p1∧p2∧p3∧p4∧p5∧p6∧p7∧p8∧p9∧iD∧jn∧jG∧jR∧kz∧kN∧lM∧mj∧mR∧nO∧ou∧o9∧qd∧rj∧sV∧sW∧tI∧vm∧xn∧zH∧BW∧En∧Eo∧Ep∧HZ∧True:=⟨jy,jQ,kg,kG,kh,ll,lV,mf,mP,ng,fD,fI,fS,fZ,gy,gR,im,iR,jD,jS,kH,lu,mm,nh,og,oh,pc,qN,sf,tJ,vX,yE,yF,yG,BX,trivial⟩
theorem y36{p0 p1 p2 p3 p4 p5 p6 p7 p8 p9 iD jn jG jR kz kN lM mj mR nO ou o9 qd rj sV sW tI vm xn zH BW En Eo Ep HZ Ll:Prop}(jy:p0)(jQ:p1)(kg:p2)(kG:p3)(kh:p4)(ll:p5)(lV:p6)(mf:p7)(mP:p8)(ng:p9)(fD:iD)(fI:jn)(fS:jG)(fZ:jR)(gy:kz)(gR:kN)(im:lM)(iR:mj)(jD:mR)(jS:nO)(kH:ou)(lu:o9)(mm:qd)(nh:rj)(og:sV)(oh:sW)(pc:tI)(qN:vm)(sf:xn)(tJ:zH)(vX:BW)(yE:En)(yF:Eo)(yG:Ep)(BX:HZ)(FJ:Ll):p0∧p1∧p2∧p3∧p4∧p5∧p6∧p7∧p8∧p9∧iD∧jn∧jG∧jR∧kz∧kN∧lM∧mj∧mR∧nO∧ou∧o9∧qd∧rj∧sV∧sW∧tI∧vm∧xn∧zH∧BW∧En∧Eo∧Ep∧HZ∧Ll∧True:=⟨jy,jQ,kg,kG,kh,ll,lV,mf,mP,ng,fD,fI,fS,fZ,gy,gR,im,iR,jD,jS,kH,lu,mm,nh,og,oh,pc,qN,sf,tJ,vX,yE,yF,yG,BX,FJ,trivial⟩
theorem y37{p0 p1 p2 p3 p4 p5 p6 p7 p8 p9 iD jn jG jR kz kN lM mj mR nO ou o9 qd rj sV sW tI vm xn zH BW En Eo Ep HZ Ll OT:Prop}(jy:p0)(jQ:p1)(kg:p2)(kG:p3)(kh:p4)(ll:p5)(lV:p6)(mf:p7)(mP:p8)(ng:p9)(fD:iD)(fI:jn)(fS:jG)(fZ:jR)(gy:kz)(gR:kN)(im:lM)(iR:mj)(jD:mR)(jS:nO)(kH:ou)(lu:o9)(mm:qd)(nh:rj)(og:sV)(oh:sW)(pc:tI)(qN:vm)(sf:xn)(tJ:zH)(vX:BW)(yE:En)(yF:Eo)(yG:Ep)(BX:HZ)(FJ:Ll)(JW:OT):p0∧p1∧p2∧p3∧p4∧p5∧p6∧p7∧p8∧p9∧iD∧jn∧jG∧jR∧kz∧kN∧lM∧mj∧mR∧nO∧ou∧o9∧qd∧rj∧sV∧sW∧tI∧vm∧xn∧zH∧BW∧En∧Eo∧Ep∧HZ∧Ll∧OT∧True:=⟨jy,jQ,kg,kG,kh,ll,lV,mf,mP,ng,fD,fI,fS,fZ,gy,gR,im,iR,jD,jS,kH,lu,mm,nh,og,oh,pc,qN,sf,tJ,vX,yE,yF,yG,BX,FJ,JW,trivial⟩
theorem y38{p0 p1 p2 p3 p4 p5 p6 p7 p8 p9 iD jn jG jR kz kN lM mj mR nO ou o9 qd rj sV sW tI vm xn zH BW En Eo Ep HZ Ll OT S6:Prop}(jy:p0)(jQ:p1)(kg:p2)(kG:p3)(kh:p4)(ll:p5)(lV:p6)(mf:p7)(mP:p8)(ng:p9)(fD:iD)(fI:jn)(fS:jG)(fZ:jR)(gy:kz)(gR:kN)(im:lM)(iR:mj)(jD:mR)(jS:nO)(kH:ou)(lu:o9)(mm:qd)(nh:rj)(og:sV)(oh:sW)(pc:tI)(qN:vm)(sf:xn)(tJ:zH)(vX:BW)(yE:En)(yF:Eo)(yG:Ep)(BX:HZ)(FJ:Ll)(JW:OT)(OU:S6):p0∧p1∧p2∧p3∧p4∧p5∧p6∧p7∧p8∧p9∧iD∧jn∧jG∧jR∧kz∧kN∧lM∧mj∧mR∧nO∧ou∧o9∧qd∧rj∧sV∧sW∧tI∧vm∧xn∧zH∧BW∧En∧Eo∧Ep∧HZ∧Ll∧OT∧S6∧True:=⟨jy,jQ,kg,kG,kh,ll,lV,mf,mP,ng,fD,fI,fS,fZ,gy,gR,im,iR,jD,jS,kH,lu,mm,nh,og,oh,pc,qN,sf,tJ,vX,yE,yF,yG,BX,FJ,JW,OU,trivial⟩
theorem y39{p0 p1 p2 p3 p4 p5 p6 p7 p8 p9 iD jn jG jR kz kN lM mj mR nO ou o9 qd rj sV sW tI vm xn zH BW En Eo Ep HZ Ll OT S6 Xb:Prop}(jy:p0)(jQ:p1)(kg:p2)(kG:p3)(kh:p4)(ll:p5)(lV:p6)(mf:p7)(mP:p8)(ng:p9)(fD:iD)(fI:jn)(fS:jG)(fZ:jR)(gy:kz)(gR:kN)(im:lM)(iR:mj)(jD:mR)(jS:nO)(kH:ou)(lu:o9)(mm:qd)(nh:rj)(og:sV)(oh:sW)(pc:tI)(qN:vm)(sf:xn)(tJ:zH)(vX:BW)(yE:En)(yF:Eo)(yG:Ep)(BX:HZ)(FJ:Ll)(JW:OT)(OU:S6)(Uv:Xb):p0∧p1∧p2∧p3∧p4∧p5∧p6∧p7∧p8∧p9∧iD∧jn∧jG∧jR∧kz∧kN∧lM∧mj∧mR∧nO∧ou∧o9∧qd∧rj∧sV∧sW∧tI∧vm∧xn∧zH∧BW∧En∧Eo∧Ep∧HZ∧Ll∧OT∧S6∧Xb∧True:=⟨jy,jQ,kg,kG,kh,ll,lV,mf,mP,ng,fD,fI,fS,fZ,gy,gR,im,iR,jD,jS,kH,lu,mm,nh,og,oh,pc,qN,sf,tJ,vX,yE,yF,yG,BX,FJ,JW,OU,Uv,trivial⟩
theorem y40{p0 p1 p2 p3 p4 p5 p6 p7 p8 p9 iD jn jG jR kz kN lM mj mR nO ou o9 qd rj sV sW tI vm xn zH BW En Eo Ep HZ Ll OT S6 Xb p39:Prop}(jy:p0)(jQ:p1)(kg:p2)(kG:p3)(kh:p4)(ll:p5)(lV:p6)(mf:p7)(mP:p8)(ng:p9)(fD:iD)(fI:jn)(fS:jG)(fZ:jR)(gy:kz)(gR:kN)(im:lM)(iR:mj)(jD:mR)(jS:nO)(kH:ou)(lu:o9)(mm:qd)(nh:rj)(og:sV)(oh:sW)(pc:tI)(qN:vm)(sf:xn)(tJ:zH)(vX:BW)(yE:En)(yF:Eo)(yG:Ep)(BX:HZ)(FJ:Ll)(JW:OT)(OU:S6)(Uv:Xb)(aa2:p39):p0∧p1∧p2∧p3∧p4∧p5∧p6∧p7∧p8∧p9∧iD∧jn∧jG∧jR∧kz∧kN∧lM∧mj∧mR∧nO∧ou∧o9∧qd∧rj∧sV∧sW∧tI∧vm∧xn∧zH∧BW∧En∧Eo∧Ep∧HZ∧Ll∧OT∧S6∧Xb∧p39∧True:=⟨jy,jQ,kg,kG,kh,ll,lV,mf,mP,ng,fD,fI,fS,fZ,gy,gR,im,iR,jD,jS,kH,lu,mm,nh,og,oh,pc,qN,sf,tJ,vX,yE,yF,yG,BX,FJ,JW,OU,Uv,aa2,trivial⟩
end Go.Proofs.YtcpnocgollpbhaaGreatDoor.Sym
