/- Lemmas for the statements of this seat. -/
import Derived.Test.YtllmkadmohkbfaaGreatDoorWObs
import Derived.Test.YtllmkadmohkbfaaGreatDoorProg
namespace Go.Proofs.YtllmkadmohkbfaaGreatDoor.Sym
open Go
structure ah where
 neg:Bool
 num:List UInt32
 den:List UInt32
def ah.cells(x:ah):List PV:=[(vB x.neg),(ag x.num),(ag x.den)]
def ah.pv(x:ah):PV := .agg x.cells
theorem bM:Sz ah.cells 3:=fun _=>rfl
abbrev Xl:=List ah
abbrev ae(p:Xl):PV := .list (p.map ah.cells)
structure af where
 lo:ah
 hi:ah
def af.cells(x:af):List PV:=[(vB x.lo.neg),(ag x.lo.num),(ag x.lo.den),(vB x.hi.neg),(ag x.hi.num),(ag x.hi.den)]
def af.pv(x:af):PV := .agg x.cells
theorem eX:Sz af.cells 6:=fun _=>rfl
structure az where
 p:List ah
 rV:af
def az.cells(x:az):List PV:=[(ae x.p),(vB x.rV.lo.neg),(ag x.rV.lo.num),(ag x.rV.lo.den),(vB x.rV.hi.neg),(ag x.rV.hi.num),(ag x.rV.hi.den)]
def az.pv(x:az):PV := .agg x.cells
theorem fY:Sz az.cells 7:=fun _=>rfl
structure cD where
 roots:List (List ah)
def cD.cells(x:cD):List PV:=[(bq (an ah.cells) x.roots)]
def cD.pv(x:cD):PV := .agg x.cells
structure aI where
 neg:Bool
 fS:List UInt32
def aI.cells(x:aI):List PV:=[(vB x.neg),(ag x.fS)]
def aI.pv(x:aI):PV := .agg x.cells
@[reducible] noncomputable def bT:Program:=Tryz.prog
def lz:qU:=[(2,⟨.int .i64,1,8,false,[.int .i64 0]⟩),
 (3,⟨.int .i64,1,8,false,[.int .i64 0]⟩),
 (4,⟨.bool,1,1,false,[(vB false)]⟩),
 (5,⟨.int .u8,1,1,false,[.int .u8 0]⟩),
 (6,⟨.int .u8,1,1,false,[.int .u8 0]⟩),
 (7,⟨.struct [(0,1,false),(1,1,false),(2,1,false),(3,1,false)],4,24,true,[.int .i64 0,.int .i64 0,(vB false),.int .u8 0]⟩),
 (8,⟨.struct [(0,1,false),(1,1,false),(2,1,false),(3,1,false)],4,24,true,[.int .i64 0,.int .i64 0,(vB false),.int .u8 0]⟩),
 (9,⟨.str,1,16,false,[.str ByteArray.empty]⟩),
 (10,⟨.str,1,16,false,[.str ByteArray.empty]⟩),
 (11,⟨.str,1,16,false,[.str ByteArray.empty]⟩),
 (12,⟨.int .u64,1,8,false,[.int .u64 0]⟩),
 (13,⟨.struct [(0,1,false),(1,1,false)],2,24,true,[.str ByteArray.empty,.int .u64 0]⟩),
 (14,⟨.struct [(0,1,false),(1,1,false)],2,24,true,[.str ByteArray.empty,.int .u64 0]⟩),
 (20,⟨.iface,1,16,false,[.aq]⟩),
 (21,⟨.int .i32,1,4,false,[.int .i32 0]⟩),
 (22,⟨.slice 26,1,24,false,[.gb]⟩),
 (23,⟨.slice 26,1,24,false,[.gb]⟩),
 (24,⟨.slice 119,1,24,false,[.gb]⟩),
 (25,⟨.struct [(0,1,false),(1,1,false),(2,1,false)],3,56,true,[(vB false),.gb,.gb]⟩),
 (26,⟨.struct [(0,1,false),(1,1,false),(2,1,false)],3,56,true,[(vB false),.gb,.gb]⟩),
 (27,⟨.struct [(0,3,true),(3,3,true)],6,112,true,[(vB false),.gb,.gb,(vB false),.gb,.gb]⟩),
 (28,⟨.struct [(0,3,true),(3,3,true)],6,112,true,[(vB false),.gb,.gb,(vB false),.gb,.gb]⟩),
 (29,⟨.struct [(0,1,false),(1,6,true)],7,136,true,[.gb,(vB false),.gb,.gb,(vB false),.gb,.gb]⟩),
 (30,⟨.struct [(0,1,false),(1,6,true)],7,136,true,[.gb,(vB false),.gb,.gb,(vB false),.gb,.gb]⟩),
 (33,⟨.iface,1,16,false,[.aq]⟩),
 (34,⟨.iface,1,16,false,[.aq]⟩),
 (48,⟨.slice 30,1,24,false,[.gb]⟩),
 (67,⟨.int .i64,1,8,false,[.int .i64 0]⟩),
 (69,⟨.slice 34,1,24,false,[.gb]⟩),
 (71,⟨.slice 74,1,24,false,[.gb]⟩),
 (72,⟨.struct [(0,1,false)],1,24,true,[.gb]⟩),
 (73,⟨.struct [(0,1,false)],1,24,true,[.gb]⟩),
 (74,⟨.slice 26,1,24,false,[.gb]⟩),
 (107,⟨.struct [(0,1,false),(1,1,false)],2,32,true,[(vB false),.gb]⟩),
 (108,⟨.struct [(0,1,false),(1,1,false)],2,32,true,[(vB false),.gb]⟩),
 (119,⟨.int .u32,1,4,false,[.int .u32 0]⟩),
 (120,⟨.slice 28,1,24,false,[.gb]⟩),
 (166,⟨.slice 3,1,24,false,[.gb]⟩),
 (178,⟨.int .u64,1,8,false,[.int .u64 0]⟩),
 (179,⟨.int .u64,1,8,false,[.int .u64 0]⟩),
 (186,⟨.slice 23,1,24,false,[.gb]⟩),
 (224,⟨.slice 9,1,24,false,[.gb]⟩),
 (256,⟨.slice 5,1,24,false,[.gb]⟩),
 (296,⟨.int .u8,1,1,false,[.int .u8 0]⟩),
 (297,⟨.int .u8,1,1,false,[.int .u8 0]⟩),
 (299,⟨.int .i32,1,4,false,[.int .i32 0]⟩),
 (300,⟨.int .i32,1,4,false,[.int .i32 0]⟩)]
theorem EW:uj bT lz:=uj.of (by kernel_rfl)
theorem mixed:bT.follows .mixedOrders=true:=by kernel_rfl
abbrev Cp:=kV bT
abbrev Ws:=List UInt32
abbrev Rs:=List ah
abbrev TE.a:TE := .auto
abbrev TE.t:TE := .dec true
abbrev TE.f:TE := .dec false
abbrev TE.q:TE := .ba []
abbrev TE.h(n:Nat)(x:Hint):TE := .ba (List.replicate n .none++[x])
abbrev Hint.o:Hint := .none
section
variable {fn:Func} {K K':List gC} {s s':St} {r:PV} {sin sout:cq} {rx:EV} {f:FuncId} {args:List PV} {Pn:List EV} {A:Prop}
theorem lG(n:Nat)(ns:List Nat)(tr:List TE)(hA:A)(h:L bT fn K' s' r)(aH:BN ns (run bT lz fn n K s tr)=some (K',s',A):=by kernel_rfl):L bT fn K s r:=L.go mixed EW hA aH h
theorem lD(n:Nat)(ns:List Nat)(tr:List TE)(hA:A)(aH:JP ns (run bT lz fn n K s tr)=some (r,A):=by kernel_rfl):L bT fn K s r:=L.done mixed EW hA aH
theorem eG(hf:bT.funcs[f]? = some fn)(n:Nat)(ns:List Nat)(tr:List TE)(hA:A)(h:L bT fn K' s' r)(vb:MR fn (args.map EV.pv).length []=true:=by kernel_rfl)(aH:BN ns (run bT lz fn n [.code (aA fn)] ⟨rP 0 (args.map EV.pv),[]⟩ tr)=some (K',s',A):=by kernel_rfl):kV bT f args r:=kV.Wp hf vb (L.go mixed EW hA aH h)
theorem eD(hf:bT.funcs[f]? = some fn)(n:Nat)(ns:List Nat)(tr:List TE)(hA:A)(vb:MR fn (args.map EV.pv).length []=true:=by kernel_rfl)(aH:JP ns (run bT lz fn n [.code (aA fn)] ⟨rP 0 (args.map EV.pv),[]⟩ tr)=some (r,A):=by kernel_rfl):kV bT f args r:=kV.Wp hf vb (L.done mixed EW hA aH)
theorem Po(n:Nat)(ns:List Nat)(tr:List TE)(hs:sin.all (fun p=>Nat.ble fn.ntmps p.1)=true)(hA:A)(h:LX bT fn K' s' sin rx sout)(aH:BN ns (run bT lz fn n K s tr)=some (K',s',A):=by kernel_rfl):LX bT fn K s sin rx sout:=LX.go mixed EW hs hA aH h
theorem Kv(n:Nat)(ns:List Nat)(tr:List TE)(hs:sin.all (fun p=>Nat.ble fn.ntmps p.1)=true)(hi:sin.all (fun p=>Cw p.1||(cq.get sout p.1).isSome)=true)(hA:A)(aH:I2 ns [] (run bT lz fn n K s tr)=some (rx,sout,A):=by kernel_rfl):LX bT fn K s sin rx sout:=LX.Xe mixed EW hs hi hA aH
theorem QY(hf:bT.funcs[f]? = some fn)(n:Nat)(ns:List Nat)(tr:List TE)(hA:A)(h:LX bT fn K' s' sin rx sout)(vb:MR fn Pn.length sin=true:=by kernel_rfl)(hs:sin.all (fun p=>Nat.ble fn.ntmps p.1)=true:=by rfl)(aH:BN ns (run bT lz fn n [.code (aA fn)] ⟨rP 0 Pn,sin⟩ tr)=some (K',s',A):=by kernel_rfl):av bT f Pn sin rx sout:=av.Wp hf vb (LX.go mixed EW hs hA aH h)
theorem uT(hf:bT.funcs[f]? = some fn)(n:Nat)(ns:List Nat)(tr:List TE)(hA:A)(vb:MR fn Pn.length sin=true:=by kernel_rfl)(hs:sin.all (fun p=>Nat.ble fn.ntmps p.1)=true:=by rfl)(aH:I2 ns sin (run bT lz fn n [.code (aA fn)] ⟨rP 0 Pn,sin⟩ tr)=some (rx,sout,A):=by kernel_rfl):av bT f Pn sin rx sout:=av.Wp hf vb (LX.done mixed EW hs hA aH)
end
theorem y1{p0:Prop}(mc:p0):p0∧True:=⟨mc,trivial⟩
theorem y2{p0 p1:Prop}(mc:p0)(oh:p1):p0∧p1∧True:=⟨mc,oh,trivial⟩
theorem y3{p0 p1 p2:Prop}(mc:p0)(oh:p1)(pg:p2):p0∧p1∧p2∧True:=⟨mc,oh,pg,trivial⟩
theorem y4{p0 p1 p2 p3:Prop}(mc:p0)(oh:p1)(pg:p2)(pZ:p3):p0∧p1∧p2∧p3∧True:=⟨mc,oh,pg,pZ,trivial⟩
theorem y5{p0 p1 p2 p3 p4:Prop}(mc:p0)(oh:p1)(pg:p2)(pZ:p3)(qt:p4):p0∧p1∧p2∧p3∧p4∧True:=⟨mc,oh,pg,pZ,qt,trivial⟩
theorem y6{p0 p1 p2 p3 p4 p5:Prop}(mc:p0)(oh:p1)(pg:p2)(pZ:p3)(qt:p4)(qI:p5):p0∧p1∧p2∧p3∧p4∧p5∧True:=⟨mc,oh,pg,pZ,qt,qI,trivial⟩
theorem y7{p0 p1 p2 p3 p4 p5 p6:Prop}(mc:p0)(oh:p1)(pg:p2)(pZ:p3)(qt:p4)(qI:p5)(ra:p6):p0∧p1∧p2∧p3∧p4∧p5∧p6∧True:=⟨mc,oh,pg,pZ,qt,qI,ra,trivial⟩
theorem y8{p0 p1 p2 p3 p4 p5 p6 p7:Prop}(mc:p0)(oh:p1)(pg:p2)(pZ:p3)(qt:p4)(qI:p5)(ra:p6)(rF:p7):p0∧p1∧p2∧p3∧p4∧p5∧p6∧p7∧True:=⟨mc,oh,pg,pZ,qt,qI,ra,rF,trivial⟩
theorem y9{p0 p1 p2 p3 p4 p5 p6 p7 p8:Prop}(mc:p0)(oh:p1)(pg:p2)(pZ:p3)(qt:p4)(qI:p5)(ra:p6)(rF:p7)(rQ:p8):p0∧p1∧p2∧p3∧p4∧p5∧p6∧p7∧p8∧True:=⟨mc,oh,pg,pZ,qt,qI,ra,rF,rQ,trivial⟩
theorem Iu{p0 p1 p2 p3 p4 p5 p6 p7 p8 p9:Prop}(mc:p0)(oh:p1)(pg:p2)(pZ:p3)(qt:p4)(qI:p5)(ra:p6)(rF:p7)(rQ:p8)(sN:p9):p0∧p1∧p2∧p3∧p4∧p5∧p6∧p7∧p8∧p9∧True:=⟨mc,oh,pg,pZ,qt,qI,ra,rF,rQ,sN,trivial⟩
theorem FO{p0 p1 p2 p3 p4 p5 p6 p7 p8 p9 mT:Prop}(mc:p0)(oh:p1)(pg:p2)(pZ:p3)(qt:p4)(qI:p5)(ra:p6)(rF:p7)(rQ:p8)(sN:p9)(kh:mT):p0∧p1∧p2∧p3∧p4∧p5∧p6∧p7∧p8∧p9∧mT∧True:=⟨mc,oh,pg,pZ,qt,qI,ra,rF,rQ,sN,kh,trivial⟩
theorem Pp{p0 p1 p2 p3 p4 p5 p6 p7 p8 p9 mT ny:Prop}(mc:p0)(oh:p1)(pg:p2)(pZ:p3)(qt:p4)(qI:p5)(ra:p6)(rF:p7)(rQ:p8)(sN:p9)(kh:mT)(kA:ny):p0∧p1∧p2∧p3∧p4∧p5∧p6∧p7∧p8∧p9∧mT∧ny∧True:=⟨mc,oh,pg,pZ,qt,qI,ra,rF,rQ,sN,kh,kA,trivial⟩
theorem Fz{p0 p1 p2 p3 p4 p5 p6 p7 p8 p9 mT ny oi:Prop}(mc:p0)(oh:p1)(pg:p2)(pZ:p3)(qt:p4)(qI:p5)(ra:p6)(rF:p7)(rQ:p8)(sN:p9)(kh:mT)(kA:ny)(kP:oi):p0∧p1∧p2∧p3∧p4∧p5∧p6∧p7∧p8∧p9∧mT∧ny∧oi∧True:=⟨mc,oh,pg,pZ,qt,qI,ra,rF,rQ,sN,kh,kA,kP,trivial⟩
theorem QZ{p0 p1 p2 p3 p4 p5 p6 p7 p8 p9 mT ny oi oR:Prop}(mc:p0)(oh:p1)(pg:p2)(pZ:p3)(qt:p4)(qI:p5)(ra:p6)(rF:p7)(rQ:p8)(sN:p9)(kh:mT)(kA:ny)(kP:oi)(lu:oR):p0∧p1∧p2∧p3∧p4∧p5∧p6∧p7∧p8∧p9∧mT∧ny∧oi∧oR∧True:=⟨mc,oh,pg,pZ,qt,qI,ra,rF,rQ,sN,kh,kA,kP,lu,trivial⟩
theorem Cy{p0 p1 p2 p3 p4 p5 p6 p7 p8 p9 mT ny oi oR ph:Prop}(mc:p0)(oh:p1)(pg:p2)(pZ:p3)(qt:p4)(qI:p5)(ra:p6)(rF:p7)(rQ:p8)(sN:p9)(kh:mT)(kA:ny)(kP:oi)(lu:oR)(lI:ph):p0∧p1∧p2∧p3∧p4∧p5∧p6∧p7∧p8∧p9∧mT∧ny∧oi∧oR∧ph∧True:=⟨mc,oh,pg,pZ,qt,qI,ra,rF,rQ,sN,kh,kA,kP,lu,lI,trivial⟩
theorem Cz{p0 p1 p2 p3 p4 p5 p6 p7 p8 p9 mT ny oi oR ph qm:Prop}(mc:p0)(oh:p1)(pg:p2)(pZ:p3)(qt:p4)(qI:p5)(ra:p6)(rF:p7)(rQ:p8)(sN:p9)(kh:mT)(kA:ny)(kP:oi)(lu:oR)(lI:ph)(l8:qm):p0∧p1∧p2∧p3∧p4∧p5∧p6∧p7∧p8∧p9∧mT∧ny∧oi∧oR∧ph∧qm∧True:=⟨mc,oh,pg,pZ,qt,qI,ra,rF,rQ,sN,kh,kA,kP,lu,lI,l8,trivial⟩
theorem Pq{p0 p1 p2 p3 p4 p5 p6 p7 p8 p9 mT ny oi oR ph qm qJ:Prop}(mc:p0)(oh:p1)(pg:p2)(pZ:p3)(qt:p4)(qI:p5)(ra:p6)(rF:p7)(rQ:p8)(sN:p9)(kh:mT)(kA:ny)(kP:oi)(lu:oR)(lI:ph)(l8:qm)(mE:qJ):p0∧p1∧p2∧p3∧p4∧p5∧p6∧p7∧p8∧p9∧mT∧ny∧oi∧oR∧ph∧qm∧qJ∧True:=⟨mc,oh,pg,pZ,qt,qI,ra,rF,rQ,sN,kh,kA,kP,lu,lI,l8,mE,trivial⟩
theorem PU{p0 p1 p2 p3 p4 p5 p6 p7 p8 p9 mT ny oi oR ph qm qJ rz:Prop}(mc:p0)(oh:p1)(pg:p2)(pZ:p3)(qt:p4)(qI:p5)(ra:p6)(rF:p7)(rQ:p8)(sN:p9)(kh:mT)(kA:ny)(kP:oi)(lu:oR)(lI:ph)(l8:qm)(mE:qJ)(mU:rz):p0∧p1∧p2∧p3∧p4∧p5∧p6∧p7∧p8∧p9∧mT∧ny∧oi∧oR∧ph∧qm∧qJ∧rz∧True:=⟨mc,oh,pg,pZ,qt,qI,ra,rF,rQ,sN,kh,kA,kP,lu,lI,l8,mE,mU,trivial⟩
theorem y19{p0 p1 p2 p3 p4 p5 p6 p7 p8 p9 mT ny oi oR ph qm qJ rz rR:Prop}(mc:p0)(oh:p1)(pg:p2)(pZ:p3)(qt:p4)(qI:p5)(ra:p6)(rF:p7)(rQ:p8)(sN:p9)(kh:mT)(kA:ny)(kP:oi)(lu:oR)(lI:ph)(l8:qm)(mE:qJ)(mU:rz)(nI:rR):p0∧p1∧p2∧p3∧p4∧p5∧p6∧p7∧p8∧p9∧mT∧ny∧oi∧oR∧ph∧qm∧qJ∧rz∧rR∧True:=⟨mc,oh,pg,pZ,qt,qI,ra,rF,rQ,sN,kh,kA,kP,lu,lI,l8,mE,mU,nI,trivial⟩
theorem S4{p0 p1 p2 p3 p4 p5 p6 p7 p8 p9 mT ny oi oR ph qm qJ rz rR sO:Prop}(mc:p0)(oh:p1)(pg:p2)(pZ:p3)(qt:p4)(qI:p5)(ra:p6)(rF:p7)(rQ:p8)(sN:p9)(kh:mT)(kA:ny)(kP:oi)(lu:oR)(lI:ph)(l8:qm)(mE:qJ)(mU:rz)(nI:rR)(oJ:sO):p0∧p1∧p2∧p3∧p4∧p5∧p6∧p7∧p8∧p9∧mT∧ny∧oi∧oR∧ph∧qm∧qJ∧rz∧rR∧sO∧True:=⟨mc,oh,pg,pZ,qt,qI,ra,rF,rQ,sN,kh,kA,kP,lu,lI,l8,mE,mU,nI,oJ,trivial⟩
theorem Xm{p0 p1 p2 p3 p4 p5 p6 p7 p8 p9 mT ny oi oR ph qm qJ rz rR sO tN:Prop}(mc:p0)(oh:p1)(pg:p2)(pZ:p3)(qt:p4)(qI:p5)(ra:p6)(rF:p7)(rQ:p8)(sN:p9)(kh:mT)(kA:ny)(kP:oi)(lu:oR)(lI:ph)(l8:qm)(mE:qJ)(mU:rz)(nI:rR)(oJ:sO)(pj:tN):p0∧p1∧p2∧p3∧p4∧p5∧p6∧p7∧p8∧p9∧mT∧ny∧oi∧oR∧ph∧qm∧qJ∧rz∧rR∧sO∧tN∧True:=⟨mc,oh,pg,pZ,qt,qI,ra,rF,rQ,sN,kh,kA,kP,lu,lI,l8,mE,mU,nI,oJ,pj,trivial⟩
theorem ZA{p0 p1 p2 p3 p4 p5 p6 p7 p8 p9 mT ny oi oR ph qm qJ rz rR sO tN uD:Prop}(mc:p0)(oh:p1)(pg:p2)(pZ:p3)(qt:p4)(qI:p5)(ra:p6)(rF:p7)(rQ:p8)(sN:p9)(kh:mT)(kA:ny)(kP:oi)(lu:oR)(lI:ph)(l8:qm)(mE:qJ)(mU:rz)(nI:rR)(oJ:sO)(pj:tN)(qu:uD):p0∧p1∧p2∧p3∧p4∧p5∧p6∧p7∧p8∧p9∧mT∧ny∧oi∧oR∧ph∧qm∧qJ∧rz∧rR∧sO∧tN∧uD∧True:=⟨mc,oh,pg,pZ,qt,qI,ra,rF,rQ,sN,kh,kA,kP,lu,lI,l8,mE,mU,nI,oJ,pj,qu,trivial⟩
theorem y23{p0 p1 p2 p3 p4 p5 p6 p7 p8 p9 mT ny oi oR ph qm qJ rz rR sO tN uD vf:Prop}(mc:p0)(oh:p1)(pg:p2)(pZ:p3)(qt:p4)(qI:p5)(ra:p6)(rF:p7)(rQ:p8)(sN:p9)(kh:mT)(kA:ny)(kP:oi)(lu:oR)(lI:ph)(l8:qm)(mE:qJ)(mU:rz)(nI:rR)(oJ:sO)(pj:tN)(qu:uD)(rb:vf):p0∧p1∧p2∧p3∧p4∧p5∧p6∧p7∧p8∧p9∧mT∧ny∧oi∧oR∧ph∧qm∧qJ∧rz∧rR∧sO∧tN∧uD∧vf∧True:=⟨mc,oh,pg,pZ,qt,qI,ra,rF,rQ,sN,kh,kA,kP,lu,lI,l8,mE,mU,nI,oJ,pj,qu,rb,trivial⟩
theorem Yj{p0 p1 p2 p3 p4 p5 p6 p7 p8 p9 mT ny oi oR ph qm qJ rz rR sO tN uD vf wF:Prop}(mc:p0)(oh:p1)(pg:p2)(pZ:p3)(qt:p4)(qI:p5)(ra:p6)(rF:p7)(rQ:p8)(sN:p9)(kh:mT)(kA:ny)(kP:oi)(lu:oR)(lI:ph)(l8:qm)(mE:qJ)(mU:rz)(nI:rR)(oJ:sO)(pj:tN)(qu:uD)(rb:vf)(rS:wF):p0∧p1∧p2∧p3∧p4∧p5∧p6∧p7∧p8∧p9∧mT∧ny∧oi∧oR∧ph∧qm∧qJ∧rz∧rR∧sO∧tN∧uD∧vf∧wF∧True:=⟨mc,oh,pg,pZ,qt,qI,ra,rF,rQ,sN,kh,kA,kP,lu,lI,l8,mE,mU,nI,oJ,pj,qu,rb,rS,trivial⟩
theorem ZB{p0 p1 p2 p3 p4 p5 p6 p7 p8 p9 mT ny oi oR ph qm qJ rz rR sO tN uD vf wF xJ xK:Prop}(mc:p0)(oh:p1)(pg:p2)(pZ:p3)(qt:p4)(qI:p5)(ra:p6)(rF:p7)(rQ:p8)(sN:p9)(kh:mT)(kA:ny)(kP:oi)(lu:oR)(lI:ph)(l8:qm)(mE:qJ)(mU:rz)(nI:rR)(oJ:sO)(pj:tN)(qu:uD)(rb:vf)(rS:wF)(s7:xJ)(s8:xK):p0∧p1∧p2∧p3∧p4∧p5∧p6∧p7∧p8∧p9∧mT∧ny∧oi∧oR∧ph∧qm∧qJ∧rz∧rR∧sO∧tN∧uD∧vf∧wF∧xJ∧xK∧True:=⟨mc,oh,pg,pZ,qt,qI,ra,rF,rQ,sN,kh,kA,kP,lu,lI,l8,mE,mU,nI,oJ,pj,qu,rb,rS,s7,s8,trivial⟩
theorem y27{p0 p1 p2 p3 p4 p5 p6 p7 p8 p9 mT ny oi oR ph qm qJ rz rR sO tN uD vf wF xJ xK zD:Prop}(mc:p0)(oh:p1)(pg:p2)(pZ:p3)(qt:p4)(qI:p5)(ra:p6)(rF:p7)(rQ:p8)(sN:p9)(kh:mT)(kA:ny)(kP:oi)(lu:oR)(lI:ph)(l8:qm)(mE:qJ)(mU:rz)(nI:rR)(oJ:sO)(pj:tN)(qu:uD)(rb:vf)(rS:wF)(s7:xJ)(s8:xK)(uw:zD):p0∧p1∧p2∧p3∧p4∧p5∧p6∧p7∧p8∧p9∧mT∧ny∧oi∧oR∧ph∧qm∧qJ∧rz∧rR∧sO∧tN∧uD∧vf∧wF∧xJ∧xK∧zD∧True:=⟨mc,oh,pg,pZ,qt,qI,ra,rF,rQ,sN,kh,kA,kP,lu,lI,l8,mE,mU,nI,oJ,pj,qu,rb,rS,s7,s8,uw,trivial⟩
theorem y28{p0 p1 p2 p3 p4 p5 p6 p7 p8 p9 mT ny oi oR ph qm qJ rz rR sO tN uD vf wF xJ xK zD Ab:Prop}(mc:p0)(oh:p1)(pg:p2)(pZ:p3)(qt:p4)(qI:p5)(ra:p6)(rF:p7)(rQ:p8)(sN:p9)(kh:mT)(kA:ny)(kP:oi)(lu:oR)(lI:ph)(l8:qm)(mE:qJ)(mU:rz)(nI:rR)(oJ:sO)(pj:tN)(qu:uD)(rb:vf)(rS:wF)(s7:xJ)(s8:xK)(uw:zD)(vg:Ab):p0∧p1∧p2∧p3∧p4∧p5∧p6∧p7∧p8∧p9∧mT∧ny∧oi∧oR∧ph∧qm∧qJ∧rz∧rR∧sO∧tN∧uD∧vf∧wF∧xJ∧xK∧zD∧Ab∧True:=⟨mc,oh,pg,pZ,qt,qI,ra,rF,rQ,sN,kh,kA,kP,lu,lI,l8,mE,mU,nI,oJ,pj,qu,rb,rS,s7,s8,uw,vg,trivial⟩
theorem y29{p0 p1 p2 p3 p4 p5 p6 p7 p8 p9 mT ny oi oR ph qm qJ rz rR sO tN uD vf wF xJ xK zD Ab Bt:Prop}(mc:p0)(oh:p1)(pg:p2)(pZ:p3)(qt:p4)(qI:p5)(ra:p6)(rF:p7)(rQ:p8)(sN:p9)(kh:mT)(kA:ny)(kP:oi)(lu:oR)(lI:ph)(l8:qm)(mE:qJ)(mU:rz)(nI:rR)(oJ:sO)(pj:tN)(qu:uD)(rb:vf)(rS:wF)(s7:xJ)(s8:xK)(uw:zD)(vg:Ab)(xj:Bt):p0∧p1∧p2∧p3∧p4∧p5∧p6∧p7∧p8∧p9∧mT∧ny∧oi∧oR∧ph∧qm∧qJ∧rz∧rR∧sO∧tN∧uD∧vf∧wF∧xJ∧xK∧zD∧Ab∧Bt∧True:=⟨mc,oh,pg,pZ,qt,qI,ra,rF,rQ,sN,kh,kA,kP,lu,lI,l8,mE,mU,nI,oJ,pj,qu,rb,rS,s7,s8,uw,vg,xj,trivial⟩
theorem Xn{p0 p1 p2 p3 p4 p5 p6 p7 p8 p9 mT ny oi oR ph qm qJ rz rR sO tN uD vf wF xJ xK zD Ab Bt C4:Prop}(mc:p0)(oh:p1)(pg:p2)(pZ:p3)(qt:p4)(qI:p5)(ra:p6)(rF:p7)(rQ:p8)(sN:p9)(kh:mT)(kA:ny)(kP:oi)(lu:oR)(lI:ph)(l8:qm)(mE:qJ)(mU:rz)(nI:rR)(oJ:sO)(pj:tN)(qu:uD)(rb:vf)(rS:wF)(s7:xJ)(s8:xK)(uw:zD)(vg:Ab)(xj:Bt)(yz:C4):p0∧p1∧p2∧p3∧p4∧p5∧p6∧p7∧p8∧p9∧mT∧ny∧oi∧oR∧ph∧qm∧qJ∧rz∧rR∧sO∧tN∧uD∧vf∧wF∧xJ∧xK∧zD∧Ab∧Bt∧C4∧True:=⟨mc,oh,pg,pZ,qt,qI,ra,rF,rQ,sN,kh,kA,kP,lu,lI,l8,mE,mU,nI,oJ,pj,qu,rb,rS,s7,s8,uw,vg,xj,yz,trivial⟩
theorem y31{p0 p1 p2 p3 p4 p5 p6 p7 p8 p9 mT ny oi oR ph qm qJ rz rR sO tN uD vf wF xJ xK zD Ab Bt C4 EX:Prop}(mc:p0)(oh:p1)(pg:p2)(pZ:p3)(qt:p4)(qI:p5)(ra:p6)(rF:p7)(rQ:p8)(sN:p9)(kh:mT)(kA:ny)(kP:oi)(lu:oR)(lI:ph)(l8:qm)(mE:qJ)(mU:rz)(nI:rR)(oJ:sO)(pj:tN)(qu:uD)(rb:vf)(rS:wF)(s7:xJ)(s8:xK)(uw:zD)(vg:Ab)(xj:Bt)(yz:C4)(Ac:EX):p0∧p1∧p2∧p3∧p4∧p5∧p6∧p7∧p8∧p9∧mT∧ny∧oi∧oR∧ph∧qm∧qJ∧rz∧rR∧sO∧tN∧uD∧vf∧wF∧xJ∧xK∧zD∧Ab∧Bt∧C4∧EX∧True:=⟨mc,oh,pg,pZ,qt,qI,ra,rF,rQ,sN,kh,kA,kP,lu,lI,l8,mE,mU,nI,oJ,pj,qu,rb,rS,s7,s8,uw,vg,xj,yz,Ac,trivial⟩
theorem y32{p0 p1 p2 p3 p4 p5 p6 p7 p8 p9 mT ny oi oR ph qm qJ rz rR sO tN uD vf wF xJ xK zD Ab Bt C4 EX G0:Prop}(mc:p0)(oh:p1)(pg:p2)(pZ:p3)(qt:p4)(qI:p5)(ra:p6)(rF:p7)(rQ:p8)(sN:p9)(kh:mT)(kA:ny)(kP:oi)(lu:oR)(lI:ph)(l8:qm)(mE:qJ)(mU:rz)(nI:rR)(oJ:sO)(pj:tN)(qu:uD)(rb:vf)(rS:wF)(s7:xJ)(s8:xK)(uw:zD)(vg:Ab)(xj:Bt)(yz:C4)(Ac:EX)(BQ:G0):p0∧p1∧p2∧p3∧p4∧p5∧p6∧p7∧p8∧p9∧mT∧ny∧oi∧oR∧ph∧qm∧qJ∧rz∧rR∧sO∧tN∧uD∧vf∧wF∧xJ∧xK∧zD∧Ab∧Bt∧C4∧EX∧G0∧True:=⟨mc,oh,pg,pZ,qt,qI,ra,rF,rQ,sN,kh,kA,kP,lu,lI,l8,mE,mU,nI,oJ,pj,qu,rb,rS,s7,s8,uw,vg,xj,yz,Ac,BQ,trivial⟩
theorem y34{p0 p1 p2 p3 p4 p5 p6 p7 p8 p9 mT ny oi oR ph qm qJ rz rR sO tN uD vf wF xJ xK zD Ab Bt C4 EX G0 I4 CA:Prop}(mc:p0)(oh:p1)(pg:p2)(pZ:p3)(qt:p4)(qI:p5)(ra:p6)(rF:p7)(rQ:p8)(sN:p9)(kh:mT)(kA:ny)(kP:oi)(lu:oR)(lI:ph)(l8:qm)(mE:qJ)(mU:rz)(nI:rR)(oJ:sO)(pj:tN)(qu:uD)(rb:vf)(rS:wF)(s7:xJ)(s8:xK)(uw:zD)(vg:Ab)(xj:Bt)(yz:C4)(Ac:EX)(BQ:G0)(Eg:I4)(Eh:CA):p0∧p1∧p2∧p3∧p4∧p5∧p6∧p7∧p8∧p9∧mT∧ny∧oi∧oR∧ph∧qm∧qJ∧rz∧rR∧sO∧tN∧uD∧vf∧wF∧xJ∧xK∧zD∧Ab∧Bt∧C4∧EX∧G0∧I4∧CA∧True:=⟨mc,oh,pg,pZ,qt,qI,ra,rF,rQ,sN,kh,kA,kP,lu,lI,l8,mE,mU,nI,oJ,pj,qu,rb,rS,s7,s8,uw,vg,xj,yz,Ac,BQ,Eg,Eh,trivial⟩
theorem y35{p0 p1 p2 p3 p4 p5 p6 p7 p8 p9 mT ny oi oR ph qm qJ rz rR sO tN uD vf wF xJ xK zD Ab Bt C4 EX G0 I4 CA Lf:Prop}(mc:p0)(oh:p1)(pg:p2)(pZ:p3)(qt:p4)(qI:p5)(ra:p6)(rF:p7)(rQ:p8)(sN:p9)(kh:mT)(kA:ny)(kP:oi)(lu:oR)(lI:ph)(l8:qm)(mE:qJ)(mU:rz)(nI:rR)(oJ:sO)(pj:tN)(qu:uD)(rb:vf)(rS:wF)(s7:xJ)(s8:xK)(uw:zD)(vg:Ab)(xj:Bt)(yz:C4)(Ac:EX)(BQ:G0)(Eg:I4)(Eh:CA)(G6:Lf):p0∧p1∧p2∧p3∧p4∧p5∧p6∧p7∧p8∧p9∧mT∧ny∧oi∧oR∧ph∧qm∧qJ∧rz∧rR∧sO∧tN∧uD∧vf∧wF∧xJ∧xK∧zD∧Ab∧Bt∧C4∧EX∧G0∧I4∧CA∧Lf∧True:=⟨mc,oh,pg,pZ,qt,qI,ra,rF,rQ,sN,kh,kA,kP,lu,lI,l8,mE,mU,nI,oJ,pj,qu,rb,rS,s7,s8,uw,vg,xj,yz,Ac,BQ,Eg,Eh,G6,trivial⟩
theorem Xo{p0 p1 p2 p3 p4 p5 p6 p7 p8 p9 mT ny oi oR ph qm qJ rz rR sO tN uD vf wF xJ xK zD Ab Bt C4 EX G0 I4 CA Lf Ok:Prop}(mc:p0)(oh:p1)(pg:p2)(pZ:p3)(qt:p4)(qI:p5)(ra:p6)(rF:p7)(rQ:p8)(sN:p9)(kh:mT)(kA:ny)(kP:oi)(lu:oR)(lI:ph)(l8:qm)(mE:qJ)(mU:rz)(nI:rR)(oJ:sO)(pj:tN)(qu:uD)(rb:vf)(rS:wF)(s7:xJ)(s8:xK)(uw:zD)(vg:Ab)(xj:Bt)(yz:C4)(Ac:EX)(BQ:G0)(Eg:I4)(Eh:CA)(G6:Lf)(JS:Ok):p0∧p1∧p2∧p3∧p4∧p5∧p6∧p7∧p8∧p9∧mT∧ny∧oi∧oR∧ph∧qm∧qJ∧rz∧rR∧sO∧tN∧uD∧vf∧wF∧xJ∧xK∧zD∧Ab∧Bt∧C4∧EX∧G0∧I4∧CA∧Lf∧Ok∧True:=⟨mc,oh,pg,pZ,qt,qI,ra,rF,rQ,sN,kh,kA,kP,lu,lI,l8,mE,mU,nI,oJ,pj,qu,rb,rS,s7,s8,uw,vg,xj,yz,Ac,BQ,Eg,Eh,G6,JS,trivial⟩
theorem Xp{p0 p1 p2 p3 p4 p5 p6 p7 p8 p9 mT ny oi oR ph qm qJ rz rR sO tN uD vf wF xJ xK zD Ab Bt C4 EX G0 I4 CA Lf Ok Q0:Prop}(mc:p0)(oh:p1)(pg:p2)(pZ:p3)(qt:p4)(qI:p5)(ra:p6)(rF:p7)(rQ:p8)(sN:p9)(kh:mT)(kA:ny)(kP:oi)(lu:oR)(lI:ph)(l8:qm)(mE:qJ)(mU:rz)(nI:rR)(oJ:sO)(pj:tN)(qu:uD)(rb:vf)(rS:wF)(s7:xJ)(s8:xK)(uw:zD)(vg:Ab)(xj:Bt)(yz:C4)(Ac:EX)(BQ:G0)(Eg:I4)(Eh:CA)(G6:Lf)(JS:Ok)(MU:Q0):p0∧p1∧p2∧p3∧p4∧p5∧p6∧p7∧p8∧p9∧mT∧ny∧oi∧oR∧ph∧qm∧qJ∧rz∧rR∧sO∧tN∧uD∧vf∧wF∧xJ∧xK∧zD∧Ab∧Bt∧C4∧EX∧G0∧I4∧CA∧Lf∧Ok∧Q0∧True:=⟨mc,oh,pg,pZ,qt,qI,ra,rF,rQ,sN,kh,kA,kP,lu,lI,l8,mE,mU,nI,oJ,pj,qu,rb,rS,s7,s8,uw,vg,xj,yz,Ac,BQ,Eg,Eh,G6,JS,MU,trivial⟩
theorem Yk{p0 p1 p2 p3 p4 p5 p6 p7 p8 p9 mT ny oi oR ph qm qJ rz rR sO tN uD vf wF xJ xK zD Ab Bt C4 EX G0 I4 CA Lf Ok Q0 T1:Prop}(mc:p0)(oh:p1)(pg:p2)(pZ:p3)(qt:p4)(qI:p5)(ra:p6)(rF:p7)(rQ:p8)(sN:p9)(kh:mT)(kA:ny)(kP:oi)(lu:oR)(lI:ph)(l8:qm)(mE:qJ)(mU:rz)(nI:rR)(oJ:sO)(pj:tN)(qu:uD)(rb:vf)(rS:wF)(s7:xJ)(s8:xK)(uw:zD)(vg:Ab)(xj:Bt)(yz:C4)(Ac:EX)(BQ:G0)(Eg:I4)(Eh:CA)(G6:Lf)(JS:Ok)(MU:Q0)(Q1:T1):p0∧p1∧p2∧p3∧p4∧p5∧p6∧p7∧p8∧p9∧mT∧ny∧oi∧oR∧ph∧qm∧qJ∧rz∧rR∧sO∧tN∧uD∧vf∧wF∧xJ∧xK∧zD∧Ab∧Bt∧C4∧EX∧G0∧I4∧CA∧Lf∧Ok∧Q0∧T1∧True:=⟨mc,oh,pg,pZ,qt,qI,ra,rF,rQ,sN,kh,kA,kP,lu,lI,l8,mE,mU,nI,oJ,pj,qu,rb,rS,s7,s8,uw,vg,xj,yz,Ac,BQ,Eg,Eh,G6,JS,MU,Q1,trivial⟩
theorem Yl{p0 p1 p2 p3 p4 p5 p6 p7 p8 p9 mT ny oi oR ph qm qJ rz rR sO tN uD vf wF xJ xK zD Ab Bt C4 EX G0 I4 CA Lf Ok Q0 T1 Xq:Prop}(mc:p0)(oh:p1)(pg:p2)(pZ:p3)(qt:p4)(qI:p5)(ra:p6)(rF:p7)(rQ:p8)(sN:p9)(kh:mT)(kA:ny)(kP:oi)(lu:oR)(lI:ph)(l8:qm)(mE:qJ)(mU:rz)(nI:rR)(oJ:sO)(pj:tN)(qu:uD)(rb:vf)(rS:wF)(s7:xJ)(s8:xK)(uw:zD)(vg:Ab)(xj:Bt)(yz:C4)(Ac:EX)(BQ:G0)(Eg:I4)(Eh:CA)(G6:Lf)(JS:Ok)(MU:Q0)(Q1:T1)(U6:Xq):p0∧p1∧p2∧p3∧p4∧p5∧p6∧p7∧p8∧p9∧mT∧ny∧oi∧oR∧ph∧qm∧qJ∧rz∧rR∧sO∧tN∧uD∧vf∧wF∧xJ∧xK∧zD∧Ab∧Bt∧C4∧EX∧G0∧I4∧CA∧Lf∧Ok∧Q0∧T1∧Xq∧True:=⟨mc,oh,pg,pZ,qt,qI,ra,rF,rQ,sN,kh,kA,kP,lu,lI,l8,mE,mU,nI,oJ,pj,qu,rb,rS,s7,s8,uw,vg,xj,yz,Ac,BQ,Eg,Eh,G6,JS,MU,Q1,U6,trivial⟩
theorem Pr{p0 p1 p2 p3 p4 p5 p6 p7 p8 p9 mT ny oi oR ph qm qJ rz rR sO tN uD vf wF xJ xK zD Ab Bt C4 EX G0 I4 CA Lf Ok Q0 T1 Xq p39:Prop}(mc:p0)(oh:p1)(pg:p2)(pZ:p3)(qt:p4)(qI:p5)(ra:p6)(rF:p7)(rQ:p8)(sN:p9)(kh:mT)(kA:ny)(kP:oi)(lu:oR)(lI:ph)(l8:qm)(mE:qJ)(mU:rz)(nI:rR)(oJ:sO)(pj:tN)(qu:uD)(rb:vf)(rS:wF)(s7:xJ)(s8:xK)(uw:zD)(vg:Ab)(xj:Bt)(yz:C4)(Ac:EX)(BQ:G0)(Eg:I4)(Eh:CA)(G6:Lf)(JS:Ok)(MU:Q0)(Q1:T1)(U6:Xq)(ZC:p39):p0∧p1∧p2∧p3∧p4∧p5∧p6∧p7∧p8∧p9∧mT∧ny∧oi∧oR∧ph∧qm∧qJ∧rz∧rR∧sO∧tN∧uD∧vf∧wF∧xJ∧xK∧zD∧Ab∧Bt∧C4∧EX∧G0∧I4∧CA∧Lf∧Ok∧Q0∧T1∧Xq∧p39∧True:=⟨mc,oh,pg,pZ,qt,qI,ra,rF,rQ,sN,kh,kA,kP,lu,lI,l8,mE,mU,nI,oJ,pj,qu,rb,rS,s7,s8,uw,vg,xj,yz,Ac,BQ,Eg,Eh,G6,JS,MU,Q1,U6,ZC,trivial⟩
end Go.Proofs.YtllmkadmohkbfaaGreatDoor.Sym
