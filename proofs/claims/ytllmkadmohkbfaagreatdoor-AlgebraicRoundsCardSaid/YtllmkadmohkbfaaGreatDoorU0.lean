/- Lemmas for the statements of this seat. -/
import Derived.Test.YtllmkadmohkbfaaGreatDoorVObs
import Derived.Test.YtllmkadmohkbfaaGreatDoorProg
namespace Go.Proofs.YtllmkadmohkbfaaGreatDoor.Sym
open Go
structure af where
 neg:Bool
 num:List UInt32
 den:List UInt32
def af.cells(x:af):List PV:=[(vB x.neg),(aa x.num),(aa x.den)]
def af.pv(x:af):PV := .agg x.cells
theorem aX:Sz af.cells 3:=fun _=>rfl
abbrev TP:=List af
abbrev ae(p:TP):PV := .list (p.map af.cells)
structure ai where
 lo:af
 hi:af
def ai.cells(x:ai):List PV:=[(vB x.lo.neg),(aa x.lo.num),(aa x.lo.den),(vB x.hi.neg),(aa x.hi.num),(aa x.hi.den)]
def ai.pv(x:ai):PV := .agg x.cells
theorem qY:Sz ai.cells 6:=fun _=>rfl
structure aH where
 p:List af
 rV:ai
def aH.cells(x:aH):List PV:=[(ae x.p),(vB x.rV.lo.neg),(aa x.rV.lo.num),(aa x.rV.lo.den),(vB x.rV.hi.neg),(aa x.rV.hi.num),(aa x.rV.hi.den)]
def aH.pv(x:aH):PV := .agg x.cells
theorem pO:Sz aH.cells 7:=fun _=>rfl
structure bz where
 roots:List (List af)
def bz.cells(x:bz):List PV:=[(dj (aC af.cells) x.roots)]
def bz.pv(x:bz):PV := .agg x.cells
structure au where
 neg:Bool
 cD:List UInt32
def au.cells(x:au):List PV:=[(vB x.neg),(aa x.cD)]
def au.pv(x:au):PV := .agg x.cells
@[reducible] noncomputable def bp:Program:=Tryz.prog
def oh:kL:=[(2,⟨.int .i64,1,8,false,[.int .i64 0]⟩),
 (3,⟨.int .i64,1,8,false,[.int .i64 0]⟩),
 (4,⟨.bool,1,1,false,[(vB false)]⟩),
 (5,⟨.int .u8,1,1,false,[.int .u8 0]⟩),
 (6,⟨.int .u8,1,1,false,[.int .u8 0]⟩),
 (7,⟨.struct [(0,1,false),(1,1,false),(2,1,false),(3,1,false)],4,24,true,[.int .i64 0,.int .i64 0,(vB false),.int .u8 0]⟩),
 (8,⟨.struct [(0,1,false),(1,1,false),(2,1,false),(3,1,false)],4,24,true,[.int .i64 0,.int .i64 0,(vB false),.int .u8 0]⟩),
 (9,⟨.str,1,16,false,[.str ByteArray.empty]⟩),
 (10,⟨.str,1,16,false,[.str ByteArray.empty]⟩),
 (11,⟨.str,1,16,false,[.str ByteArray.empty]⟩),
 (12,⟨.int .u64,1,8,false,[.int .u64 0]⟩),
 (13,⟨.struct [(0,1,false),(1,1,false)],2,24,true,[.str ByteArray.empty,.int .u64 0]⟩),
 (14,⟨.struct [(0,1,false),(1,1,false)],2,24,true,[.str ByteArray.empty,.int .u64 0]⟩),
 (20,⟨.iface,1,16,false,[.az]⟩),
 (21,⟨.int .i32,1,4,false,[.int .i32 0]⟩),
 (22,⟨.slice 26,1,24,false,[.dZ]⟩),
 (23,⟨.slice 26,1,24,false,[.dZ]⟩),
 (24,⟨.slice 119,1,24,false,[.dZ]⟩),
 (25,⟨.struct [(0,1,false),(1,1,false),(2,1,false)],3,56,true,[(vB false),.dZ,.dZ]⟩),
 (26,⟨.struct [(0,1,false),(1,1,false),(2,1,false)],3,56,true,[(vB false),.dZ,.dZ]⟩),
 (27,⟨.struct [(0,3,true),(3,3,true)],6,112,true,[(vB false),.dZ,.dZ,(vB false),.dZ,.dZ]⟩),
 (28,⟨.struct [(0,3,true),(3,3,true)],6,112,true,[(vB false),.dZ,.dZ,(vB false),.dZ,.dZ]⟩),
 (29,⟨.struct [(0,1,false),(1,6,true)],7,136,true,[.dZ,(vB false),.dZ,.dZ,(vB false),.dZ,.dZ]⟩),
 (30,⟨.struct [(0,1,false),(1,6,true)],7,136,true,[.dZ,(vB false),.dZ,.dZ,(vB false),.dZ,.dZ]⟩),
 (33,⟨.iface,1,16,false,[.az]⟩),
 (34,⟨.iface,1,16,false,[.az]⟩),
 (48,⟨.slice 30,1,24,false,[.dZ]⟩),
 (67,⟨.int .i64,1,8,false,[.int .i64 0]⟩),
 (69,⟨.slice 34,1,24,false,[.dZ]⟩),
 (71,⟨.slice 74,1,24,false,[.dZ]⟩),
 (72,⟨.struct [(0,1,false)],1,24,true,[.dZ]⟩),
 (73,⟨.struct [(0,1,false)],1,24,true,[.dZ]⟩),
 (74,⟨.slice 26,1,24,false,[.dZ]⟩),
 (107,⟨.struct [(0,1,false),(1,1,false)],2,32,true,[(vB false),.dZ]⟩),
 (108,⟨.struct [(0,1,false),(1,1,false)],2,32,true,[(vB false),.dZ]⟩),
 (119,⟨.int .u32,1,4,false,[.int .u32 0]⟩),
 (120,⟨.slice 28,1,24,false,[.dZ]⟩),
 (166,⟨.slice 3,1,24,false,[.dZ]⟩),
 (178,⟨.int .u64,1,8,false,[.int .u64 0]⟩),
 (179,⟨.int .u64,1,8,false,[.int .u64 0]⟩),
 (186,⟨.slice 23,1,24,false,[.dZ]⟩),
 (224,⟨.slice 9,1,24,false,[.dZ]⟩),
 (256,⟨.slice 5,1,24,false,[.dZ]⟩),
 (296,⟨.int .u8,1,1,false,[.int .u8 0]⟩),
 (297,⟨.int .u8,1,1,false,[.int .u8 0]⟩),
 (299,⟨.int .i32,1,4,false,[.int .i32 0]⟩),
 (300,⟨.int .i32,1,4,false,[.int .i32 0]⟩)]
theorem yT:nM bp oh:=nM.of (by kernel_rfl)
theorem mixed:bp.follows .mixedOrders=true:=by kernel_rfl
abbrev Cp:=fH bp
abbrev Ws:=List UInt32
abbrev Rs:=List af
abbrev TE.a:TE := .auto
abbrev TE.t:TE := .dec true
abbrev TE.f:TE := .dec false
abbrev TE.q:TE := .aR []
abbrev TE.h(n:Nat)(x:Hint):TE := .aR (List.replicate n .none++[x])
abbrev Hint.o:Hint := .none
section
variable {fn:Func} {K K':List eH} {s s':St} {r:PV} {sin sout:aS} {rx:EV} {f:FuncId} {args:List PV} {KH:List EV} {A:Prop}
theorem lG(n:Nat)(ns:List Nat)(tr:List TE)(hA:A)(h:L bp fn K' s' r)(aq:vt ns (run bp oh fn n K s tr)=some (K',s',A):=by kernel_rfl):L bp fn K s r:=L.go mixed yT hA aq h
theorem lD(n:Nat)(ns:List Nat)(tr:List TE)(hA:A)(aq:El ns (run bp oh fn n K s tr)=some (r,A):=by kernel_rfl):L bp fn K s r:=L.done mixed yT hA aq
theorem eG(hf:bp.funcs[f]? = some fn)(n:Nat)(ns:List Nat)(tr:List TE)(hA:A)(h:L bp fn K' s' r)(oG:H6 fn (args.map EV.pv).length []=true:=by kernel_rfl)(aq:vt ns (run bp oh fn n [.code (ay fn)] ⟨lT 0 (args.map EV.pv),[]⟩ tr)=some (K',s',A):=by kernel_rfl):fH bp f args r:=fH.SO hf oG (L.go mixed yT hA aq h)
theorem eD(hf:bp.funcs[f]? = some fn)(n:Nat)(ns:List Nat)(tr:List TE)(hA:A)(oG:H6 fn (args.map EV.pv).length []=true:=by kernel_rfl)(aq:El ns (run bp oh fn n [.code (ay fn)] ⟨lT 0 (args.map EV.pv),[]⟩ tr)=some (r,A):=by kernel_rfl):fH bp f args r:=fH.SO hf oG (L.done mixed yT hA aq)
theorem KI(n:Nat)(ns:List Nat)(tr:List TE)(hs:sin.all (fun p=>Nat.ble fn.ntmps p.1)=true)(hA:A)(h:LX bp fn K' s' sin rx sout)(aq:vt ns (run bp oh fn n K s tr)=some (K',s',A):=by kernel_rfl):LX bp fn K s sin rx sout:=LX.go mixed yT hs hA aq h
theorem Fi(n:Nat)(ns:List Nat)(tr:List TE)(hs:sin.all (fun p=>Nat.ble fn.ntmps p.1)=true)(hi:sin.all (fun p=>v7 p.1||(aS.get sout p.1).isSome)=true)(hA:A)(aq:Df ns [] (run bp oh fn n K s tr)=some (rx,sout,A):=by kernel_rfl):LX bp fn K s sin rx sout:=LX.TH mixed yT hs hi hA aq
theorem Mp(hf:bp.funcs[f]? = some fn)(n:Nat)(ns:List Nat)(tr:List TE)(hA:A)(h:LX bp fn K' s' sin rx sout)(oG:H6 fn KH.length sin=true:=by kernel_rfl)(hs:sin.all (fun p=>Nat.ble fn.ntmps p.1)=true:=by rfl)(aq:vt ns (run bp oh fn n [.code (ay fn)] ⟨lT 0 KH,sin⟩ tr)=some (K',s',A):=by kernel_rfl):av bp f KH sin rx sout:=av.SO hf oG (LX.go mixed yT hs hA aq h)
theorem KJ(hf:bp.funcs[f]? = some fn)(n:Nat)(ns:List Nat)(tr:List TE)(hA:A)(oG:H6 fn KH.length sin=true:=by kernel_rfl)(hs:sin.all (fun p=>Nat.ble fn.ntmps p.1)=true:=by rfl)(aq:Df ns sin (run bp oh fn n [.code (ay fn)] ⟨lT 0 KH,sin⟩ tr)=some (rx,sout,A):=by kernel_rfl):av bp f KH sin rx sout:=av.SO hf oG (LX.done mixed yT hs hA aq)
end
theorem y1{p0:Prop}(iY:p0):p0∧True:=⟨iY,trivial⟩
theorem y2{p0 p1:Prop}(iY:p0)(ki:p1):p0∧p1∧True:=⟨iY,ki,trivial⟩
theorem y3{p0 p1 p2:Prop}(iY:p0)(ki:p1)(kz:p2):p0∧p1∧p2∧True:=⟨iY,ki,kz,trivial⟩
theorem y4{p0 p1 p2 p3:Prop}(iY:p0)(ki:p1)(kz:p2)(kV:p3):p0∧p1∧p2∧p3∧True:=⟨iY,ki,kz,kV,trivial⟩
theorem y5{p0 p1 p2 p3 p4:Prop}(iY:p0)(ki:p1)(kz:p2)(kV:p3)(lK:p4):p0∧p1∧p2∧p3∧p4∧True:=⟨iY,ki,kz,kV,lK,trivial⟩
theorem y6{p0 p1 p2 p3 p4 p5:Prop}(iY:p0)(ki:p1)(kz:p2)(kV:p3)(lK:p4)(lU:p5):p0∧p1∧p2∧p3∧p4∧p5∧True:=⟨iY,ki,kz,kV,lK,lU,trivial⟩
theorem y7{p0 p1 p2 p3 p4 p5 p6:Prop}(iY:p0)(ki:p1)(kz:p2)(kV:p3)(lK:p4)(lU:p5)(mz:p6):p0∧p1∧p2∧p3∧p4∧p5∧p6∧True:=⟨iY,ki,kz,kV,lK,lU,mz,trivial⟩
theorem y8{p0 p1 p2 p3 p4 p5 p6 p7:Prop}(iY:p0)(ki:p1)(kz:p2)(kV:p3)(lK:p4)(lU:p5)(mz:p6)(mK:p7):p0∧p1∧p2∧p3∧p4∧p5∧p6∧p7∧True:=⟨iY,ki,kz,kV,lK,lU,mz,mK,trivial⟩
theorem y9{p0 p1 p2 p3 p4 p5 p6 p7 p8:Prop}(iY:p0)(ki:p1)(kz:p2)(kV:p3)(lK:p4)(lU:p5)(mz:p6)(mK:p7)(nr:p8):p0∧p1∧p2∧p3∧p4∧p5∧p6∧p7∧p8∧True:=⟨iY,ki,kz,kV,lK,lU,mz,mK,nr,trivial⟩
theorem F8{p0 p1 p2 p3 p4 p5 p6 p7 p8 p9:Prop}(iY:p0)(ki:p1)(kz:p2)(kV:p3)(lK:p4)(lU:p5)(mz:p6)(mK:p7)(nr:p8)(nT:p9):p0∧p1∧p2∧p3∧p4∧p5∧p6∧p7∧p8∧p9∧True:=⟨iY,ki,kz,kV,lK,lU,mz,mK,nr,nT,trivial⟩
theorem Dg{p0 p1 p2 p3 p4 p5 p6 p7 p8 p9 jv:Prop}(iY:p0)(ki:p1)(kz:p2)(kV:p3)(lK:p4)(lU:p5)(mz:p6)(mK:p7)(nr:p8)(nT:p9)(fO:jv):p0∧p1∧p2∧p3∧p4∧p5∧p6∧p7∧p8∧p9∧jv∧True:=⟨iY,ki,kz,kV,lK,lU,mz,mK,nr,nT,fO,trivial⟩
theorem KK{p0 p1 p2 p3 p4 p5 p6 p7 p8 p9 jv jD:Prop}(iY:p0)(ki:p1)(kz:p2)(kV:p3)(lK:p4)(lU:p5)(mz:p6)(mK:p7)(nr:p8)(nT:p9)(fO:jv)(gh:jD):p0∧p1∧p2∧p3∧p4∧p5∧p6∧p7∧p8∧p9∧jv∧jD∧True:=⟨iY,ki,kz,kV,lK,lU,mz,mK,nr,nT,fO,gh,trivial⟩
theorem Js{p0 p1 p2 p3 p4 p5 p6 p7 p8 p9 jv jD kj:Prop}(iY:p0)(ki:p1)(kz:p2)(kV:p3)(lK:p4)(lU:p5)(mz:p6)(mK:p7)(nr:p8)(nT:p9)(fO:jv)(gh:jD)(gC:kj):p0∧p1∧p2∧p3∧p4∧p5∧p6∧p7∧p8∧p9∧jv∧jD∧kj∧True:=⟨iY,ki,kz,kV,lK,lU,mz,mK,nr,nT,fO,gh,gC,trivial⟩
theorem Lk{p0 p1 p2 p3 p4 p5 p6 p7 p8 p9 jv jD kj kA:Prop}(iY:p0)(ki:p1)(kz:p2)(kV:p3)(lK:p4)(lU:p5)(mz:p6)(mK:p7)(nr:p8)(nT:p9)(fO:jv)(gh:jD)(gC:kj)(gV:kA):p0∧p1∧p2∧p3∧p4∧p5∧p6∧p7∧p8∧p9∧jv∧jD∧kj∧kA∧True:=⟨iY,ki,kz,kV,lK,lU,mz,mK,nr,nT,fO,gh,gC,gV,trivial⟩
theorem KL{p0 p1 p2 p3 p4 p5 p6 p7 p8 p9 jv jD kj kA ly:Prop}(iY:p0)(ki:p1)(kz:p2)(kV:p3)(lK:p4)(lU:p5)(mz:p6)(mK:p7)(nr:p8)(nT:p9)(fO:jv)(gh:jD)(gC:kj)(gV:kA)(im:ly):p0∧p1∧p2∧p3∧p4∧p5∧p6∧p7∧p8∧p9∧jv∧jD∧kj∧kA∧ly∧True:=⟨iY,ki,kz,kV,lK,lU,mz,mK,nr,nT,fO,gh,gC,gV,im,trivial⟩
theorem Hq{p0 p1 p2 p3 p4 p5 p6 p7 p8 p9 jv jD kj kA ly lV:Prop}(iY:p0)(ki:p1)(kz:p2)(kV:p3)(lK:p4)(lU:p5)(mz:p6)(mK:p7)(nr:p8)(nT:p9)(fO:jv)(gh:jD)(gC:kj)(gV:kA)(im:ly)(iL:lV):p0∧p1∧p2∧p3∧p4∧p5∧p6∧p7∧p8∧p9∧jv∧jD∧kj∧kA∧ly∧lV∧True:=⟨iY,ki,kz,kV,lK,lU,mz,mK,nr,nT,fO,gh,gC,gV,im,iL,trivial⟩
theorem P4{p0 p1 p2 p3 p4 p5 p6 p7 p8 p9 jv jD kj kA ly lV mA:Prop}(iY:p0)(ki:p1)(kz:p2)(kV:p3)(lK:p4)(lU:p5)(mz:p6)(mK:p7)(nr:p8)(nT:p9)(fO:jv)(gh:jD)(gC:kj)(gV:kA)(im:ly)(iL:lV)(jt:mA):p0∧p1∧p2∧p3∧p4∧p5∧p6∧p7∧p8∧p9∧jv∧jD∧kj∧kA∧ly∧lV∧mA∧True:=⟨iY,ki,kz,kV,lK,lU,mz,mK,nr,nT,fO,gh,gC,gV,im,iL,jt,trivial⟩
theorem TQ{p0 p1 p2 p3 p4 p5 p6 p7 p8 p9 jv jD kj kA ly lV mA nt:Prop}(iY:p0)(ki:p1)(kz:p2)(kV:p3)(lK:p4)(lU:p5)(mz:p6)(mK:p7)(nr:p8)(nT:p9)(fO:jv)(gh:jD)(gC:kj)(gV:kA)(im:ly)(iL:lV)(jt:mA)(jE:nt):p0∧p1∧p2∧p3∧p4∧p5∧p6∧p7∧p8∧p9∧jv∧jD∧kj∧kA∧ly∧lV∧mA∧nt∧True:=⟨iY,ki,kz,kV,lK,lU,mz,mK,nr,nT,fO,gh,gC,gV,im,iL,jt,jE,trivial⟩
theorem ZS{p0 p1 p2 p3 p4 p5 p6 p7 p8 p9 jv jD kj kA ly lV mA nt n6:Prop}(iY:p0)(ki:p1)(kz:p2)(kV:p3)(lK:p4)(lU:p5)(mz:p6)(mK:p7)(nr:p8)(nT:p9)(fO:jv)(gh:jD)(gC:kj)(gV:kA)(im:ly)(iL:lV)(jt:mA)(jE:nt)(kp:n6):p0∧p1∧p2∧p3∧p4∧p5∧p6∧p7∧p8∧p9∧jv∧jD∧kj∧kA∧ly∧lV∧mA∧nt∧n6∧True:=⟨iY,ki,kz,kV,lK,lU,mz,mK,nr,nT,fO,gh,gC,gV,im,iL,jt,jE,kp,trivial⟩
theorem Wv{p0 p1 p2 p3 p4 p5 p6 p7 p8 p9 jv jD kj kA ly lV mA nt n6 oK:Prop}(iY:p0)(ki:p1)(kz:p2)(kV:p3)(lK:p4)(lU:p5)(mz:p6)(mK:p7)(nr:p8)(nT:p9)(fO:jv)(gh:jD)(gC:kj)(gV:kA)(im:ly)(iL:lV)(jt:mA)(jE:nt)(kp:n6)(kW:oK):p0∧p1∧p2∧p3∧p4∧p5∧p6∧p7∧p8∧p9∧jv∧jD∧kj∧kA∧ly∧lV∧mA∧nt∧n6∧oK∧True:=⟨iY,ki,kz,kV,lK,lU,mz,mK,nr,nT,fO,gh,gC,gV,im,iL,jt,jE,kp,kW,trivial⟩
theorem Yo{p0 p1 p2 p3 p4 p5 p6 p7 p8 p9 jv jD kj kA ly lV mA nt n6 oK pP:Prop}(iY:p0)(ki:p1)(kz:p2)(kV:p3)(lK:p4)(lU:p5)(mz:p6)(mK:p7)(nr:p8)(nT:p9)(fO:jv)(gh:jD)(gC:kj)(gV:kA)(im:ly)(iL:lV)(jt:mA)(jE:nt)(kp:n6)(kW:oK)(lW:pP):p0∧p1∧p2∧p3∧p4∧p5∧p6∧p7∧p8∧p9∧jv∧jD∧kj∧kA∧ly∧lV∧mA∧nt∧n6∧oK∧pP∧True:=⟨iY,ki,kz,kV,lK,lU,mz,mK,nr,nT,fO,gh,gC,gV,im,iL,jt,jE,kp,kW,lW,trivial⟩
theorem Yp{p0 p1 p2 p3 p4 p5 p6 p7 p8 p9 jv jD kj kA ly lV mA nt n6 oK pP qZ:Prop}(iY:p0)(ki:p1)(kz:p2)(kV:p3)(lK:p4)(lU:p5)(mz:p6)(mK:p7)(nr:p8)(nT:p9)(fO:jv)(gh:jD)(gC:kj)(gV:kA)(im:ly)(iL:lV)(jt:mA)(jE:nt)(kp:n6)(kW:oK)(lW:pP)(mL:qZ):p0∧p1∧p2∧p3∧p4∧p5∧p6∧p7∧p8∧p9∧jv∧jD∧kj∧kA∧ly∧lV∧mA∧nt∧n6∧oK∧pP∧qZ∧True:=⟨iY,ki,kz,kV,lK,lU,mz,mK,nr,nT,fO,gh,gC,gV,im,iL,jt,jE,kp,kW,lW,mL,trivial⟩
theorem Yq{p0 p1 p2 p3 p4 p5 p6 p7 p8 p9 jv jD kj kA ly lV mA nt n6 oK pP qZ sJ:Prop}(iY:p0)(ki:p1)(kz:p2)(kV:p3)(lK:p4)(lU:p5)(mz:p6)(mK:p7)(nr:p8)(nT:p9)(fO:jv)(gh:jD)(gC:kj)(gV:kA)(im:ly)(iL:lV)(jt:mA)(jE:nt)(kp:n6)(kW:oK)(lW:pP)(mL:qZ)(nU:sJ):p0∧p1∧p2∧p3∧p4∧p5∧p6∧p7∧p8∧p9∧jv∧jD∧kj∧kA∧ly∧lV∧mA∧nt∧n6∧oK∧pP∧qZ∧sJ∧True:=⟨iY,ki,kz,kV,lK,lU,mz,mK,nr,nT,fO,gh,gC,gV,im,iL,jt,jE,kp,kW,lW,mL,nU,trivial⟩
theorem Ww{p0 p1 p2 p3 p4 p5 p6 p7 p8 p9 jv jD kj kA ly lV mA nt n6 oK pP qZ sJ tm:Prop}(iY:p0)(ki:p1)(kz:p2)(kV:p3)(lK:p4)(lU:p5)(mz:p6)(mK:p7)(nr:p8)(nT:p9)(fO:jv)(gh:jD)(gC:kj)(gV:kA)(im:ly)(iL:lV)(jt:mA)(jE:nt)(kp:n6)(kW:oK)(lW:pP)(mL:qZ)(nU:sJ)(oL:tm):p0∧p1∧p2∧p3∧p4∧p5∧p6∧p7∧p8∧p9∧jv∧jD∧kj∧kA∧ly∧lV∧mA∧nt∧n6∧oK∧pP∧qZ∧sJ∧tm∧True:=⟨iY,ki,kz,kV,lK,lU,mz,mK,nr,nT,fO,gh,gC,gV,im,iL,jt,jE,kp,kW,lW,mL,nU,oL,trivial⟩
theorem Yr{p0 p1 p2 p3 p4 p5 p6 p7 p8 p9 jv jD kj kA ly lV mA nt n6 oK pP qZ sJ tm uX uY:Prop}(iY:p0)(ki:p1)(kz:p2)(kV:p3)(lK:p4)(lU:p5)(mz:p6)(mK:p7)(nr:p8)(nT:p9)(fO:jv)(gh:jD)(gC:kj)(gV:kA)(im:ly)(iL:lV)(jt:mA)(jE:nt)(kp:n6)(kW:oK)(lW:pP)(mL:qZ)(nU:sJ)(oL:tm)(qD:uX)(qE:uY):p0∧p1∧p2∧p3∧p4∧p5∧p6∧p7∧p8∧p9∧jv∧jD∧kj∧kA∧ly∧lV∧mA∧nt∧n6∧oK∧pP∧qZ∧sJ∧tm∧uX∧uY∧True:=⟨iY,ki,kz,kV,lK,lU,mz,mK,nr,nT,fO,gh,gC,gV,im,iL,jt,jE,kp,kW,lW,mL,nU,oL,qD,qE,trivial⟩
theorem Ys{p0 p1 p2 p3 p4 p5 p6 p7 p8 p9 jv jD kj kA ly lV mA nt n6 oK pP qZ sJ tm uX uY wM:Prop}(iY:p0)(ki:p1)(kz:p2)(kV:p3)(lK:p4)(lU:p5)(mz:p6)(mK:p7)(nr:p8)(nT:p9)(fO:jv)(gh:jD)(gC:kj)(gV:kA)(im:ly)(iL:lV)(jt:mA)(jE:nt)(kp:n6)(kW:oK)(lW:pP)(mL:qZ)(nU:sJ)(oL:tm)(qD:uX)(qE:uY)(rR:wM):p0∧p1∧p2∧p3∧p4∧p5∧p6∧p7∧p8∧p9∧jv∧jD∧kj∧kA∧ly∧lV∧mA∧nt∧n6∧oK∧pP∧qZ∧sJ∧tm∧uX∧uY∧wM∧True:=⟨iY,ki,kz,kV,lK,lU,mz,mK,nr,nT,fO,gh,gC,gV,im,iL,jt,jE,kp,kW,lW,mL,nU,oL,qD,qE,rR,trivial⟩
theorem ZT{p0 p1 p2 p3 p4 p5 p6 p7 p8 p9 jv jD kj kA ly lV mA nt n6 oK pP qZ sJ tm uX uY wM yU yV:Prop}(iY:p0)(ki:p1)(kz:p2)(kV:p3)(lK:p4)(lU:p5)(mz:p6)(mK:p7)(nr:p8)(nT:p9)(fO:jv)(gh:jD)(gC:kj)(gV:kA)(im:ly)(iL:lV)(jt:mA)(jE:nt)(kp:n6)(kW:oK)(lW:pP)(mL:qZ)(nU:sJ)(oL:tm)(qD:uX)(qE:uY)(rR:wM)(tn:yU)(tp:yV):p0∧p1∧p2∧p3∧p4∧p5∧p6∧p7∧p8∧p9∧jv∧jD∧kj∧kA∧ly∧lV∧mA∧nt∧n6∧oK∧pP∧qZ∧sJ∧tm∧uX∧uY∧wM∧yU∧yV∧True:=⟨iY,ki,kz,kV,lK,lU,mz,mK,nr,nT,fO,gh,gC,gV,im,iL,jt,jE,kp,kW,lW,mL,nU,oL,qD,qE,rR,tn,tp,trivial⟩
theorem ZU{p0 p1 p2 p3 p4 p5 p6 p7 p8 p9 jv jD kj kA ly lV mA nt n6 oK pP qZ sJ tm uX uY wM yU yV Bs:Prop}(iY:p0)(ki:p1)(kz:p2)(kV:p3)(lK:p4)(lU:p5)(mz:p6)(mK:p7)(nr:p8)(nT:p9)(fO:jv)(gh:jD)(gC:kj)(gV:kA)(im:ly)(iL:lV)(jt:mA)(jE:nt)(kp:n6)(kW:oK)(lW:pP)(mL:qZ)(nU:sJ)(oL:tm)(qD:uX)(qE:uY)(rR:wM)(tn:yU)(tp:yV)(vx:Bs):p0∧p1∧p2∧p3∧p4∧p5∧p6∧p7∧p8∧p9∧jv∧jD∧kj∧kA∧ly∧lV∧mA∧nt∧n6∧oK∧pP∧qZ∧sJ∧tm∧uX∧uY∧wM∧yU∧yV∧Bs∧True:=⟨iY,ki,kz,kV,lK,lU,mz,mK,nr,nT,fO,gh,gC,gV,im,iL,jt,jE,kp,kW,lW,mL,nU,oL,qD,qE,rR,tn,tp,vx,trivial⟩
theorem ZV{p0 p1 p2 p3 p4 p5 p6 p7 p8 p9 jv jD kj kA ly lV mA nt n6 oK pP qZ sJ tm uX uY wM yU yV Bs Dh:Prop}(iY:p0)(ki:p1)(kz:p2)(kV:p3)(lK:p4)(lU:p5)(mz:p6)(mK:p7)(nr:p8)(nT:p9)(fO:jv)(gh:jD)(gC:kj)(gV:kA)(im:ly)(iL:lV)(jt:mA)(jE:nt)(kp:n6)(kW:oK)(lW:pP)(mL:qZ)(nU:sJ)(oL:tm)(qD:uX)(qE:uY)(rR:wM)(tn:yU)(tp:yV)(vx:Bs)(x7:Dh):p0∧p1∧p2∧p3∧p4∧p5∧p6∧p7∧p8∧p9∧jv∧jD∧kj∧kA∧ly∧lV∧mA∧nt∧n6∧oK∧pP∧qZ∧sJ∧tm∧uX∧uY∧wM∧yU∧yV∧Bs∧Dh∧True:=⟨iY,ki,kz,kV,lK,lU,mz,mK,nr,nT,fO,gh,gC,gV,im,iL,jt,jE,kp,kW,lW,mL,nU,oL,qD,qE,rR,tn,tp,vx,x7,trivial⟩
theorem Yt{p0 p1 p2 p3 p4 p5 p6 p7 p8 p9 jv jD kj kA ly lV mA nt n6 oK pP qZ sJ tm uX uY wM yU yV Bs Dh F9 Ga CM Gb:Prop}(iY:p0)(ki:p1)(kz:p2)(kV:p3)(lK:p4)(lU:p5)(mz:p6)(mK:p7)(nr:p8)(nT:p9)(fO:jv)(gh:jD)(gC:kj)(gV:kA)(im:ly)(iL:lV)(jt:mA)(jE:nt)(kp:n6)(kW:oK)(lW:pP)(mL:qZ)(nU:sJ)(oL:tm)(qD:uX)(qE:uY)(rR:wM)(tn:yU)(tp:yV)(vx:Bs)(x7:Dh)(Bt:F9)(Bu:Ga)(Bv:CM)(Bw:Gb):p0∧p1∧p2∧p3∧p4∧p5∧p6∧p7∧p8∧p9∧jv∧jD∧kj∧kA∧ly∧lV∧mA∧nt∧n6∧oK∧pP∧qZ∧sJ∧tm∧uX∧uY∧wM∧yU∧yV∧Bs∧Dh∧F9∧Ga∧CM∧Gb∧True:=⟨iY,ki,kz,kV,lK,lU,mz,mK,nr,nT,fO,gh,gC,gV,im,iL,jt,jE,kp,kW,lW,mL,nU,oL,qD,qE,rR,tn,tp,vx,x7,Bt,Bu,Bv,Bw,trivial⟩
theorem Yu{p0 p1 p2 p3 p4 p5 p6 p7 p8 p9 jv jD kj kA ly lV mA nt n6 oK pP qZ sJ tm uX uY wM yU yV Bs Dh F9 Ga CM Gb Jt:Prop}(iY:p0)(ki:p1)(kz:p2)(kV:p3)(lK:p4)(lU:p5)(mz:p6)(mK:p7)(nr:p8)(nT:p9)(fO:jv)(gh:jD)(gC:kj)(gV:kA)(im:ly)(iL:lV)(jt:mA)(jE:nt)(kp:n6)(kW:oK)(lW:pP)(mL:qZ)(nU:sJ)(oL:tm)(qD:uX)(qE:uY)(rR:wM)(tn:yU)(tp:yV)(vx:Bs)(x7:Dh)(Bt:F9)(Bu:Ga)(Bv:CM)(Bw:Gb)(Eo:Jt):p0∧p1∧p2∧p3∧p4∧p5∧p6∧p7∧p8∧p9∧jv∧jD∧kj∧kA∧ly∧lV∧mA∧nt∧n6∧oK∧pP∧qZ∧sJ∧tm∧uX∧uY∧wM∧yU∧yV∧Bs∧Dh∧F9∧Ga∧CM∧Gb∧Jt∧True:=⟨iY,ki,kz,kV,lK,lU,mz,mK,nr,nT,fO,gh,gC,gV,im,iL,jt,jE,kp,kW,lW,mL,nU,oL,qD,qE,rR,tn,tp,vx,x7,Bt,Bu,Bv,Bw,Eo,trivial⟩
theorem Yv{p0 p1 p2 p3 p4 p5 p6 p7 p8 p9 jv jD kj kA ly lV mA nt n6 oK pP qZ sJ tm uX uY wM yU yV Bs Dh F9 Ga CM Gb Jt Mq:Prop}(iY:p0)(ki:p1)(kz:p2)(kV:p3)(lK:p4)(lU:p5)(mz:p6)(mK:p7)(nr:p8)(nT:p9)(fO:jv)(gh:jD)(gC:kj)(gV:kA)(im:ly)(iL:lV)(jt:mA)(jE:nt)(kp:n6)(kW:oK)(lW:pP)(mL:qZ)(nU:sJ)(oL:tm)(qD:uX)(qE:uY)(rR:wM)(tn:yU)(tp:yV)(vx:Bs)(x7:Dh)(Bt:F9)(Bu:Ga)(Bv:CM)(Bw:Gb)(Eo:Jt)(H9:Mq):p0∧p1∧p2∧p3∧p4∧p5∧p6∧p7∧p8∧p9∧jv∧jD∧kj∧kA∧ly∧lV∧mA∧nt∧n6∧oK∧pP∧qZ∧sJ∧tm∧uX∧uY∧wM∧yU∧yV∧Bs∧Dh∧F9∧Ga∧CM∧Gb∧Jt∧Mq∧True:=⟨iY,ki,kz,kV,lK,lU,mz,mK,nr,nT,fO,gh,gC,gV,im,iL,jt,jE,kp,kW,lW,mL,nU,oL,qD,qE,rR,tn,tp,vx,x7,Bt,Bu,Bv,Bw,Eo,H9,trivial⟩
theorem ZW{p0 p1 p2 p3 p4 p5 p6 p7 p8 p9 jv jD kj kA ly lV mA nt n6 oK pP qZ sJ tm uX uY wM yU yV Bs Dh F9 Ga CM Gb Jt Mq P5:Prop}(iY:p0)(ki:p1)(kz:p2)(kV:p3)(lK:p4)(lU:p5)(mz:p6)(mK:p7)(nr:p8)(nT:p9)(fO:jv)(gh:jD)(gC:kj)(gV:kA)(im:ly)(iL:lV)(jt:mA)(jE:nt)(kp:n6)(kW:oK)(lW:pP)(mL:qZ)(nU:sJ)(oL:tm)(qD:uX)(qE:uY)(rR:wM)(tn:yU)(tp:yV)(vx:Bs)(x7:Dh)(Bt:F9)(Bu:Ga)(Bv:CM)(Bw:Gb)(Eo:Jt)(H9:Mq)(Mr:P5):p0∧p1∧p2∧p3∧p4∧p5∧p6∧p7∧p8∧p9∧jv∧jD∧kj∧kA∧ly∧lV∧mA∧nt∧n6∧oK∧pP∧qZ∧sJ∧tm∧uX∧uY∧wM∧yU∧yV∧Bs∧Dh∧F9∧Ga∧CM∧Gb∧Jt∧Mq∧P5∧True:=⟨iY,ki,kz,kV,lK,lU,mz,mK,nr,nT,fO,gh,gC,gV,im,iL,jt,jE,kp,kW,lW,mL,nU,oL,qD,qE,rR,tn,tp,vx,x7,Bt,Bu,Bv,Bw,Eo,H9,Mr,trivial⟩
theorem ZX{p0 p1 p2 p3 p4 p5 p6 p7 p8 p9 jv jD kj kA ly lV mA nt n6 oK pP qZ sJ tm uX uY wM yU yV Bs Dh F9 Ga CM Gb Jt Mq P5 TR:Prop}(iY:p0)(ki:p1)(kz:p2)(kV:p3)(lK:p4)(lU:p5)(mz:p6)(mK:p7)(nr:p8)(nT:p9)(fO:jv)(gh:jD)(gC:kj)(gV:kA)(im:ly)(iL:lV)(jt:mA)(jE:nt)(kp:n6)(kW:oK)(lW:pP)(mL:qZ)(nU:sJ)(oL:tm)(qD:uX)(qE:uY)(rR:wM)(tn:yU)(tp:yV)(vx:Bs)(x7:Dh)(Bt:F9)(Bu:Ga)(Bv:CM)(Bw:Gb)(Eo:Jt)(H9:Mq)(Mr:P5)(Ri:TR):p0∧p1∧p2∧p3∧p4∧p5∧p6∧p7∧p8∧p9∧jv∧jD∧kj∧kA∧ly∧lV∧mA∧nt∧n6∧oK∧pP∧qZ∧sJ∧tm∧uX∧uY∧wM∧yU∧yV∧Bs∧Dh∧F9∧Ga∧CM∧Gb∧Jt∧Mq∧P5∧TR∧True:=⟨iY,ki,kz,kV,lK,lU,mz,mK,nr,nT,fO,gh,gC,gV,im,iL,jt,jE,kp,kW,lW,mL,nU,oL,qD,qE,rR,tn,tp,vx,x7,Bt,Bu,Bv,Bw,Eo,H9,Mr,Ri,trivial⟩
theorem ZY{p0 p1 p2 p3 p4 p5 p6 p7 p8 p9 jv jD kj kA ly lV mA nt n6 oK pP qZ sJ tm uX uY wM yU yV Bs Dh F9 Ga CM Gb Jt Mq P5 TR Yw:Prop}(iY:p0)(ki:p1)(kz:p2)(kV:p3)(lK:p4)(lU:p5)(mz:p6)(mK:p7)(nr:p8)(nT:p9)(fO:jv)(gh:jD)(gC:kj)(gV:kA)(im:ly)(iL:lV)(jt:mA)(jE:nt)(kp:n6)(kW:oK)(lW:pP)(mL:qZ)(nU:sJ)(oL:tm)(qD:uX)(qE:uY)(rR:wM)(tn:yU)(tp:yV)(vx:Bs)(x7:Dh)(Bt:F9)(Bu:Ga)(Bv:CM)(Bw:Gb)(Eo:Jt)(H9:Mq)(Mr:P5)(Ri:TR)(Wx:Yw):p0∧p1∧p2∧p3∧p4∧p5∧p6∧p7∧p8∧p9∧jv∧jD∧kj∧kA∧ly∧lV∧mA∧nt∧n6∧oK∧pP∧qZ∧sJ∧tm∧uX∧uY∧wM∧yU∧yV∧Bs∧Dh∧F9∧Ga∧CM∧Gb∧Jt∧Mq∧P5∧TR∧Yw∧True:=⟨iY,ki,kz,kV,lK,lU,mz,mK,nr,nT,fO,gh,gC,gV,im,iL,jt,jE,kp,kW,lW,mL,nU,oL,qD,qE,rR,tn,tp,vx,x7,Bt,Bu,Bv,Bw,Eo,H9,Mr,Ri,Wx,trivial⟩
end Go.Proofs.YtllmkadmohkbfaaGreatDoor.Sym
