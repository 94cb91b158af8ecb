/- Lemmas for the statements of this seat. -/
import Derived.Test.YtcpnocgollpbhaaGreatDoorW25
import Derived.Test.YtcpnocgollpbhaaGreatDoorProg
namespace Go.Proofs.YtcpnocgollpbhaaGreatDoor.Sym
open Go
structure ag where
 neg:Bool
 num:List UInt32
 den:List UInt32
def ag.cells(x:ag):List PV:=[(vB x.neg),(af x.num),(af x.den)]
def ag.pv(x:ag):PV := .agg x.cells
theorem aD:Sz ag.cells 3:=fun _=>rfl
abbrev Xw:=List ag
abbrev ae(p:Xw):PV := .list (p.map ag.cells)
structure aA where
 roots:List (List ag)
def aA.cells(x:aA):List PV:=[(bB (bp ag.cells) x.roots)]
def aA.pv(x:aA):PV := .agg x.cells
structure ak where
 lo:ag
 hi:ag
def ak.cells(x:ak):List PV:=[(vB x.lo.neg),(af x.lo.num),(af x.lo.den),(vB x.hi.neg),(af x.hi.num),(af x.hi.den)]
def ak.pv(x:ak):PV := .agg x.cells
theorem gw:Sz ak.cells 6:=fun _=>rfl
structure aW where
 p:List ag
 rV:ak
def aW.cells(x:aW):List PV:=[(ae x.p),(vB x.rV.lo.neg),(af x.rV.lo.num),(af x.rV.lo.den),(vB x.rV.hi.neg),(af x.rV.hi.num),(af x.rV.hi.den)]
def aW.pv(x:aW):PV := .agg x.cells
theorem yk:Sz aW.cells 7:=fun _=>rfl
structure az where
 neg:Bool
 cJ:List UInt32
def az.cells(x:az):List PV:=[(vB x.neg),(af x.cJ)]
def az.pv(x:az):PV := .agg x.cells
@[reducible] noncomputable def bu:Program:=Tryz.prog
def Fi:lh:=[(2,⟨.int .i64,1,8,false,[.int .i64 0],[]⟩),
 (3,⟨.int .i64,1,8,false,[.int .i64 0],[]⟩),
 (4,⟨.bool,1,1,false,[(vB false)],[]⟩),
 (5,⟨.int .u8,1,1,false,[.int .u8 0],[]⟩),
 (6,⟨.int .u8,1,1,false,[.int .u8 0],[]⟩),
 (7,⟨.struct [(0,1,false),(1,1,false),(2,1,false),(3,1,false)],4,24,true,[.int .i64 0,.int .i64 0,(vB false),.int .u8 0],[]⟩),
 (8,⟨.struct [(0,1,false),(1,1,false),(2,1,false),(3,1,false)],4,24,true,[.int .i64 0,.int .i64 0,(vB false),.int .u8 0],[]⟩),
 (9,⟨.str,1,16,false,[.str ByteArray.empty],[]⟩),
 (10,⟨.str,1,16,false,[.str ByteArray.empty],[]⟩),
 (11,⟨.str,1,16,false,[.str ByteArray.empty],[]⟩),
 (12,⟨.int .u64,1,8,false,[.int .u64 0],[]⟩),
 (13,⟨.struct [(0,1,false),(1,1,false)],2,24,true,[.str ByteArray.empty,.int .u64 0],[]⟩),
 (14,⟨.struct [(0,1,false),(1,1,false)],2,24,true,[.str ByteArray.empty,.int .u64 0],[]⟩),
 (20,⟨.iface,1,16,false,[.aC],[]⟩),
 (21,⟨.int .i32,1,4,false,[.int .i32 0],[]⟩),
 (22,⟨.slice 26,1,24,false,[.ek],[]⟩),
 (23,⟨.struct [(0,1,false)],1,24,true,[.ek],[]⟩),
 (24,⟨.struct [(0,1,false)],1,24,true,[.ek],[]⟩),
 (25,⟨.slice 36,1,24,false,[.ek],[]⟩),
 (26,⟨.slice 36,1,24,false,[.ek],[]⟩),
 (29,⟨.slice 36,1,24,false,[.ek],[]⟩),
 (30,⟨.iface,1,16,false,[.aC],[]⟩),
 (31,⟨.iface,1,16,false,[.aC],[]⟩),
 (34,⟨.slice 112,1,24,false,[.ek],[]⟩),
 (35,⟨.struct [(0,1,false),(1,1,false),(2,1,false)],3,56,true,[(vB false),.ek,.ek],[]⟩),
 (36,⟨.struct [(0,1,false),(1,1,false),(2,1,false)],3,56,true,[(vB false),.ek,.ek],[]⟩),
 (37,⟨.struct [(0,3,true),(3,3,true)],6,112,true,[(vB false),.ek,.ek,(vB false),.ek,.ek],[]⟩),
 (38,⟨.struct [(0,3,true),(3,3,true)],6,112,true,[(vB false),.ek,.ek,(vB false),.ek,.ek],[]⟩),
 (39,⟨.struct [(0,1,false),(1,6,true)],7,136,true,[.ek,(vB false),.ek,.ek,(vB false),.ek,.ek],[]⟩),
 (40,⟨.struct [(0,1,false),(1,6,true)],7,136,true,[.ek,(vB false),.ek,.ek,(vB false),.ek,.ek],[]⟩),
 (64,⟨.slice 40,1,24,false,[.ek],[]⟩),
 (75,⟨.int .i64,1,8,false,[.int .i64 0],[]⟩),
 (97,⟨.struct [(0,1,false),(1,1,false)],2,32,true,[(vB false),.ek],[]⟩),
 (98,⟨.struct [(0,1,false),(1,1,false)],2,32,true,[(vB false),.ek],[]⟩),
 (112,⟨.int .u32,1,4,false,[.int .u32 0],[]⟩),
 (113,⟨.slice 38,1,24,false,[.ek],[]⟩),
 (117,⟨.slice 3,1,24,false,[.ek],[]⟩),
 (145,⟨.int .u64,1,8,false,[.int .u64 0],[]⟩),
 (146,⟨.int .u64,1,8,false,[.int .u64 0],[]⟩),
 (162,⟨.slice 29,1,24,false,[.ek],[]⟩),
 (174,⟨.slice 9,1,24,false,[.ek],[]⟩),
 (208,⟨.slice 5,1,24,false,[.ek],[]⟩),
 (259,⟨.int .u8,1,1,false,[.int .u8 0],[]⟩),
 (260,⟨.int .u8,1,1,false,[.int .u8 0],[]⟩),
 (262,⟨.int .i32,1,4,false,[.int .i32 0],[]⟩),
 (263,⟨.int .i32,1,4,false,[.int .i32 0],[]⟩)]
theorem AW:oE bu Fi:=oE.of (by kernel_rfl)
theorem mixed:bu.follows .mixedOrders=true:=by kernel_rfl
abbrev Cp:=eM bu
abbrev Ws:=List UInt32
abbrev Rs:=List ag
abbrev TE.a:TE := .auto
abbrev TE.t:TE := .dec true
abbrev TE.f:TE := .dec false
abbrev TE.q:TE := .aR []
abbrev TE.h(n:Nat)(x:Hint):TE := .aR (List.replicate n .none++[x])
abbrev Hint.o:Hint := .none
abbrev lR:List ag→List PV:=bp ag.cells
abbrev iL{α:Type}(l:List α):Hint:=iI (l.length:Int)
abbrev pW(l:List UInt32):SC := .pure (l.map aj).flatten
abbrev pC{α:Type}(f:α→List PV)(l:List α):SC := .pure (l.map f).flatten
abbrev jR(fn:Func)(sin:aT):Prop:=sin.all (fun p=>Nat.ble fn.ntmps p.1)=true
theorem rN(n:Nat):((n:Nat):Int)=(n:Int):=rfl
theorem rF:false=false:=rfl
theorem rT:true=true:=rfl
section
variable {fn:Func} {K K':List dJ} {s s':St} {r:PV} {sin sout:aT} {rx:EV} {f:FuncId} {args:List PV} {Nt:List EV} {A:Prop}
theorem lG(ns:List Nat)(tr:List TE)(hA:A)(h:L bu fn K' s' r)(aw:xa ns (run bu Fi fn 900 K s tr)=some (K',s',A):=by kernel_rfl):L bu fn K s r:=L.go mixed AW hA aw h
theorem lD(ns:List Nat)(tr:List TE)(hA:A)(aw:Gx ns (run bu Fi fn 900 K s tr)=some (r,A):=by kernel_rfl):L bu fn K s r:=L.done mixed AW hA aw
theorem eG(hf:bu.funcs[f]? = some fn)(ns:List Nat)(tr:List TE)(hA:A)(h:L bu fn K' s' r)(pI:KB fn (args.map EV.pv).length []=true:=by kernel_rfl)(aw:xa ns (run bu Fi fn 900 [.code (aL fn)] ⟨mC 0 (args.map EV.pv),[]⟩ tr)=some (K',s',A):=by kernel_rfl):eM bu f args r:=eM.WD hf pI (L.go mixed AW hA aw h)
theorem eD(hf:bu.funcs[f]? = some fn)(ns:List Nat)(tr:List TE)(hA:A)(pI:KB fn (args.map EV.pv).length []=true:=by kernel_rfl)(aw:Gx ns (run bu Fi fn 900 [.code (aL fn)] ⟨mC 0 (args.map EV.pv),[]⟩ tr)=some (r,A):=by kernel_rfl):eM bu f args r:=eM.WD hf pI (L.done mixed AW hA aw)
theorem IE(ns:List Nat)(tr:List TE)(hs:sin.all (fun p=>Nat.ble fn.ntmps p.1)=true)(hA:A)(h:LX bu fn K' s' sin rx sout)(aw:xa ns (run bu Fi fn 900 K s tr)=some (K',s',A):=by kernel_rfl):LX bu fn K s sin rx sout:=LX.go mixed AW hs hA aw h
theorem Fj(ns:List Nat)(tr:List TE)(hs:sin.all (fun p=>Nat.ble fn.ntmps p.1)=true)(hi:sin.all (fun p=>wo p.1||(aT.get sout p.1).isSome)=true)(hA:A)(aw:Fh ns [] (run bu Fi fn 900 K s tr)=some (rx,sout,A):=by kernel_rfl):LX bu fn K s sin rx sout:=LX.Xr mixed AW hs hi hA aw
theorem Nu(hf:bu.funcs[f]? = some fn)(ns:List Nat)(tr:List TE)(hA:A)(h:LX bu fn K' s' sin rx sout)(pI:KB fn Nt.length sin=true:=by kernel_rfl)(hs:sin.all (fun p=>Nat.ble fn.ntmps p.1)=true:=by rfl)(aw:xa ns (run bu Fi fn 900 [.code (aL fn)] ⟨mC 0 Nt,sin⟩ tr)=some (K',s',A):=by kernel_rfl):au bu f Nt sin rx sout:=au.WD hf pI (LX.go mixed AW hs hA aw h)
theorem HL(hf:bu.funcs[f]? = some fn)(ns:List Nat)(tr:List TE)(hA:A)(pI:KB fn Nt.length sin=true:=by kernel_rfl)(hs:sin.all (fun p=>Nat.ble fn.ntmps p.1)=true:=by rfl)(aw:Fh ns sin (run bu Fi fn 900 [.code (aL fn)] ⟨mC 0 Nt,sin⟩ tr)=some (rx,sout,A):=by kernel_rfl):au bu f Nt sin rx sout:=au.WD hf pI (LX.done mixed AW hs hA aw)
end
theorem y1{p0:Prop}(iZ:p0):p0∧True:=⟨iZ,trivial⟩
theorem y2{p0 p1:Prop}(iZ:p0)(kF:p1):p0∧p1∧True:=⟨iZ,kF,trivial⟩
theorem y3{p0 p1 p2:Prop}(iZ:p0)(kF:p1)(kW:p2):p0∧p1∧p2∧True:=⟨iZ,kF,kW,trivial⟩
theorem y4{p0 p1 p2 p3:Prop}(iZ:p0)(kF:p1)(kW:p2)(lk:p3):p0∧p1∧p2∧p3∧True:=⟨iZ,kF,kW,lk,trivial⟩
theorem y5{p0 p1 p2 p3 p4:Prop}(iZ:p0)(kF:p1)(kW:p2)(lk:p3)(kX:p4):p0∧p1∧p2∧p3∧p4∧True:=⟨iZ,kF,kW,lk,kX,trivial⟩
theorem y6{p0 p1 p2 p3 p4 p5:Prop}(iZ:p0)(kF:p1)(kW:p2)(lk:p3)(kX:p4)(mj:p5):p0∧p1∧p2∧p3∧p4∧p5∧True:=⟨iZ,kF,kW,lk,kX,mj,trivial⟩
theorem y7{p0 p1 p2 p3 p4 p5 p6:Prop}(iZ:p0)(kF:p1)(kW:p2)(lk:p3)(kX:p4)(mj:p5)(mE:p6):p0∧p1∧p2∧p3∧p4∧p5∧p6∧True:=⟨iZ,kF,kW,lk,kX,mj,mE,trivial⟩
theorem y8{p0 p1 p2 p3 p4 p5 p6 p7:Prop}(iZ:p0)(kF:p1)(kW:p2)(lk:p3)(kX:p4)(mj:p5)(mE:p6)(nu:p7):p0∧p1∧p2∧p3∧p4∧p5∧p6∧p7∧True:=⟨iZ,kF,kW,lk,kX,mj,mE,nu,trivial⟩
theorem y9{p0 p1 p2 p3 p4 p5 p6 p7 p8:Prop}(iZ:p0)(kF:p1)(kW:p2)(lk:p3)(kX:p4)(mj:p5)(mE:p6)(nu:p7)(nH:p8):p0∧p1∧p2∧p3∧p4∧p5∧p6∧p7∧p8∧True:=⟨iZ,kF,kW,lk,kX,mj,mE,nu,nH,trivial⟩
theorem JT{p0 p1 p2 p3 p4 p5 p6 p7 p8 p9:Prop}(iZ:p0)(kF:p1)(kW:p2)(lk:p3)(kX:p4)(mj:p5)(mE:p6)(nu:p7)(nH:p8)(n9:p9):p0∧p1∧p2∧p3∧p4∧p5∧p6∧p7∧p8∧p9∧True:=⟨iZ,kF,kW,lk,kX,mj,mE,nu,nH,n9,trivial⟩
theorem EK{p0 p1 p2 p3 p4 p5 p6 p7 p8 p9 jF:Prop}(iZ:p0)(kF:p1)(kW:p2)(lk:p3)(kX:p4)(mj:p5)(mE:p6)(nu:p7)(nH:p8)(n9:p9)(fU:jF):p0∧p1∧p2∧p3∧p4∧p5∧p6∧p7∧p8∧p9∧jF∧True:=⟨iZ,kF,kW,lk,kX,mj,mE,nu,nH,n9,fU,trivial⟩
theorem IF{p0 p1 p2 p3 p4 p5 p6 p7 p8 p9 jF jX:Prop}(iZ:p0)(kF:p1)(kW:p2)(lk:p3)(kX:p4)(mj:p5)(mE:p6)(nu:p7)(nH:p8)(n9:p9)(fU:jF)(gj:jX):p0∧p1∧p2∧p3∧p4∧p5∧p6∧p7∧p8∧p9∧jF∧jX∧True:=⟨iZ,kF,kW,lk,kX,mj,mE,nu,nH,n9,fU,gj,trivial⟩
theorem IG{p0 p1 p2 p3 p4 p5 p6 p7 p8 p9 jF jX kh:Prop}(iZ:p0)(kF:p1)(kW:p2)(lk:p3)(kX:p4)(mj:p5)(mE:p6)(nu:p7)(nH:p8)(n9:p9)(fU:jF)(gj:jX)(gA:kh):p0∧p1∧p2∧p3∧p4∧p5∧p6∧p7∧p8∧p9∧jF∧jX∧kh∧True:=⟨iZ,kF,kW,lk,kX,mj,mE,nu,nH,n9,fU,gj,gA,trivial⟩
theorem Nv{p0 p1 p2 p3 p4 p5 p6 p7 p8 p9 jF jX kh kP:Prop}(iZ:p0)(kF:p1)(kW:p2)(lk:p3)(kX:p4)(mj:p5)(mE:p6)(nu:p7)(nH:p8)(n9:p9)(fU:jF)(gj:jX)(gA:kh)(gQ:kP):p0∧p1∧p2∧p3∧p4∧p5∧p6∧p7∧p8∧p9∧jF∧jX∧kh∧kP∧True:=⟨iZ,kF,kW,lk,kX,mj,mE,nu,nH,n9,fU,gj,gA,gQ,trivial⟩
theorem Nx{p0 p1 p2 p3 p4 p5 p6 p7 p8 p9 jF jX kh kP lu:Prop}(iZ:p0)(kF:p1)(kW:p2)(lk:p3)(kX:p4)(mj:p5)(mE:p6)(nu:p7)(nH:p8)(n9:p9)(fU:jF)(gj:jX)(gA:kh)(gQ:kP)(ix:lu):p0∧p1∧p2∧p3∧p4∧p5∧p6∧p7∧p8∧p9∧jF∧jX∧kh∧kP∧lu∧True:=⟨iZ,kF,kW,lk,kX,mj,mE,nu,nH,n9,fU,gj,gA,gQ,ix,trivial⟩
theorem HM{p0 p1 p2 p3 p4 p5 p6 p7 p8 p9 jF jX kh kP lu l8:Prop}(iZ:p0)(kF:p1)(kW:p2)(lk:p3)(kX:p4)(mj:p5)(mE:p6)(nu:p7)(nH:p8)(n9:p9)(fU:jF)(gj:jX)(gA:kh)(gQ:kP)(ix:lu)(iN:l8):p0∧p1∧p2∧p3∧p4∧p5∧p6∧p7∧p8∧p9∧jF∧jX∧kh∧kP∧lu∧l8∧True:=⟨iZ,kF,kW,lk,kX,mj,mE,nu,nH,n9,fU,gj,gA,gQ,ix,iN,trivial⟩
theorem Ny{p0 p1 p2 p3 p4 p5 p6 p7 p8 p9 jF jX kh kP lu l8 mF:Prop}(iZ:p0)(kF:p1)(kW:p2)(lk:p3)(kX:p4)(mj:p5)(mE:p6)(nu:p7)(nH:p8)(n9:p9)(fU:jF)(gj:jX)(gA:kh)(gQ:kP)(ix:lu)(iN:l8)(jl:mF):p0∧p1∧p2∧p3∧p4∧p5∧p6∧p7∧p8∧p9∧jF∧jX∧kh∧kP∧lu∧l8∧mF∧True:=⟨iZ,kF,kW,lk,kX,mj,mE,nu,nH,n9,fU,gj,gA,gQ,ix,iN,jl,trivial⟩
theorem U3{p0 p1 p2 p3 p4 p5 p6 p7 p8 p9 jF jX kh kP lu l8 mF ny:Prop}(iZ:p0)(kF:p1)(kW:p2)(lk:p3)(kX:p4)(mj:p5)(mE:p6)(nu:p7)(nH:p8)(n9:p9)(fU:jF)(gj:jX)(gA:kh)(gQ:kP)(ix:lu)(iN:l8)(jl:mF)(jS:ny):p0∧p1∧p2∧p3∧p4∧p5∧p6∧p7∧p8∧p9∧jF∧jX∧kh∧kP∧lu∧l8∧mF∧ny∧True:=⟨iZ,kF,kW,lk,kX,mj,mE,nu,nH,n9,fU,gj,gA,gQ,ix,iN,jl,jS,trivial⟩
theorem YT{p0 p1 p2 p3 p4 p5 p6 p7 p8 p9 jF jX kh kP lu l8 mF ny oa:Prop}(iZ:p0)(kF:p1)(kW:p2)(lk:p3)(kX:p4)(mj:p5)(mE:p6)(nu:p7)(nH:p8)(n9:p9)(fU:jF)(gj:jX)(gA:kh)(gQ:kP)(ix:lu)(iN:l8)(jl:mF)(jS:ny)(ki:oa):p0∧p1∧p2∧p3∧p4∧p5∧p6∧p7∧p8∧p9∧jF∧jX∧kh∧kP∧lu∧l8∧mF∧ny∧oa∧True:=⟨iZ,kF,kW,lk,kX,mj,mE,nu,nH,n9,fU,gj,gA,gQ,ix,iN,jl,jS,ki,trivial⟩
theorem Pu{p0 p1 p2 p3 p4 p5 p6 p7 p8 p9 jF jX kh kP lu l8 mF ny oa oR:Prop}(iZ:p0)(kF:p1)(kW:p2)(lk:p3)(kX:p4)(mj:p5)(mE:p6)(nu:p7)(nH:p8)(n9:p9)(fU:jF)(gj:jX)(gA:kh)(gQ:kP)(ix:lu)(iN:l8)(jl:mF)(jS:ny)(ki:oa)(kY:oR):p0∧p1∧p2∧p3∧p4∧p5∧p6∧p7∧p8∧p9∧jF∧jX∧kh∧kP∧lu∧l8∧mF∧ny∧oa∧oR∧True:=⟨iZ,kF,kW,lk,kX,mj,mE,nu,nH,n9,fU,gj,gA,gQ,ix,iN,jl,jS,ki,kY,trivial⟩
theorem U4{p0 p1 p2 p3 p4 p5 p6 p7 p8 p9 jF jX kh kP lu l8 mF ny oa oR pM:Prop}(iZ:p0)(kF:p1)(kW:p2)(lk:p3)(kX:p4)(mj:p5)(mE:p6)(nu:p7)(nH:p8)(n9:p9)(fU:jF)(gj:jX)(gA:kh)(gQ:kP)(ix:lu)(iN:l8)(jl:mF)(jS:ny)(ki:oa)(kY:oR)(lS:pM):p0∧p1∧p2∧p3∧p4∧p5∧p6∧p7∧p8∧p9∧jF∧jX∧kh∧kP∧lu∧l8∧mF∧ny∧oa∧oR∧pM∧True:=⟨iZ,kF,kW,lk,kX,mj,mE,nu,nH,n9,fU,gj,gA,gQ,ix,iN,jl,jS,ki,kY,lS,trivial⟩
theorem y22{p0 p1 p2 p3 p4 p5 p6 p7 p8 p9 jF jX kh kP lu l8 mF ny oa oR pM qT:Prop}(iZ:p0)(kF:p1)(kW:p2)(lk:p3)(kX:p4)(mj:p5)(mE:p6)(nu:p7)(nH:p8)(n9:p9)(fU:jF)(gj:jX)(gA:kh)(gQ:kP)(ix:lu)(iN:l8)(jl:mF)(jS:ny)(ki:oa)(kY:oR)(lS:pM)(mG:qT):p0∧p1∧p2∧p3∧p4∧p5∧p6∧p7∧p8∧p9∧jF∧jX∧kh∧kP∧lu∧l8∧mF∧ny∧oa∧oR∧pM∧qT∧True:=⟨iZ,kF,kW,lk,kX,mj,mE,nu,nH,n9,fU,gj,gA,gQ,ix,iN,jl,jS,ki,kY,lS,mG,trivial⟩
theorem y23{p0 p1 p2 p3 p4 p5 p6 p7 p8 p9 jF jX kh kP lu l8 mF ny oa oR pM qT sk:Prop}(iZ:p0)(kF:p1)(kW:p2)(lk:p3)(kX:p4)(mj:p5)(mE:p6)(nu:p7)(nH:p8)(n9:p9)(fU:jF)(gj:jX)(gA:kh)(gQ:kP)(ix:lu)(iN:l8)(jl:mF)(jS:ny)(ki:oa)(kY:oR)(lS:pM)(mG:qT)(nI:sk):p0∧p1∧p2∧p3∧p4∧p5∧p6∧p7∧p8∧p9∧jF∧jX∧kh∧kP∧lu∧l8∧mF∧ny∧oa∧oR∧pM∧qT∧sk∧True:=⟨iZ,kF,kW,lk,kX,mj,mE,nu,nH,n9,fU,gj,gA,gQ,ix,iN,jl,jS,ki,kY,lS,mG,nI,trivial⟩
theorem Xx{p0 p1 p2 p3 p4 p5 p6 p7 p8 p9 jF jX kh kP lu l8 mF ny oa oR pM qT sk tM:Prop}(iZ:p0)(kF:p1)(kW:p2)(lk:p3)(kX:p4)(mj:p5)(mE:p6)(nu:p7)(nH:p8)(n9:p9)(fU:jF)(gj:jX)(gA:kh)(gQ:kP)(ix:lu)(iN:l8)(jl:mF)(jS:ny)(ki:oa)(kY:oR)(lS:pM)(mG:qT)(nI:sk)(oL:tM):p0∧p1∧p2∧p3∧p4∧p5∧p6∧p7∧p8∧p9∧jF∧jX∧kh∧kP∧lu∧l8∧mF∧ny∧oa∧oR∧pM∧qT∧sk∧tM∧True:=⟨iZ,kF,kW,lk,kX,mj,mE,nu,nH,n9,fU,gj,gA,gQ,ix,iN,jl,jS,ki,kY,lS,mG,nI,oL,trivial⟩
theorem y26{p0 p1 p2 p3 p4 p5 p6 p7 p8 p9 jF jX kh kP lu l8 mF ny oa oR pM qT sk tM uA uB:Prop}(iZ:p0)(kF:p1)(kW:p2)(lk:p3)(kX:p4)(mj:p5)(mE:p6)(nu:p7)(nH:p8)(n9:p9)(fU:jF)(gj:jX)(gA:kh)(gQ:kP)(ix:lu)(iN:l8)(jl:mF)(jS:ny)(ki:oa)(kY:oR)(lS:pM)(mG:qT)(nI:sk)(oL:tM)(pN:uA)(pO:uB):p0∧p1∧p2∧p3∧p4∧p5∧p6∧p7∧p8∧p9∧jF∧jX∧kh∧kP∧lu∧l8∧mF∧ny∧oa∧oR∧pM∧qT∧sk∧tM∧uA∧uB∧True:=⟨iZ,kF,kW,lk,kX,mj,mE,nu,nH,n9,fU,gj,gA,gQ,ix,iN,jl,jS,ki,kY,lS,mG,nI,oL,pN,pO,trivial⟩
theorem y27{p0 p1 p2 p3 p4 p5 p6 p7 p8 p9 jF jX kh kP lu l8 mF ny oa oR pM qT sk tM uA uB wA:Prop}(iZ:p0)(kF:p1)(kW:p2)(lk:p3)(kX:p4)(mj:p5)(mE:p6)(nu:p7)(nH:p8)(n9:p9)(fU:jF)(gj:jX)(gA:kh)(gQ:kP)(ix:lu)(iN:l8)(jl:mF)(jS:ny)(ki:oa)(kY:oR)(lS:pM)(mG:qT)(nI:sk)(oL:tM)(pN:uA)(pO:uB)(rP:wA):p0∧p1∧p2∧p3∧p4∧p5∧p6∧p7∧p8∧p9∧jF∧jX∧kh∧kP∧lu∧l8∧mF∧ny∧oa∧oR∧pM∧qT∧sk∧tM∧uA∧uB∧wA∧True:=⟨iZ,kF,kW,lk,kX,mj,mE,nu,nH,n9,fU,gj,gA,gQ,ix,iN,jl,jS,ki,kY,lS,mG,nI,oL,pN,pO,rP,trivial⟩
theorem y28{p0 p1 p2 p3 p4 p5 p6 p7 p8 p9 jF jX kh kP lu l8 mF ny oa oR pM qT sk tM uA uB wA yl:Prop}(iZ:p0)(kF:p1)(kW:p2)(lk:p3)(kX:p4)(mj:p5)(mE:p6)(nu:p7)(nH:p8)(n9:p9)(fU:jF)(gj:jX)(gA:kh)(gQ:kP)(ix:lu)(iN:l8)(jl:mF)(jS:ny)(ki:oa)(kY:oR)(lS:pM)(mG:qT)(nI:sk)(oL:tM)(pN:uA)(pO:uB)(rP:wA)(sZ:yl):p0∧p1∧p2∧p3∧p4∧p5∧p6∧p7∧p8∧p9∧jF∧jX∧kh∧kP∧lu∧l8∧mF∧ny∧oa∧oR∧pM∧qT∧sk∧tM∧uA∧uB∧wA∧yl∧True:=⟨iZ,kF,kW,lk,kX,mj,mE,nu,nH,n9,fU,gj,gA,gQ,ix,iN,jl,jS,ki,kY,lS,mG,nI,oL,pN,pO,rP,sZ,trivial⟩
theorem y29{p0 p1 p2 p3 p4 p5 p6 p7 p8 p9 jF jX kh kP lu l8 mF ny oa oR pM qT sk tM uA uB wA yl AX:Prop}(iZ:p0)(kF:p1)(kW:p2)(lk:p3)(kX:p4)(mj:p5)(mE:p6)(nu:p7)(nH:p8)(n9:p9)(fU:jF)(gj:jX)(gA:kh)(gQ:kP)(ix:lu)(iN:l8)(jl:mF)(jS:ny)(ki:oa)(kY:oR)(lS:pM)(mG:qT)(nI:sk)(oL:tM)(pN:uA)(pO:uB)(rP:wA)(sZ:yl)(uC:AX):p0∧p1∧p2∧p3∧p4∧p5∧p6∧p7∧p8∧p9∧jF∧jX∧kh∧kP∧lu∧l8∧mF∧ny∧oa∧oR∧pM∧qT∧sk∧tM∧uA∧uB∧wA∧yl∧AX∧True:=⟨iZ,kF,kW,lk,kX,mj,mE,nu,nH,n9,fU,gj,gA,gQ,ix,iN,jl,jS,ki,kY,lS,mG,nI,oL,pN,pO,rP,sZ,uC,trivial⟩
theorem YU{p0 p1 p2 p3 p4 p5 p6 p7 p8 p9 jF jX kh kP lu l8 mF ny oa oR pM qT sk tM uA uB wA yl AX Di:Prop}(iZ:p0)(kF:p1)(kW:p2)(lk:p3)(kX:p4)(mj:p5)(mE:p6)(nu:p7)(nH:p8)(n9:p9)(fU:jF)(gj:jX)(gA:kh)(gQ:kP)(ix:lu)(iN:l8)(jl:mF)(jS:ny)(ki:oa)(kY:oR)(lS:pM)(mG:qT)(nI:sk)(oL:tM)(pN:uA)(pO:uB)(rP:wA)(sZ:yl)(uC:AX)(xc:Di):p0∧p1∧p2∧p3∧p4∧p5∧p6∧p7∧p8∧p9∧jF∧jX∧kh∧kP∧lu∧l8∧mF∧ny∧oa∧oR∧pM∧qT∧sk∧tM∧uA∧uB∧wA∧yl∧AX∧Di∧True:=⟨iZ,kF,kW,lk,kX,mj,mE,nu,nH,n9,fU,gj,gA,gQ,ix,iN,jl,jS,ki,kY,lS,mG,nI,oL,pN,pO,rP,sZ,uC,xc,trivial⟩
theorem y31{p0 p1 p2 p3 p4 p5 p6 p7 p8 p9 jF jX kh kP lu l8 mF ny oa oR pM qT sk tM uA uB wA yl AX Di Fk:Prop}(iZ:p0)(kF:p1)(kW:p2)(lk:p3)(kX:p4)(mj:p5)(mE:p6)(nu:p7)(nH:p8)(n9:p9)(fU:jF)(gj:jX)(gA:kh)(gQ:kP)(ix:lu)(iN:l8)(jl:mF)(jS:ny)(ki:oa)(kY:oR)(lS:pM)(mG:qT)(nI:sk)(oL:tM)(pN:uA)(pO:uB)(rP:wA)(sZ:yl)(uC:AX)(xc:Di)(z7:Fk):p0∧p1∧p2∧p3∧p4∧p5∧p6∧p7∧p8∧p9∧jF∧jX∧kh∧kP∧lu∧l8∧mF∧ny∧oa∧oR∧pM∧qT∧sk∧tM∧uA∧uB∧wA∧yl∧AX∧Di∧Fk∧True:=⟨iZ,kF,kW,lk,kX,mj,mE,nu,nH,n9,fU,gj,gA,gQ,ix,iN,jl,jS,ki,kY,lS,mG,nI,oL,pN,pO,rP,sZ,uC,xc,z7,trivial⟩
theorem y35{p0 p1 p2 p3 p4 p5 p6 p7 p8 p9 jF jX kh kP lu l8 mF ny oa oR pM qT sk tM uA uB wA yl AX Di Fk IH II IJ IK:Prop}(iZ:p0)(kF:p1)(kW:p2)(lk:p3)(kX:p4)(mj:p5)(mE:p6)(nu:p7)(nH:p8)(n9:p9)(fU:jF)(gj:jX)(gA:kh)(gQ:kP)(ix:lu)(iN:l8)(jl:mF)(jS:ny)(ki:oa)(kY:oR)(lS:pM)(mG:qT)(nI:sk)(oL:tM)(pN:uA)(pO:uB)(rP:wA)(sZ:yl)(uC:AX)(xc:Di)(z7:Fk)(Dj:IH)(Dk:II)(Dl:IJ)(Dm:IK):p0∧p1∧p2∧p3∧p4∧p5∧p6∧p7∧p8∧p9∧jF∧jX∧kh∧kP∧lu∧l8∧mF∧ny∧oa∧oR∧pM∧qT∧sk∧tM∧uA∧uB∧wA∧yl∧AX∧Di∧Fk∧IH∧II∧IJ∧IK∧True:=⟨iZ,kF,kW,lk,kX,mj,mE,nu,nH,n9,fU,gj,gA,gQ,ix,iN,jl,jS,ki,kY,lS,mG,nI,oL,pN,pO,rP,sZ,uC,xc,z7,Dj,Dk,Dl,Dm,trivial⟩
theorem y36{p0 p1 p2 p3 p4 p5 p6 p7 p8 p9 jF jX kh kP lu l8 mF ny oa oR pM qT sk tM uA uB wA yl AX Di Fk IH II IJ IK L6:Prop}(iZ:p0)(kF:p1)(kW:p2)(lk:p3)(kX:p4)(mj:p5)(mE:p6)(nu:p7)(nH:p8)(n9:p9)(fU:jF)(gj:jX)(gA:kh)(gQ:kP)(ix:lu)(iN:l8)(jl:mF)(jS:ny)(ki:oa)(kY:oR)(lS:pM)(mG:qT)(nI:sk)(oL:tM)(pN:uA)(pO:uB)(rP:wA)(sZ:yl)(uC:AX)(xc:Di)(z7:Fk)(Dj:IH)(Dk:II)(Dl:IJ)(Dm:IK)(GA:L6):p0∧p1∧p2∧p3∧p4∧p5∧p6∧p7∧p8∧p9∧jF∧jX∧kh∧kP∧lu∧l8∧mF∧ny∧oa∧oR∧pM∧qT∧sk∧tM∧uA∧uB∧wA∧yl∧AX∧Di∧Fk∧IH∧II∧IJ∧IK∧L6∧True:=⟨iZ,kF,kW,lk,kX,mj,mE,nu,nH,n9,fU,gj,gA,gQ,ix,iN,jl,jS,ki,kY,lS,mG,nI,oL,pN,pO,rP,sZ,uC,xc,z7,Dj,Dk,Dl,Dm,GA,trivial⟩
theorem y37{p0 p1 p2 p3 p4 p5 p6 p7 p8 p9 jF jX kh kP lu l8 mF ny oa oR pM qT sk tM uA uB wA yl AX Di Fk IH II IJ IK L6 Pv:Prop}(iZ:p0)(kF:p1)(kW:p2)(lk:p3)(kX:p4)(mj:p5)(mE:p6)(nu:p7)(nH:p8)(n9:p9)(fU:jF)(gj:jX)(gA:kh)(gQ:kP)(ix:lu)(iN:l8)(jl:mF)(jS:ny)(ki:oa)(kY:oR)(lS:pM)(mG:qT)(nI:sk)(oL:tM)(pN:uA)(pO:uB)(rP:wA)(sZ:yl)(uC:AX)(xc:Di)(z7:Fk)(Dj:IH)(Dk:II)(Dl:IJ)(Dm:IK)(GA:L6)(KE:Pv):p0∧p1∧p2∧p3∧p4∧p5∧p6∧p7∧p8∧p9∧jF∧jX∧kh∧kP∧lu∧l8∧mF∧ny∧oa∧oR∧pM∧qT∧sk∧tM∧uA∧uB∧wA∧yl∧AX∧Di∧Fk∧IH∧II∧IJ∧IK∧L6∧Pv∧True:=⟨iZ,kF,kW,lk,kX,mj,mE,nu,nH,n9,fU,gj,gA,gQ,ix,iN,jl,jS,ki,kY,lS,mG,nI,oL,pN,pO,rP,sZ,uC,xc,z7,Dj,Dk,Dl,Dm,GA,KE,trivial⟩
theorem y38{p0 p1 p2 p3 p4 p5 p6 p7 p8 p9 jF jX kh kP lu l8 mF ny oa oR pM qT sk tM uA uB wA yl AX Di Fk IH II IJ IK L6 Pv Tz:Prop}(iZ:p0)(kF:p1)(kW:p2)(lk:p3)(kX:p4)(mj:p5)(mE:p6)(nu:p7)(nH:p8)(n9:p9)(fU:jF)(gj:jX)(gA:kh)(gQ:kP)(ix:lu)(iN:l8)(jl:mF)(jS:ny)(ki:oa)(kY:oR)(lS:pM)(mG:qT)(nI:sk)(oL:tM)(pN:uA)(pO:uB)(rP:wA)(sZ:yl)(uC:AX)(xc:Di)(z7:Fk)(Dj:IH)(Dk:II)(Dl:IJ)(Dm:IK)(GA:L6)(KE:Pv)(Pw:Tz):p0∧p1∧p2∧p3∧p4∧p5∧p6∧p7∧p8∧p9∧jF∧jX∧kh∧kP∧lu∧l8∧mF∧ny∧oa∧oR∧pM∧qT∧sk∧tM∧uA∧uB∧wA∧yl∧AX∧Di∧Fk∧IH∧II∧IJ∧IK∧L6∧Pv∧Tz∧True:=⟨iZ,kF,kW,lk,kX,mj,mE,nu,nH,n9,fU,gj,gA,gQ,ix,iN,jl,jS,ki,kY,lS,mG,nI,oL,pN,pO,rP,sZ,uC,xc,z7,Dj,Dk,Dl,Dm,GA,KE,Pw,trivial⟩
theorem y39{p0 p1 p2 p3 p4 p5 p6 p7 p8 p9 jF jX kh kP lu l8 mF ny oa oR pM qT sk tM uA uB wA yl AX Di Fk IH II IJ IK L6 Pv Tz Xy:Prop}(iZ:p0)(kF:p1)(kW:p2)(lk:p3)(kX:p4)(mj:p5)(mE:p6)(nu:p7)(nH:p8)(n9:p9)(fU:jF)(gj:jX)(gA:kh)(gQ:kP)(ix:lu)(iN:l8)(jl:mF)(jS:ny)(ki:oa)(kY:oR)(lS:pM)(mG:qT)(nI:sk)(oL:tM)(pN:uA)(pO:uB)(rP:wA)(sZ:yl)(uC:AX)(xc:Di)(z7:Fk)(Dj:IH)(Dk:II)(Dl:IJ)(Dm:IK)(GA:L6)(KE:Pv)(Pw:Tz)(U5:Xy):p0∧p1∧p2∧p3∧p4∧p5∧p6∧p7∧p8∧p9∧jF∧jX∧kh∧kP∧lu∧l8∧mF∧ny∧oa∧oR∧pM∧qT∧sk∧tM∧uA∧uB∧wA∧yl∧AX∧Di∧Fk∧IH∧II∧IJ∧IK∧L6∧Pv∧Tz∧Xy∧True:=⟨iZ,kF,kW,lk,kX,mj,mE,nu,nH,n9,fU,gj,gA,gQ,ix,iN,jl,jS,ki,kY,lS,mG,nI,oL,pN,pO,rP,sZ,uC,xc,z7,Dj,Dk,Dl,Dm,GA,KE,Pw,U5,trivial⟩
theorem y40{p0 p1 p2 p3 p4 p5 p6 p7 p8 p9 jF jX kh kP lu l8 mF ny oa oR pM qT sk tM uA uB wA yl AX Di Fk IH II IJ IK L6 Pv Tz Xy p39:Prop}(iZ:p0)(kF:p1)(kW:p2)(lk:p3)(kX:p4)(mj:p5)(mE:p6)(nu:p7)(nH:p8)(n9:p9)(fU:jF)(gj:jX)(gA:kh)(gQ:kP)(ix:lu)(iN:l8)(jl:mF)(jS:ny)(ki:oa)(kY:oR)(lS:pM)(mG:qT)(nI:sk)(oL:tM)(pN:uA)(pO:uB)(rP:wA)(sZ:yl)(uC:AX)(xc:Di)(z7:Fk)(Dj:IH)(Dk:II)(Dl:IJ)(Dm:IK)(GA:L6)(KE:Pv)(Pw:Tz)(U5:Xy)(aa3:p39):p0∧p1∧p2∧p3∧p4∧p5∧p6∧p7∧p8∧p9∧jF∧jX∧kh∧kP∧lu∧l8∧mF∧ny∧oa∧oR∧pM∧qT∧sk∧tM∧uA∧uB∧wA∧yl∧AX∧Di∧Fk∧IH∧II∧IJ∧IK∧L6∧Pv∧Tz∧Xy∧p39∧True:=⟨iZ,kF,kW,lk,kX,mj,mE,nu,nH,n9,fU,gj,gA,gQ,ix,iN,jl,jS,ki,kY,lS,mG,nI,oL,pN,pO,rP,sZ,uC,xc,z7,Dj,Dk,Dl,Dm,GA,KE,Pw,U5,aa3,trivial⟩
end Go.Proofs.YtcpnocgollpbhaaGreatDoor.Sym
