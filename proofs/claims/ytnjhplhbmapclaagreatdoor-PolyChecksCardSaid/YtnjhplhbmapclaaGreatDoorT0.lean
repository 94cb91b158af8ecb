/- Lemmas for the statements of this seat. -/
import Derived.Test.YtnjhplhbmapclaaGreatDoorWObs
import Derived.Test.YtnjhplhbmapclaaGreatDoorProg
namespace Go.Proofs.YtnjhplhbmapclaaGreatDoor.Sym
open Go
structure ae where
 neg:Bool
 num:List UInt32
 den:List UInt32
def ae.cells(x:ae):List PV:=[(vB x.neg),(aa x.num),(aa x.den)]
def ae.pv(x:ae):PV := .agg x.cells
theorem bq:Sz ae.cells 3:=fun _=>rfl
abbrev Jn:=List ae
abbrev ah(p:Jn):PV := .list (p.map ae.cells)
structure aj where
 neg:Bool
 bw:List UInt32
def aj.cells(x:aj):List PV:=[(vB x.neg),(aa x.bw)]
def aj.pv(x:aj):PV := .agg x.cells
@[reducible] noncomputable def bh:Program:=Tryz.prog
def uX:gi:=[(2,⟨.int .i64,1,8,false,[.int .i64 0],[]⟩),
 (3,⟨.int .i64,1,8,false,[.int .i64 0],[]⟩),
 (4,⟨.bool,1,1,false,[(vB false)],[]⟩),
 (5,⟨.int .u8,1,1,false,[.int .u8 0],[]⟩),
 (6,⟨.int .u8,1,1,false,[.int .u8 0],[]⟩),
 (7,⟨.struct [(0,1,false),(1,1,false),(2,1,false),(3,1,false)],4,24,true,[.int .i64 0,.int .i64 0,(vB false),.int .u8 0],[]⟩),
 (8,⟨.struct [(0,1,false),(1,1,false),(2,1,false),(3,1,false)],4,24,true,[.int .i64 0,.int .i64 0,(vB false),.int .u8 0],[]⟩),
 (9,⟨.str,1,16,false,[.str ByteArray.empty],[]⟩),
 (10,⟨.str,1,16,false,[.str ByteArray.empty],[]⟩),
 (11,⟨.str,1,16,false,[.str ByteArray.empty],[]⟩),
 (12,⟨.int .u64,1,8,false,[.int .u64 0],[]⟩),
 (13,⟨.struct [(0,1,false),(1,1,false)],2,24,true,[.str ByteArray.empty,.int .u64 0],[]⟩),
 (14,⟨.struct [(0,1,false),(1,1,false)],2,24,true,[.str ByteArray.empty,.int .u64 0],[]⟩),
 (20,⟨.iface,1,16,false,[.bD],[]⟩),
 (21,⟨.int .i32,1,4,false,[.int .i32 0],[]⟩),
 (22,⟨.slice 41,1,24,false,[.fX],[]⟩),
 (23,⟨.slice 41,1,24,false,[.fX],[]⟩),
 (26,⟨.iface,1,16,false,[.bD],[]⟩),
 (27,⟨.iface,1,16,false,[.bD],[]⟩),
 (38,⟨.slice 23,1,24,false,[.fX],[]⟩),
 (39,⟨.slice 43,1,24,false,[.fX],[]⟩),
 (40,⟨.struct [(0,1,false),(1,1,false),(2,1,false)],3,56,true,[(vB false),.fX,.fX],[]⟩),
 (41,⟨.struct [(0,1,false),(1,1,false),(2,1,false)],3,56,true,[(vB false),.fX,.fX],[]⟩),
 (43,⟨.int .u32,1,4,false,[.int .u32 0],[]⟩),
 (50,⟨.slice 9,1,24,false,[.fX],[]⟩),
 (55,⟨.int .i64,1,8,false,[.int .i64 0],[]⟩),
 (63,⟨.slice 3,1,24,false,[.fX],[]⟩),
 (67,⟨.slice 22,1,24,false,[.fX],[]⟩),
 (74,⟨.struct [(0,1,false),(1,1,false)],2,32,true,[(vB false),.fX],[]⟩),
 (75,⟨.struct [(0,1,false),(1,1,false)],2,32,true,[(vB false),.fX],[]⟩),
 (83,⟨.slice 5,1,24,false,[.fX],[]⟩),
 (106,⟨.int .u64,1,8,false,[.int .u64 0],[]⟩),
 (107,⟨.int .u64,1,8,false,[.int .u64 0],[]⟩),
 (153,⟨.int .u8,1,1,false,[.int .u8 0],[]⟩),
 (154,⟨.int .u8,1,1,false,[.int .u8 0],[]⟩),
 (156,⟨.int .i32,1,4,false,[.int .i32 0],[]⟩),
 (157,⟨.int .i32,1,4,false,[.int .i32 0],[]⟩)]
theorem rD:jh bh uX:=jh.of (by kernel_rfl)
theorem mixed:bh.follows .mixedOrders=true:=by kernel_rfl
abbrev Cp:=cb bh
abbrev Ws:=List UInt32
abbrev Rs:=List ae
abbrev TE.a:TE := .auto
abbrev TE.t:TE := .dec true
abbrev TE.f:TE := .dec false
abbrev TE.q:TE := .aI []
abbrev TE.h(n:Nat)(x:Hint):TE := .aI (List.replicate n .none++[x])
abbrev Hint.o:Hint := .none
section
variable {fn:Func} {K K':List dB} {s s':St} {r:PV} {sin sout:aD} {rx:EV} {f:FuncId} {args:List PV} {BG:List EV} {A:Prop}
theorem lG(n:Nat)(ns:List Nat)(tr:List TE)(hA:A)(h:L bh fn K' s' r)(ai:oJ ns (run bh uX fn n K s tr)=some (K',s',A):=by kernel_rfl):L bh fn K s r:=L.go mixed rD hA ai h
theorem lD(n:Nat)(ns:List Nat)(tr:List TE)(hA:A)(ai:wv ns (run bh uX fn n K s tr)=some (r,A):=by kernel_rfl):L bh fn K s r:=L.done mixed rD hA ai
theorem eG(hf:bh.funcs[f]? = some fn)(n:Nat)(ns:List Nat)(tr:List TE)(hA:A)(h:L bh fn K' s' r)(jX:zA fn (args.map EV.pv).length []=true:=by kernel_rfl)(ai:oJ ns (run bh uX fn n [.code (az fn)] ⟨gY 0 (args.map EV.pv),[]⟩ tr)=some (K',s',A):=by kernel_rfl):cb bh f args r:=cb.Iw hf jX (L.go mixed rD hA ai h)
theorem eD(hf:bh.funcs[f]? = some fn)(n:Nat)(ns:List Nat)(tr:List TE)(hA:A)(jX:zA fn (args.map EV.pv).length []=true:=by kernel_rfl)(ai:wv ns (run bh uX fn n [.code (az fn)] ⟨gY 0 (args.map EV.pv),[]⟩ tr)=some (r,A):=by kernel_rfl):cb bh f args r:=cb.Iw hf jX (L.done mixed rD hA ai)
theorem BH(n:Nat)(ns:List Nat)(tr:List TE)(hs:sin.all (fun p=>Nat.ble fn.ntmps p.1)=true)(hA:A)(h:LX bh fn K' s' sin rx sout)(ai:oJ ns (run bh uX fn n K s tr)=some (K',s',A):=by kernel_rfl):LX bh fn K s sin rx sout:=LX.go mixed rD hs hA ai h
theorem xe(n:Nat)(ns:List Nat)(tr:List TE)(hs:sin.all (fun p=>Nat.ble fn.ntmps p.1)=true)(hi:sin.all (fun p=>o5 p.1||(aD.get sout p.1).isSome)=true)(hA:A)(ai:vp ns [] (run bh uX fn n K s tr)=some (rx,sout,A):=by kernel_rfl):LX bh fn K s sin rx sout:=LX.Jh mixed rD hs hi hA ai
theorem Dl(hf:bh.funcs[f]? = some fn)(n:Nat)(ns:List Nat)(tr:List TE)(hA:A)(h:LX bh fn K' s' sin rx sout)(jX:zA fn BG.length sin=true:=by kernel_rfl)(hs:sin.all (fun p=>Nat.ble fn.ntmps p.1)=true:=by rfl)(ai:oJ ns (run bh uX fn n [.code (az fn)] ⟨gY 0 BG,sin⟩ tr)=some (K',s',A):=by kernel_rfl):aq bh f BG sin rx sout:=aq.Iw hf jX (LX.go mixed rD hs hA ai h)
theorem MN(hf:bh.funcs[f]? = some fn)(n:Nat)(ns:List Nat)(tr:List TE)(hA:A)(jX:zA fn BG.length sin=true:=by kernel_rfl)(hs:sin.all (fun p=>Nat.ble fn.ntmps p.1)=true:=by rfl)(ai:vp ns sin (run bh uX fn n [.code (az fn)] ⟨gY 0 BG,sin⟩ tr)=some (rx,sout,A):=by kernel_rfl):aq bh f BG sin rx sout:=aq.Iw hf jX (LX.done mixed rD hs hA ai)
end
theorem y1{p0:Prop}(fN:p0):p0∧True:=⟨fN,trivial⟩
theorem y2{p0 p1:Prop}(fN:p0)(ga:p1):p0∧p1∧True:=⟨fN,ga,trivial⟩
theorem y3{p0 p1 p2:Prop}(fN:p0)(ga:p1)(gw:p2):p0∧p1∧p2∧True:=⟨fN,ga,gw,trivial⟩
theorem y4{p0 p1 p2 p3:Prop}(fN:p0)(ga:p1)(gw:p2)(gN:p3):p0∧p1∧p2∧p3∧True:=⟨fN,ga,gw,gN,trivial⟩
theorem y5{p0 p1 p2 p3 p4:Prop}(fN:p0)(ga:p1)(gw:p2)(gN:p3)(gZ:p4):p0∧p1∧p2∧p3∧p4∧True:=⟨fN,ga,gw,gN,gZ,trivial⟩
theorem y6{p0 p1 p2 p3 p4 p5:Prop}(fN:p0)(ga:p1)(gw:p2)(gN:p3)(gZ:p4)(iu:p5):p0∧p1∧p2∧p3∧p4∧p5∧True:=⟨fN,ga,gw,gN,gZ,iu,trivial⟩
theorem y7{p0 p1 p2 p3 p4 p5 p6:Prop}(fN:p0)(ga:p1)(gw:p2)(gN:p3)(gZ:p4)(iu:p5)(iC:p6):p0∧p1∧p2∧p3∧p4∧p5∧p6∧True:=⟨fN,ga,gw,gN,gZ,iu,iC,trivial⟩
theorem y8{p0 p1 p2 p3 p4 p5 p6 p7:Prop}(fN:p0)(ga:p1)(gw:p2)(gN:p3)(gZ:p4)(iu:p5)(iC:p6)(iT:p7):p0∧p1∧p2∧p3∧p4∧p5∧p6∧p7∧True:=⟨fN,ga,gw,gN,gZ,iu,iC,iT,trivial⟩
theorem y9{p0 p1 p2 p3 p4 p5 p6 p7 p8:Prop}(fN:p0)(ga:p1)(gw:p2)(gN:p3)(gZ:p4)(iu:p5)(iC:p6)(iT:p7)(jr:p8):p0∧p1∧p2∧p3∧p4∧p5∧p6∧p7∧p8∧True:=⟨fN,ga,gw,gN,gZ,iu,iC,iT,jr,trivial⟩
theorem Eu{p0 p1 p2 p3 p4 p5 p6 p7 p8 p9:Prop}(fN:p0)(ga:p1)(gw:p2)(gN:p3)(gZ:p4)(iu:p5)(iC:p6)(iT:p7)(jr:p8)(jK:p9):p0∧p1∧p2∧p3∧p4∧p5∧p6∧p7∧p8∧p9∧True:=⟨fN,ga,gw,gN,gZ,iu,iC,iT,jr,jK,trivial⟩
theorem xZ{p0 p1 p2 p3 p4 p5 p6 p7 p8 p9 fc:Prop}(fN:p0)(ga:p1)(gw:p2)(gN:p3)(gZ:p4)(iu:p5)(iC:p6)(iT:p7)(jr:p8)(jK:p9)(dj:fc):p0∧p1∧p2∧p3∧p4∧p5∧p6∧p7∧p8∧p9∧fc∧True:=⟨fN,ga,gw,gN,gZ,iu,iC,iT,jr,jK,dj,trivial⟩
theorem Ev{p0 p1 p2 p3 p4 p5 p6 p7 p8 p9 fc fO:Prop}(fN:p0)(ga:p1)(gw:p2)(gN:p3)(gZ:p4)(iu:p5)(iC:p6)(iT:p7)(jr:p8)(jK:p9)(dj:fc)(dz:fO):p0∧p1∧p2∧p3∧p4∧p5∧p6∧p7∧p8∧p9∧fc∧fO∧True:=⟨fN,ga,gw,gN,gZ,iu,iC,iT,jr,jK,dj,dz,trivial⟩
theorem Ew{p0 p1 p2 p3 p4 p5 p6 p7 p8 p9 fc fO gb:Prop}(fN:p0)(ga:p1)(gw:p2)(gN:p3)(gZ:p4)(iu:p5)(iC:p6)(iT:p7)(jr:p8)(jK:p9)(dj:fc)(dz:fO)(dH:gb):p0∧p1∧p2∧p3∧p4∧p5∧p6∧p7∧p8∧p9∧fc∧fO∧gb∧True:=⟨fN,ga,gw,gN,gZ,iu,iC,iT,jr,jK,dj,dz,dH,trivial⟩
theorem Ff{p0 p1 p2 p3 p4 p5 p6 p7 p8 p9 fc fO gb gI:Prop}(fN:p0)(ga:p1)(gw:p2)(gN:p3)(gZ:p4)(iu:p5)(iC:p6)(iT:p7)(jr:p8)(jK:p9)(dj:fc)(dz:fO)(dH:gb)(dV:gI):p0∧p1∧p2∧p3∧p4∧p5∧p6∧p7∧p8∧p9∧fc∧fO∧gb∧gI∧True:=⟨fN,ga,gw,gN,gZ,iu,iC,iT,jr,jK,dj,dz,dH,dV,trivial⟩
theorem Ix{p0 p1 p2 p3 p4 p5 p6 p7 p8 p9 fc fO gb gI hE:Prop}(fN:p0)(ga:p1)(gw:p2)(gN:p3)(gZ:p4)(iu:p5)(iC:p6)(iT:p7)(jr:p8)(jK:p9)(dj:fc)(dz:fO)(dH:gb)(dV:gI)(eh:hE):p0∧p1∧p2∧p3∧p4∧p5∧p6∧p7∧p8∧p9∧fc∧fO∧gb∧gI∧hE∧True:=⟨fN,ga,gw,gN,gZ,iu,iC,iT,jr,jK,dj,dz,dH,dV,eh,trivial⟩
theorem Cg{p0 p1 p2 p3 p4 p5 p6 p7 p8 p9 fc fO gb gI hE iv:Prop}(fN:p0)(ga:p1)(gw:p2)(gN:p3)(gZ:p4)(iu:p5)(iC:p6)(iT:p7)(jr:p8)(jK:p9)(dj:fc)(dz:fO)(dH:gb)(dV:gI)(eh:hE)(eR:iv):p0∧p1∧p2∧p3∧p4∧p5∧p6∧p7∧p8∧p9∧fc∧fO∧gb∧gI∧hE∧iv∧True:=⟨fN,ga,gw,gN,gZ,iu,iC,iT,jr,jK,dj,dz,dH,dV,eh,eR,trivial⟩
theorem Jo{p0 p1 p2 p3 p4 p5 p6 p7 p8 p9 fc fO gb gI hE iv iV:Prop}(fN:p0)(ga:p1)(gw:p2)(gN:p3)(gZ:p4)(iu:p5)(iC:p6)(iT:p7)(jr:p8)(jK:p9)(dj:fc)(dz:fO)(dH:gb)(dV:gI)(eh:hE)(eR:iv)(fe:iV):p0∧p1∧p2∧p3∧p4∧p5∧p6∧p7∧p8∧p9∧fc∧fO∧gb∧gI∧hE∧iv∧iV∧True:=⟨fN,ga,gw,gN,gZ,iu,iC,iT,jr,jK,dj,dz,dH,dV,eh,eR,fe,trivial⟩
theorem Lq{p0 p1 p2 p3 p4 p5 p6 p7 p8 p9 fc fO gb gI hE iv iV jy:Prop}(fN:p0)(ga:p1)(gw:p2)(gN:p3)(gZ:p4)(iu:p5)(iC:p6)(iT:p7)(jr:p8)(jK:p9)(dj:fc)(dz:fO)(dH:gb)(dV:gI)(eh:hE)(eR:iv)(fe:iV)(fT:jy):p0∧p1∧p2∧p3∧p4∧p5∧p6∧p7∧p8∧p9∧fc∧fO∧gb∧gI∧hE∧iv∧iV∧jy∧True:=⟨fN,ga,gw,gN,gZ,iu,iC,iT,jr,jK,dj,dz,dH,dV,eh,eR,fe,fT,trivial⟩
theorem Oj{p0 p1 p2 p3 p4 p5 p6 p7 p8 p9 fc fO gb gI hE iv iV jy j5:Prop}(fN:p0)(ga:p1)(gw:p2)(gN:p3)(gZ:p4)(iu:p5)(iC:p6)(iT:p7)(jr:p8)(jK:p9)(dj:fc)(dz:fO)(dH:gb)(dV:gI)(eh:hE)(eR:iv)(fe:iV)(fT:jy)(gx:j5):p0∧p1∧p2∧p3∧p4∧p5∧p6∧p7∧p8∧p9∧fc∧fO∧gb∧gI∧hE∧iv∧iV∧jy∧j5∧True:=⟨fN,ga,gw,gN,gZ,iu,iC,iT,jr,jK,dj,dz,dH,dV,eh,eR,fe,fT,gx,trivial⟩
theorem Lr{p0 p1 p2 p3 p4 p5 p6 p7 p8 p9 fc fO gb gI hE iv iV jy j5 kF:Prop}(fN:p0)(ga:p1)(gw:p2)(gN:p3)(gZ:p4)(iu:p5)(iC:p6)(iT:p7)(jr:p8)(jK:p9)(dj:fc)(dz:fO)(dH:gb)(dV:gI)(eh:hE)(eR:iv)(fe:iV)(fT:jy)(gx:j5)(hJ:kF):p0∧p1∧p2∧p3∧p4∧p5∧p6∧p7∧p8∧p9∧fc∧fO∧gb∧gI∧hE∧iv∧iV∧jy∧j5∧kF∧True:=⟨fN,ga,gw,gN,gZ,iu,iC,iT,jr,jK,dj,dz,dH,dV,eh,eR,fe,fT,gx,hJ,trivial⟩
theorem MO{p0 p1 p2 p3 p4 p5 p6 p7 p8 p9 fc fO gb gI hE iv iV jy j5 kF lu:Prop}(fN:p0)(ga:p1)(gw:p2)(gN:p3)(gZ:p4)(iu:p5)(iC:p6)(iT:p7)(jr:p8)(jK:p9)(dj:fc)(dz:fO)(dH:gb)(dV:gI)(eh:hE)(eR:iv)(fe:iV)(fT:jy)(gx:j5)(hJ:kF)(iD:lu):p0∧p1∧p2∧p3∧p4∧p5∧p6∧p7∧p8∧p9∧fc∧fO∧gb∧gI∧hE∧iv∧iV∧jy∧j5∧kF∧lu∧True:=⟨fN,ga,gw,gN,gZ,iu,iC,iT,jr,jK,dj,dz,dH,dV,eh,eR,fe,fT,gx,hJ,iD,trivial⟩
theorem MP{p0 p1 p2 p3 p4 p5 p6 p7 p8 p9 fc fO gb gI hE iv iV jy j5 kF lu mC:Prop}(fN:p0)(ga:p1)(gw:p2)(gN:p3)(gZ:p4)(iu:p5)(iC:p6)(iT:p7)(jr:p8)(jK:p9)(dj:fc)(dz:fO)(dH:gb)(dV:gI)(eh:hE)(eR:iv)(fe:iV)(fT:jy)(gx:j5)(hJ:kF)(iD:lu)(js:mC):p0∧p1∧p2∧p3∧p4∧p5∧p6∧p7∧p8∧p9∧fc∧fO∧gb∧gI∧hE∧iv∧iV∧jy∧j5∧kF∧lu∧mC∧True:=⟨fN,ga,gw,gN,gZ,iu,iC,iT,jr,jK,dj,dz,dH,dV,eh,eR,fe,fT,gx,hJ,iD,js,trivial⟩
theorem MQ{p0 p1 p2 p3 p4 p5 p6 p7 p8 p9 fc fO gb gI hE iv iV jy j5 kF lu mC nh:Prop}(fN:p0)(ga:p1)(gw:p2)(gN:p3)(gZ:p4)(iu:p5)(iC:p6)(iT:p7)(jr:p8)(jK:p9)(dj:fc)(dz:fO)(dH:gb)(dV:gI)(eh:hE)(eR:iv)(fe:iV)(fT:jy)(gx:j5)(hJ:kF)(iD:lu)(js:mC)(j6:nh):p0∧p1∧p2∧p3∧p4∧p5∧p6∧p7∧p8∧p9∧fc∧fO∧gb∧gI∧hE∧iv∧iV∧jy∧j5∧kF∧lu∧mC∧nh∧True:=⟨fN,ga,gw,gN,gZ,iu,iC,iT,jr,jK,dj,dz,dH,dV,eh,eR,fe,fT,gx,hJ,iD,js,j6,trivial⟩
theorem MR{p0 p1 p2 p3 p4 p5 p6 p7 p8 p9 fc fO gb gI hE iv iV jy j5 kF lu mC nh oo:Prop}(fN:p0)(ga:p1)(gw:p2)(gN:p3)(gZ:p4)(iu:p5)(iC:p6)(iT:p7)(jr:p8)(jK:p9)(dj:fc)(dz:fO)(dH:gb)(dV:gI)(eh:hE)(eR:iv)(fe:iV)(fT:jy)(gx:j5)(hJ:kF)(iD:lu)(js:mC)(j6:nh)(k5:oo):p0∧p1∧p2∧p3∧p4∧p5∧p6∧p7∧p8∧p9∧fc∧fO∧gb∧gI∧hE∧iv∧iV∧jy∧j5∧kF∧lu∧mC∧nh∧oo∧True:=⟨fN,ga,gw,gN,gZ,iu,iC,iT,jr,jK,dj,dz,dH,dV,eh,eR,fe,fT,gx,hJ,iD,js,j6,k5,trivial⟩
theorem Ok{p0 p1 p2 p3 p4 p5 p6 p7 p8 p9 fc fO gb gI hE iv iV jy j5 kF lu mC nh oo pK pL:Prop}(fN:p0)(ga:p1)(gw:p2)(gN:p3)(gZ:p4)(iu:p5)(iC:p6)(iT:p7)(jr:p8)(jK:p9)(dj:fc)(dz:fO)(dH:gb)(dV:gI)(eh:hE)(eR:iv)(fe:iV)(fT:jy)(gx:j5)(hJ:kF)(iD:lu)(js:mC)(j6:nh)(k5:oo)(l4:pK)(l5:pL):p0∧p1∧p2∧p3∧p4∧p5∧p6∧p7∧p8∧p9∧fc∧fO∧gb∧gI∧hE∧iv∧iV∧jy∧j5∧kF∧lu∧mC∧nh∧oo∧pK∧pL∧True:=⟨fN,ga,gw,gN,gZ,iu,iC,iT,jr,jK,dj,dz,dH,dV,eh,eR,fe,fT,gx,hJ,iD,js,j6,k5,l4,l5,trivial⟩
theorem Ol{p0 p1 p2 p3 p4 p5 p6 p7 p8 p9 fc fO gb gI hE iv iV jy j5 kF lu mC nh oo pK pL rE:Prop}(fN:p0)(ga:p1)(gw:p2)(gN:p3)(gZ:p4)(iu:p5)(iC:p6)(iT:p7)(jr:p8)(jK:p9)(dj:fc)(dz:fO)(dH:gb)(dV:gI)(eh:hE)(eR:iv)(fe:iV)(fT:jy)(gx:j5)(hJ:kF)(iD:lu)(js:mC)(j6:nh)(k5:oo)(l4:pK)(l5:pL)(ni:rE):p0∧p1∧p2∧p3∧p4∧p5∧p6∧p7∧p8∧p9∧fc∧fO∧gb∧gI∧hE∧iv∧iV∧jy∧j5∧kF∧lu∧mC∧nh∧oo∧pK∧pL∧rE∧True:=⟨fN,ga,gw,gN,gZ,iu,iC,iT,jr,jK,dj,dz,dH,dV,eh,eR,fe,fT,gx,hJ,iD,js,j6,k5,l4,l5,ni,trivial⟩
theorem Om{p0 p1 p2 p3 p4 p5 p6 p7 p8 p9 fc fO gb gI hE iv iV jy j5 kF lu mC nh oo pK pL rE tP tQ tR:Prop}(fN:p0)(ga:p1)(gw:p2)(gN:p3)(gZ:p4)(iu:p5)(iC:p6)(iT:p7)(jr:p8)(jK:p9)(dj:fc)(dz:fO)(dH:gb)(dV:gI)(eh:hE)(eR:iv)(fe:iV)(fT:jy)(gx:j5)(hJ:kF)(iD:lu)(js:mC)(j6:nh)(k5:oo)(l4:pK)(l5:pL)(ni:rE)(oM:tP)(oN:tQ)(oO:tR):p0∧p1∧p2∧p3∧p4∧p5∧p6∧p7∧p8∧p9∧fc∧fO∧gb∧gI∧hE∧iv∧iV∧jy∧j5∧kF∧lu∧mC∧nh∧oo∧pK∧pL∧rE∧tP∧tQ∧tR∧True:=⟨fN,ga,gw,gN,gZ,iu,iC,iT,jr,jK,dj,dz,dH,dV,eh,eR,fe,fT,gx,hJ,iD,js,j6,k5,l4,l5,ni,oM,oN,oO,trivial⟩
theorem On{p0 p1 p2 p3 p4 p5 p6 p7 p8 p9 fc fO gb gI hE iv iV jy j5 kF lu mC nh oo pK pL rE tP tQ tR vq:Prop}(fN:p0)(ga:p1)(gw:p2)(gN:p3)(gZ:p4)(iu:p5)(iC:p6)(iT:p7)(jr:p8)(jK:p9)(dj:fc)(dz:fO)(dH:gb)(dV:gI)(eh:hE)(eR:iv)(fe:iV)(fT:jy)(gx:j5)(hJ:kF)(iD:lu)(js:mC)(j6:nh)(k5:oo)(l4:pK)(l5:pL)(ni:rE)(oM:tP)(oN:tQ)(oO:tR)(qV:vq):p0∧p1∧p2∧p3∧p4∧p5∧p6∧p7∧p8∧p9∧fc∧fO∧gb∧gI∧hE∧iv∧iV∧jy∧j5∧kF∧lu∧mC∧nh∧oo∧pK∧pL∧rE∧tP∧tQ∧tR∧vq∧True:=⟨fN,ga,gw,gN,gZ,iu,iC,iT,jr,jK,dj,dz,dH,dV,eh,eR,fe,fT,gx,hJ,iD,js,j6,k5,l4,l5,ni,oM,oN,oO,qV,trivial⟩
theorem Oo{p0 p1 p2 p3 p4 p5 p6 p7 p8 p9 fc fO gb gI hE iv iV jy j5 kF lu mC nh oo pK pL rE tP tQ tR vq x3 x4 x5 x6:Prop}(fN:p0)(ga:p1)(gw:p2)(gN:p3)(gZ:p4)(iu:p5)(iC:p6)(iT:p7)(jr:p8)(jK:p9)(dj:fc)(dz:fO)(dH:gb)(dV:gI)(eh:hE)(eR:iv)(fe:iV)(fT:jy)(gx:j5)(hJ:kF)(iD:lu)(js:mC)(j6:nh)(k5:oo)(l4:pK)(l5:pL)(ni:rE)(oM:tP)(oN:tQ)(oO:tR)(qV:vq)(tS:x3)(tT:x4)(tU:x5)(tV:x6):p0∧p1∧p2∧p3∧p4∧p5∧p6∧p7∧p8∧p9∧fc∧fO∧gb∧gI∧hE∧iv∧iV∧jy∧j5∧kF∧lu∧mC∧nh∧oo∧pK∧pL∧rE∧tP∧tQ∧tR∧vq∧x3∧x4∧x5∧x6∧True:=⟨fN,ga,gw,gN,gZ,iu,iC,iT,jr,jK,dj,dz,dH,dV,eh,eR,fe,fT,gx,hJ,iD,js,j6,k5,l4,l5,ni,oM,oN,oO,qV,tS,tT,tU,tV,trivial⟩
theorem Oq{p0 p1 p2 p3 p4 p5 p6 p7 p8 p9 fc fO gb gI hE iv iV jy j5 kF lu mC nh oo pK pL rE tP tQ tR vq x3 x4 x5 x6 AQ:Prop}(fN:p0)(ga:p1)(gw:p2)(gN:p3)(gZ:p4)(iu:p5)(iC:p6)(iT:p7)(jr:p8)(jK:p9)(dj:fc)(dz:fO)(dH:gb)(dV:gI)(eh:hE)(eR:iv)(fe:iV)(fT:jy)(gx:j5)(hJ:kF)(iD:lu)(js:mC)(j6:nh)(k5:oo)(l4:pK)(l5:pL)(ni:rE)(oM:tP)(oN:tQ)(oO:tR)(qV:vq)(tS:x3)(tT:x4)(tU:x5)(tV:x6)(wC:AQ):p0∧p1∧p2∧p3∧p4∧p5∧p6∧p7∧p8∧p9∧fc∧fO∧gb∧gI∧hE∧iv∧iV∧jy∧j5∧kF∧lu∧mC∧nh∧oo∧pK∧pL∧rE∧tP∧tQ∧tR∧vq∧x3∧x4∧x5∧x6∧AQ∧True:=⟨fN,ga,gw,gN,gZ,iu,iC,iT,jr,jK,dj,dz,dH,dV,eh,eR,fe,fT,gx,hJ,iD,js,j6,k5,l4,l5,ni,oM,oN,oO,qV,tS,tT,tU,tV,wC,trivial⟩
theorem MS{p0 p1 p2 p3 p4 p5 p6 p7 p8 p9 fc fO gb gI hE iv iV jy j5 kF lu mC nh oo pK pL rE tP tQ tR vq x3 x4 x5 x6 AQ Dm:Prop}(fN:p0)(ga:p1)(gw:p2)(gN:p3)(gZ:p4)(iu:p5)(iC:p6)(iT:p7)(jr:p8)(jK:p9)(dj:fc)(dz:fO)(dH:gb)(dV:gI)(eh:hE)(eR:iv)(fe:iV)(fT:jy)(gx:j5)(hJ:kF)(iD:lu)(js:mC)(j6:nh)(k5:oo)(l4:pK)(l5:pL)(ni:rE)(oM:tP)(oN:tQ)(oO:tR)(qV:vq)(tS:x3)(tT:x4)(tU:x5)(tV:x6)(wC:AQ)(zD:Dm):p0∧p1∧p2∧p3∧p4∧p5∧p6∧p7∧p8∧p9∧fc∧fO∧gb∧gI∧hE∧iv∧iV∧jy∧j5∧kF∧lu∧mC∧nh∧oo∧pK∧pL∧rE∧tP∧tQ∧tR∧vq∧x3∧x4∧x5∧x6∧AQ∧Dm∧True:=⟨fN,ga,gw,gN,gZ,iu,iC,iT,jr,jK,dj,dz,dH,dV,eh,eR,fe,fT,gx,hJ,iD,js,j6,k5,l4,l5,ni,oM,oN,oO,qV,tS,tT,tU,tV,wC,zD,trivial⟩
theorem Ot{p0 p1 p2 p3 p4 p5 p6 p7 p8 p9 fc fO gb gI hE iv iV jy j5 kF lu mC nh oo pK pL rE tP tQ tR vq x3 x4 x5 x6 AQ Dm Gg:Prop}(fN:p0)(ga:p1)(gw:p2)(gN:p3)(gZ:p4)(iu:p5)(iC:p6)(iT:p7)(jr:p8)(jK:p9)(dj:fc)(dz:fO)(dH:gb)(dV:gI)(eh:hE)(eR:iv)(fe:iV)(fT:jy)(gx:j5)(hJ:kF)(iD:lu)(js:mC)(j6:nh)(k5:oo)(l4:pK)(l5:pL)(ni:rE)(oM:tP)(oN:tQ)(oO:tR)(qV:vq)(tS:x3)(tT:x4)(tU:x5)(tV:x6)(wC:AQ)(zD:Dm)(Dn:Gg):p0∧p1∧p2∧p3∧p4∧p5∧p6∧p7∧p8∧p9∧fc∧fO∧gb∧gI∧hE∧iv∧iV∧jy∧j5∧kF∧lu∧mC∧nh∧oo∧pK∧pL∧rE∧tP∧tQ∧tR∧vq∧x3∧x4∧x5∧x6∧AQ∧Dm∧Gg∧True:=⟨fN,ga,gw,gN,gZ,iu,iC,iT,jr,jK,dj,dz,dH,dV,eh,eR,fe,fT,gx,hJ,iD,js,j6,k5,l4,l5,ni,oM,oN,oO,qV,tS,tT,tU,tV,wC,zD,Dn,trivial⟩
theorem Ou{p0 p1 p2 p3 p4 p5 p6 p7 p8 p9 fc fO gb gI hE iv iV jy j5 kF lu mC nh oo pK pL rE tP tQ tR vq x3 x4 x5 x6 AQ Dm Gg Jp:Prop}(fN:p0)(ga:p1)(gw:p2)(gN:p3)(gZ:p4)(iu:p5)(iC:p6)(iT:p7)(jr:p8)(jK:p9)(dj:fc)(dz:fO)(dH:gb)(dV:gI)(eh:hE)(eR:iv)(fe:iV)(fT:jy)(gx:j5)(hJ:kF)(iD:lu)(js:mC)(j6:nh)(k5:oo)(l4:pK)(l5:pL)(ni:rE)(oM:tP)(oN:tQ)(oO:tR)(qV:vq)(tS:x3)(tT:x4)(tU:x5)(tV:x6)(wC:AQ)(zD:Dm)(Dn:Gg)(Hj:Jp):p0∧p1∧p2∧p3∧p4∧p5∧p6∧p7∧p8∧p9∧fc∧fO∧gb∧gI∧hE∧iv∧iV∧jy∧j5∧kF∧lu∧mC∧nh∧oo∧pK∧pL∧rE∧tP∧tQ∧tR∧vq∧x3∧x4∧x5∧x6∧AQ∧Dm∧Gg∧Jp∧True:=⟨fN,ga,gw,gN,gZ,iu,iC,iT,jr,jK,dj,dz,dH,dV,eh,eR,fe,fT,gx,hJ,iD,js,j6,k5,l4,l5,ni,oM,oN,oO,qV,tS,tT,tU,tV,wC,zD,Dn,Hj,trivial⟩
theorem MT{p0 p1 p2 p3 p4 p5 p6 p7 p8 p9 fc fO gb gI hE iv iV jy j5 kF lu mC nh oo pK pL rE tP tQ tR vq x3 x4 x5 x6 AQ Dm Gg Jp MU:Prop}(fN:p0)(ga:p1)(gw:p2)(gN:p3)(gZ:p4)(iu:p5)(iC:p6)(iT:p7)(jr:p8)(jK:p9)(dj:fc)(dz:fO)(dH:gb)(dV:gI)(eh:hE)(eR:iv)(fe:iV)(fT:jy)(gx:j5)(hJ:kF)(iD:lu)(js:mC)(j6:nh)(k5:oo)(l4:pK)(l5:pL)(ni:rE)(oM:tP)(oN:tQ)(oO:tR)(qV:vq)(tS:x3)(tT:x4)(tU:x5)(tV:x6)(wC:AQ)(zD:Dm)(Dn:Gg)(Hj:Jp)(Ls:MU):p0∧p1∧p2∧p3∧p4∧p5∧p6∧p7∧p8∧p9∧fc∧fO∧gb∧gI∧hE∧iv∧iV∧jy∧j5∧kF∧lu∧mC∧nh∧oo∧pK∧pL∧rE∧tP∧tQ∧tR∧vq∧x3∧x4∧x5∧x6∧AQ∧Dm∧Gg∧Jp∧MU∧True:=⟨fN,ga,gw,gN,gZ,iu,iC,iT,jr,jK,dj,dz,dH,dV,eh,eR,fe,fT,gx,hJ,iD,js,j6,k5,l4,l5,ni,oM,oN,oO,qV,tS,tT,tU,tV,wC,zD,Dn,Hj,Ls,trivial⟩
end Go.Proofs.YtnjhplhbmapclaaGreatDoor.Sym
