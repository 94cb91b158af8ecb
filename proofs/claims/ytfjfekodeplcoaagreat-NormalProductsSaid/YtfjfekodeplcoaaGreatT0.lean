/- Lemmas for the statements of this seat. -/
import Derived.Test.YtfjfekodeplcoaaGreatWObs
import Derived.Test.YtfjfekodeplcoaaGreatProg
namespace Go.Proofs.YtfjfekodeplcoaaGreat.Sym
open Go
structure aK where
 neg:Bool
 num:List UInt32
 den:List UInt32
def aK.cells(x:aK):List PV:=[(vB x.neg),(aa x.num),(aa x.den)]
def aK.pv(x:aK):PV := .agg x.cells
theorem u4:Sz aK.cells 3:=fun _=>rfl
abbrev PH:=List aK
abbrev bD(p:PH):PV := .list (p.map aK.cells)
structure ai where
 name:ByteArray
 x:aK
 y:aK
def ai.cells(x:ai):List PV:=[(.str x.name),(vB x.x.neg),(aa x.x.num),(aa x.x.den),(vB x.y.neg),(aa x.y.num),(aa x.y.den)]
def ai.pv(x:ai):PV := .agg x.cells
theorem fm:Sz ai.cells 7:=fun _=>rfl
structure ah where
 name:ByteArray
 points:List ai
def ah.cells(x:ah):List PV:=[(.str x.name),(bG ai.cells x.points)]
def ah.pv(x:ah):PV := .agg x.cells
theorem nU:Sz ah.cells 2:=fun _=>rfl
structure ak where
 name:ByteArray
 kind:Int
 a:Int
 dx:Int
 b:Int
 ou:Int
 mR:Int
def ak.cells(x:ak):List PV:=[(.str x.name),(vI x.kind),(vI x.a),(vI x.dx),(vI x.b),(vI x.ou),(vI x.mR)]
def ak.pv(x:ak):PV := .agg x.cells
theorem fX:Sz ak.cells 7:=fun _=>rfl
structure ag where
 name:ByteArray
 body:Int
def ag.cells(x:ag):List PV:=[(.str x.name),(vI x.body)]
def ag.pv(x:ag):PV := .agg x.cells
theorem dw:Sz ag.cells 2:=fun _=>rfl
structure aj where
 name:ByteArray
 ab:List ah
 aq:List ak
 an:List ag
def aj.cells(x:aj):List PV:=[(.str x.name),(bG ah.cells x.ab),(bG ak.cells x.aq),(bG ag.cells x.an)]
def aj.pv(x:aj):PV := .agg x.cells
structure aC where
 neg:Bool
 cP:List UInt32
def aC.cells(x:aC):List PV:=[(vB x.neg),(aa x.cP)]
def aC.pv(x:aC):PV := .agg x.cells
@[reducible] noncomputable def bp:Program:=Tryz.prog
def mr:ja:=[(2,⟨.int .i64,1,8,false,[.int .i64 0],[]⟩),
 (3,⟨.int .i64,1,8,false,[.int .i64 0],[]⟩),
 (4,⟨.bool,1,1,false,[(vB false)],[]⟩),
 (5,⟨.int .u8,1,1,false,[.int .u8 0],[]⟩),
 (6,⟨.int .u8,1,1,false,[.int .u8 0],[]⟩),
 (7,⟨.struct [(0,1,false),(1,1,false),(2,1,false),(3,1,false)],4,24,true,[.int .i64 0,.int .i64 0,(vB false),.int .u8 0],[]⟩),
 (8,⟨.struct [(0,1,false),(1,1,false),(2,1,false),(3,1,false)],4,24,true,[.int .i64 0,.int .i64 0,(vB false),.int .u8 0],[]⟩),
 (9,⟨.str,1,16,false,[.str ByteArray.empty],[]⟩),
 (10,⟨.str,1,16,false,[.str ByteArray.empty],[]⟩),
 (11,⟨.str,1,16,false,[.str ByteArray.empty],[]⟩),
 (12,⟨.int .u64,1,8,false,[.int .u64 0],[]⟩),
 (13,⟨.struct [(0,1,false),(1,1,false)],2,24,true,[.str ByteArray.empty,.int .u64 0],[]⟩),
 (14,⟨.struct [(0,1,false),(1,1,false)],2,24,true,[.str ByteArray.empty,.int .u64 0],[]⟩),
 (20,⟨.iface,1,16,false,[.cd],[]⟩),
 (21,⟨.int .i32,1,4,false,[.int .i32 0],[]⟩),
 (22,⟨.slice 63,1,24,false,[.fa],[]⟩),
 (23,⟨.slice 65,1,24,false,[.fa],[]⟩),
 (24,⟨.slice 67,1,24,false,[.fa],[]⟩),
 (25,⟨.struct [(0,1,false),(1,1,false),(2,1,false),(3,1,false)],4,88,true,[.str ByteArray.empty,.fa,.fa,.fa],[]⟩),
 (26,⟨.struct [(0,1,false),(1,1,false),(2,1,false),(3,1,false)],4,88,true,[.str ByteArray.empty,.fa,.fa,.fa],[]⟩),
 (27,⟨.slice 115,1,24,false,[.fa],[]⟩),
 (28,⟨.struct [(0,1,false),(1,1,false),(2,1,false)],3,56,true,[(vB false),.fa,.fa],[]⟩),
 (29,⟨.struct [(0,1,false),(1,1,false),(2,1,false)],3,56,true,[(vB false),.fa,.fa],[]⟩),
 (32,⟨.iface,1,16,false,[.cd],[]⟩),
 (33,⟨.iface,1,16,false,[.cd],[]⟩),
 (36,⟨.slice 29,1,24,false,[.fa],[]⟩),
 (60,⟨.slice 3,1,24,false,[.fa],[]⟩),
 (61,⟨.slice 73,1,24,false,[.fa],[]⟩),
 (62,⟨.struct [(0,1,false),(1,1,false)],2,40,true,[.str ByteArray.empty,.fa],[]⟩),
 (63,⟨.struct [(0,1,false),(1,1,false)],2,40,true,[.str ByteArray.empty,.fa],[]⟩),
 (64,⟨.struct [(0,1,false),(1,1,false),(2,1,false),(3,1,false),(4,1,false),(5,1,false),(6,1,false)],7,64,true,[.str ByteArray.empty,.int .i64 0,.int .i64 0,.int .i64 0,.int .i64 0,.int .i64 0,.int .i64 0],[]⟩),
 (65,⟨.struct [(0,1,false),(1,1,false),(2,1,false),(3,1,false),(4,1,false),(5,1,false),(6,1,false)],7,64,true,[.str ByteArray.empty,.int .i64 0,.int .i64 0,.int .i64 0,.int .i64 0,.int .i64 0,.int .i64 0],[.str,.int .i64,.int .i64,.int .i64,.int .i64,.int .i64,.int .i64]⟩),
 (66,⟨.struct [(0,1,false),(1,1,false)],2,24,true,[.str ByteArray.empty,.int .i64 0],[]⟩),
 (67,⟨.struct [(0,1,false),(1,1,false)],2,24,true,[.str ByteArray.empty,.int .i64 0],[.str,.int .i64]⟩),
 (72,⟨.struct [(0,1,false),(1,3,true),(4,3,true)],7,128,true,[.str ByteArray.empty,(vB false),.fa,.fa,(vB false),.fa,.fa],[]⟩),
 (73,⟨.struct [(0,1,false),(1,3,true),(4,3,true)],7,128,true,[.str ByteArray.empty,(vB false),.fa,.fa,(vB false),.fa,.fa],[]⟩),
 (74,⟨.int .i64,1,8,false,[.int .i64 0],[]⟩),
 (79,⟨.struct [(0,1,false),(1,1,false)],2,32,true,[(vB false),.fa],[]⟩),
 (80,⟨.struct [(0,1,false),(1,1,false)],2,32,true,[(vB false),.fa],[]⟩),
 (102,⟨.slice 9,1,24,false,[.fa],[]⟩),
 (115,⟨.int .u32,1,4,false,[.int .u32 0],[]⟩),
 (124,⟨.slice 60,1,24,false,[.fa],[]⟩),
 (136,⟨.int .u64,1,8,false,[.int .u64 0],[]⟩),
 (137,⟨.int .u64,1,8,false,[.int .u64 0],[]⟩),
 (158,⟨.int .i64,1,8,false,[.int .i64 0],[]⟩),
 (177,⟨.int .u64,1,8,false,[.int .u64 0],[]⟩),
 (198,⟨.int .u8,1,1,false,[.int .u8 0],[]⟩),
 (199,⟨.int .u8,1,1,false,[.int .u8 0],[]⟩),
 (202,⟨.int .i32,1,4,false,[.int .i32 0],[]⟩),
 (203,⟨.int .i32,1,4,false,[.int .i32 0],[]⟩)]
theorem w9:lH bp mr:=lH.of (by kernel_rfl)
theorem mixed:bp.follows .mixedOrders=true:=by kernel_rfl
abbrev Cp:=fG bp
abbrev Ws:=List UInt32
abbrev Rs:=List aK
abbrev TE.a:TE := .auto
abbrev TE.t:TE := .dec true
abbrev TE.f:TE := .dec false
abbrev TE.q:TE := .aR []
abbrev TE.h(n:Nat)(x:Hint):TE := .aR (List.replicate n .none++[x])
abbrev Hint.o:Hint := .none
section
variable {fn:Func} {K K':List eh} {s s':St} {r:PV} {sin sout:aG} {rx:EV} {f:FuncId} {args:List PV} {G8:List EV} {A:Prop}
theorem lG(n:Nat)(ns:List Nat)(tr:List TE)(hA:A)(h:L bp fn K' s' r)(aw:tT ns (run bp mr fn n K s tr)=some (K',s',A):=by kernel_rfl):L bp fn K s r:=L.go mixed w9 hA aw h
theorem lD(n:Nat)(ns:List Nat)(tr:List TE)(hA:A)(aw:BZ ns (run bp mr fn n K s tr)=some (r,A):=by kernel_rfl):L bp fn K s r:=L.done mixed w9 hA aw
theorem eG(hf:bp.funcs[f]? = some fn)(n:Nat)(ns:List Nat)(tr:List TE)(hA:A)(h:L bp fn K' s' r)(mK:E8 fn (args.map EV.pv).length []=true:=by kernel_rfl)(aw:tT ns (run bp mr fn n [.code (az fn)] ⟨kZ 0 (args.map EV.pv),[]⟩ tr)=some (K',s',A):=by kernel_rfl):fG bp f args r:=fG.OJ hf mK (L.go mixed w9 hA aw h)
theorem eD(hf:bp.funcs[f]? = some fn)(n:Nat)(ns:List Nat)(tr:List TE)(hA:A)(mK:E8 fn (args.map EV.pv).length []=true:=by kernel_rfl)(aw:BZ ns (run bp mr fn n [.code (az fn)] ⟨kZ 0 (args.map EV.pv),[]⟩ tr)=some (r,A):=by kernel_rfl):fG bp f args r:=fG.OJ hf mK (L.done mixed w9 hA aw)
theorem xQ(n:Nat)(ns:List Nat)(tr:List TE)(hs:sin.all (fun p=>Nat.ble fn.ntmps p.1)=true)(hA:A)(h:LX bp fn K' s' sin rx sout)(aw:tT ns (run bp mr fn n K s tr)=some (K',s',A):=by kernel_rfl):LX bp fn K s sin rx sout:=LX.go mixed w9 hs hA aw h
theorem wv(n:Nat)(ns:List Nat)(tr:List TE)(hs:sin.all (fun p=>Nat.ble fn.ntmps p.1)=true)(hi:sin.all (fun p=>pN p.1||(aG.get sout p.1).isSome)=true)(hA:A)(aw:Bb ns [] (run bp mr fn n K s tr)=some (rx,sout,A):=by kernel_rfl):LX bp fn K s sin rx sout:=LX.PD mixed w9 hs hi hA aw
theorem AM(hf:bp.funcs[f]? = some fn)(n:Nat)(ns:List Nat)(tr:List TE)(hA:A)(h:LX bp fn K' s' sin rx sout)(mK:E8 fn G8.length sin=true:=by kernel_rfl)(hs:sin.all (fun p=>Nat.ble fn.ntmps p.1)=true:=by rfl)(aw:tT ns (run bp mr fn n [.code (az fn)] ⟨kZ 0 G8,sin⟩ tr)=some (K',s',A):=by kernel_rfl):av bp f G8 sin rx sout:=av.OJ hf mK (LX.go mixed w9 hs hA aw h)
theorem Nk(hf:bp.funcs[f]? = some fn)(n:Nat)(ns:List Nat)(tr:List TE)(hA:A)(mK:E8 fn G8.length sin=true:=by kernel_rfl)(hs:sin.all (fun p=>Nat.ble fn.ntmps p.1)=true:=by rfl)(aw:Bb ns sin (run bp mr fn n [.code (az fn)] ⟨kZ 0 G8,sin⟩ tr)=some (rx,sout,A):=by kernel_rfl):av bp f G8 sin rx sout:=av.OJ hf mK (LX.done mixed w9 hs hA aw)
end
theorem y1{p0:Prop}(iy:p0):p0∧True:=⟨iy,trivial⟩
theorem y2{p0 p1:Prop}(iy:p0)(iJ:p1):p0∧p1∧True:=⟨iy,iJ,trivial⟩
theorem y3{p0 p1 p2:Prop}(iy:p0)(iJ:p1)(jd:p2):p0∧p1∧p2∧True:=⟨iy,iJ,jd,trivial⟩
theorem y4{p0 p1 p2 p3:Prop}(iy:p0)(iJ:p1)(jd:p2)(jq:p3):p0∧p1∧p2∧p3∧True:=⟨iy,iJ,jd,jq,trivial⟩
theorem y5{p0 p1 p2 p3 p4:Prop}(iy:p0)(iJ:p1)(jd:p2)(jq:p3)(jJ:p4):p0∧p1∧p2∧p3∧p4∧True:=⟨iy,iJ,jd,jq,jJ,trivial⟩
theorem y6{p0 p1 p2 p3 p4 p5:Prop}(iy:p0)(iJ:p1)(jd:p2)(jq:p3)(jJ:p4)(jU:p5):p0∧p1∧p2∧p3∧p4∧p5∧True:=⟨iy,iJ,jd,jq,jJ,jU,trivial⟩
theorem y7{p0 p1 p2 p3 p4 p5 p6:Prop}(iy:p0)(iJ:p1)(jd:p2)(jq:p3)(jJ:p4)(jU:p5)(j6:p6):p0∧p1∧p2∧p3∧p4∧p5∧p6∧True:=⟨iy,iJ,jd,jq,jJ,jU,j6,trivial⟩
theorem y8{p0 p1 p2 p3 p4 p5 p6 p7:Prop}(iy:p0)(iJ:p1)(jd:p2)(jq:p3)(jJ:p4)(jU:p5)(j6:p6)(kl:p7):p0∧p1∧p2∧p3∧p4∧p5∧p6∧p7∧True:=⟨iy,iJ,jd,jq,jJ,jU,j6,kl,trivial⟩
theorem y9{p0 p1 p2 p3 p4 p5 p6 p7 p8:Prop}(iy:p0)(iJ:p1)(jd:p2)(jq:p3)(jJ:p4)(jU:p5)(j6:p6)(kl:p7)(kM:p8):p0∧p1∧p2∧p3∧p4∧p5∧p6∧p7∧p8∧True:=⟨iy,iJ,jd,jq,jJ,jU,j6,kl,kM,trivial⟩
theorem CM{p0 p1 p2 p3 p4 p5 p6 p7 p8 p9:Prop}(iy:p0)(iJ:p1)(jd:p2)(jq:p3)(jJ:p4)(jU:p5)(j6:p6)(kl:p7)(kM:p8)(k9:p9):p0∧p1∧p2∧p3∧p4∧p5∧p6∧p7∧p8∧p9∧True:=⟨iy,iJ,jd,jq,jJ,jU,j6,kl,kM,k9,trivial⟩
theorem Fb{p0 p1 p2 p3 p4 p5 p6 p7 p8 p9 gr:Prop}(iy:p0)(iJ:p1)(jd:p2)(jq:p3)(jJ:p4)(jU:p5)(j6:p6)(kl:p7)(kM:p8)(k9:p9)(eu:gr):p0∧p1∧p2∧p3∧p4∧p5∧p6∧p7∧p8∧p9∧gr∧True:=⟨iy,iJ,jd,jq,jJ,jU,j6,kl,kM,k9,eu,trivial⟩
theorem Ki{p0 p1 p2 p3 p4 p5 p6 p7 p8 p9 gr gF:Prop}(iy:p0)(iJ:p1)(jd:p2)(jq:p3)(jJ:p4)(jU:p5)(j6:p6)(kl:p7)(kM:p8)(k9:p9)(eu:gr)(eH:gF):p0∧p1∧p2∧p3∧p4∧p5∧p6∧p7∧p8∧p9∧gr∧gF∧True:=⟨iy,iJ,jd,jq,jJ,jU,j6,kl,kM,k9,eu,eH,trivial⟩
theorem LY{p0 p1 p2 p3 p4 p5 p6 p7 p8 p9 gr gF gT:Prop}(iy:p0)(iJ:p1)(jd:p2)(jq:p3)(jJ:p4)(jU:p5)(j6:p6)(kl:p7)(kM:p8)(k9:p9)(eu:gr)(eH:gF)(eV:gT):p0∧p1∧p2∧p3∧p4∧p5∧p6∧p7∧p8∧p9∧gr∧gF∧gT∧True:=⟨iy,iJ,jd,jq,jJ,jU,j6,kl,kM,k9,eu,eH,eV,trivial⟩
theorem G9{p0 p1 p2 p3 p4 p5 p6 p7 p8 p9 gr gF gT iz:Prop}(iy:p0)(iJ:p1)(jd:p2)(jq:p3)(jJ:p4)(jU:p5)(j6:p6)(kl:p7)(kM:p8)(k9:p9)(eu:gr)(eH:gF)(eV:gT)(fg:iz):p0∧p1∧p2∧p3∧p4∧p5∧p6∧p7∧p8∧p9∧gr∧gF∧gT∧iz∧True:=⟨iy,iJ,jd,jq,jJ,jU,j6,kl,kM,k9,eu,eH,eV,fg,trivial⟩
theorem LZ{p0 p1 p2 p3 p4 p5 p6 p7 p8 p9 gr gF gT iz iV:Prop}(iy:p0)(iJ:p1)(jd:p2)(jq:p3)(jJ:p4)(jU:p5)(j6:p6)(kl:p7)(kM:p8)(k9:p9)(eu:gr)(eH:gF)(eV:gT)(fg:iz)(fv:iV):p0∧p1∧p2∧p3∧p4∧p5∧p6∧p7∧p8∧p9∧gr∧gF∧gT∧iz∧iV∧True:=⟨iy,iJ,jd,jq,jJ,jU,j6,kl,kM,k9,eu,eH,eV,fg,fv,trivial⟩
theorem Nl{p0 p1 p2 p3 p4 p5 p6 p7 p8 p9 gr gF gT iz iV jr:Prop}(iy:p0)(iJ:p1)(jd:p2)(jq:p3)(jJ:p4)(jU:p5)(j6:p6)(kl:p7)(kM:p8)(k9:p9)(eu:gr)(eH:gF)(eV:gT)(fg:iz)(fv:iV)(fI:jr):p0∧p1∧p2∧p3∧p4∧p5∧p6∧p7∧p8∧p9∧gr∧gF∧gT∧iz∧iV∧jr∧True:=⟨iy,iJ,jd,jq,jJ,jU,j6,kl,kM,k9,eu,eH,eV,fg,fv,fI,trivial⟩
theorem PI{p0 p1 p2 p3 p4 p5 p6 p7 p8 p9 gr gF gT iz iV jr jS:Prop}(iy:p0)(iJ:p1)(jd:p2)(jq:p3)(jJ:p4)(jU:p5)(j6:p6)(kl:p7)(kM:p8)(k9:p9)(eu:gr)(eH:gF)(eV:gT)(fg:iz)(fv:iV)(fI:jr)(fT:jS):p0∧p1∧p2∧p3∧p4∧p5∧p6∧p7∧p8∧p9∧gr∧gF∧gT∧iz∧iV∧jr∧jS∧True:=⟨iy,iJ,jd,jq,jJ,jU,j6,kl,kM,k9,eu,eH,eV,fg,fv,fI,fT,trivial⟩
theorem PJ{p0 p1 p2 p3 p4 p5 p6 p7 p8 p9 gr gF gT iz iV jr jS j7:Prop}(iy:p0)(iJ:p1)(jd:p2)(jq:p3)(jJ:p4)(jU:p5)(j6:p6)(kl:p7)(kM:p8)(k9:p9)(eu:gr)(eH:gF)(eV:gT)(fg:iz)(fv:iV)(fI:jr)(fT:jS)(gm:j7):p0∧p1∧p2∧p3∧p4∧p5∧p6∧p7∧p8∧p9∧gr∧gF∧gT∧iz∧iV∧jr∧jS∧j7∧True:=⟨iy,iJ,jd,jq,jJ,jU,j6,kl,kM,k9,eu,eH,eV,fg,fv,fI,fT,gm,trivial⟩
theorem OK{p0 p1 p2 p3 p4 p5 p6 p7 p8 p9 gr gF gT iz iV jr jS j7 kD:Prop}(iy:p0)(iJ:p1)(jd:p2)(jq:p3)(jJ:p4)(jU:p5)(j6:p6)(kl:p7)(kM:p8)(k9:p9)(eu:gr)(eH:gF)(eV:gT)(fg:iz)(fv:iV)(fI:jr)(fT:jS)(gm:j7)(gG:kD):p0∧p1∧p2∧p3∧p4∧p5∧p6∧p7∧p8∧p9∧gr∧gF∧gT∧iz∧iV∧jr∧jS∧j7∧kD∧True:=⟨iy,iJ,jd,jq,jJ,jU,j6,kl,kM,k9,eu,eH,eV,fg,fv,fI,fT,gm,gG,trivial⟩
theorem Sd{p0 p1 p2 p3 p4 p5 p6 p7 p8 p9 gr gF gT iz iV jr jS j7 kD lf:Prop}(iy:p0)(iJ:p1)(jd:p2)(jq:p3)(jJ:p4)(jU:p5)(j6:p6)(kl:p7)(kM:p8)(k9:p9)(eu:gr)(eH:gF)(eV:gT)(fg:iz)(fv:iV)(fI:jr)(fT:jS)(gm:j7)(gG:kD)(ia:lf):p0∧p1∧p2∧p3∧p4∧p5∧p6∧p7∧p8∧p9∧gr∧gF∧gT∧iz∧iV∧jr∧jS∧j7∧kD∧lf∧True:=⟨iy,iJ,jd,jq,jJ,jU,j6,kl,kM,k9,eu,eH,eV,fg,fv,fI,fT,gm,gG,ia,trivial⟩
theorem Se{p0 p1 p2 p3 p4 p5 p6 p7 p8 p9 gr gF gT iz iV jr jS j7 kD lf lP:Prop}(iy:p0)(iJ:p1)(jd:p2)(jq:p3)(jJ:p4)(jU:p5)(j6:p6)(kl:p7)(kM:p8)(k9:p9)(eu:gr)(eH:gF)(eV:gT)(fg:iz)(fv:iV)(fI:jr)(fT:jS)(gm:j7)(gG:kD)(ia:lf)(iK:lP):p0∧p1∧p2∧p3∧p4∧p5∧p6∧p7∧p8∧p9∧gr∧gF∧gT∧iz∧iV∧jr∧jS∧j7∧kD∧lf∧lP∧True:=⟨iy,iJ,jd,jq,jJ,jU,j6,kl,kM,k9,eu,eH,eV,fg,fv,fI,fT,gm,gG,ia,iK,trivial⟩
theorem L0{p0 p1 p2 p3 p4 p5 p6 p7 p8 p9 gr gF gT iz iV jr jS j7 kD lf lP mu:Prop}(iy:p0)(iJ:p1)(jd:p2)(jq:p3)(jJ:p4)(jU:p5)(j6:p6)(kl:p7)(kM:p8)(k9:p9)(eu:gr)(eH:gF)(eV:gT)(fg:iz)(fv:iV)(fI:jr)(fT:jS)(gm:j7)(gG:kD)(ia:lf)(iK:lP)(jt:mu):p0∧p1∧p2∧p3∧p4∧p5∧p6∧p7∧p8∧p9∧gr∧gF∧gT∧iz∧iV∧jr∧jS∧j7∧kD∧lf∧lP∧mu∧True:=⟨iy,iJ,jd,jq,jJ,jU,j6,kl,kM,k9,eu,eH,eV,fg,fv,fI,fT,gm,gG,ia,iK,jt,trivial⟩
theorem T7{p0 p1 p2 p3 p4 p5 p6 p7 p8 p9 gr gF gT iz iV jr jS j7 kD lf lP mu mW:Prop}(iy:p0)(iJ:p1)(jd:p2)(jq:p3)(jJ:p4)(jU:p5)(j6:p6)(kl:p7)(kM:p8)(k9:p9)(eu:gr)(eH:gF)(eV:gT)(fg:iz)(fv:iV)(fI:jr)(fT:jS)(gm:j7)(gG:kD)(ia:lf)(iK:lP)(jt:mu)(jV:mW):p0∧p1∧p2∧p3∧p4∧p5∧p6∧p7∧p8∧p9∧gr∧gF∧gT∧iz∧iV∧jr∧jS∧j7∧kD∧lf∧lP∧mu∧mW∧True:=⟨iy,iJ,jd,jq,jJ,jU,j6,kl,kM,k9,eu,eH,eV,fg,fv,fI,fT,gm,gG,ia,iK,jt,jV,trivial⟩
theorem T8{p0 p1 p2 p3 p4 p5 p6 p7 p8 p9 gr gF gT iz iV jr jS j7 kD lf lP mu mW nV:Prop}(iy:p0)(iJ:p1)(jd:p2)(jq:p3)(jJ:p4)(jU:p5)(j6:p6)(kl:p7)(kM:p8)(k9:p9)(eu:gr)(eH:gF)(eV:gT)(fg:iz)(fv:iV)(fI:jr)(fT:jS)(gm:j7)(gG:kD)(ia:lf)(iK:lP)(jt:mu)(jV:mW)(km:nV):p0∧p1∧p2∧p3∧p4∧p5∧p6∧p7∧p8∧p9∧gr∧gF∧gT∧iz∧iV∧jr∧jS∧j7∧kD∧lf∧lP∧mu∧mW∧nV∧True:=⟨iy,iJ,jd,jq,jJ,jU,j6,kl,kM,k9,eu,eH,eV,fg,fv,fI,fT,gm,gG,ia,iK,jt,jV,km,trivial⟩
theorem VN{p0 p1 p2 p3 p4 p5 p6 p7 p8 p9 gr gF gT iz iV jr jS j7 kD lf lP mu mW nV oN:Prop}(iy:p0)(iJ:p1)(jd:p2)(jq:p3)(jJ:p4)(jU:p5)(j6:p6)(kl:p7)(kM:p8)(k9:p9)(eu:gr)(eH:gF)(eV:gT)(fg:iz)(fv:iV)(fI:jr)(fT:jS)(gm:j7)(gG:kD)(ia:lf)(iK:lP)(jt:mu)(jV:mW)(km:nV)(lg:oN):p0∧p1∧p2∧p3∧p4∧p5∧p6∧p7∧p8∧p9∧gr∧gF∧gT∧iz∧iV∧jr∧jS∧j7∧kD∧lf∧lP∧mu∧mW∧nV∧oN∧True:=⟨iy,iJ,jd,jq,jJ,jU,j6,kl,kM,k9,eu,eH,eV,fg,fv,fI,fT,gm,gG,ia,iK,jt,jV,km,lg,trivial⟩
theorem T9{p0 p1 p2 p3 p4 p5 p6 p7 p8 p9 gr gF gT iz iV jr jS j7 kD lf lP mu mW nV oN pX:Prop}(iy:p0)(iJ:p1)(jd:p2)(jq:p3)(jJ:p4)(jU:p5)(j6:p6)(kl:p7)(kM:p8)(k9:p9)(eu:gr)(eH:gF)(eV:gT)(fg:iz)(fv:iV)(fI:jr)(fT:jS)(gm:j7)(gG:kD)(ia:lf)(iK:lP)(jt:mu)(jV:mW)(km:nV)(lg:oN)(lZ:pX):p0∧p1∧p2∧p3∧p4∧p5∧p6∧p7∧p8∧p9∧gr∧gF∧gT∧iz∧iV∧jr∧jS∧j7∧kD∧lf∧lP∧mu∧mW∧nV∧oN∧pX∧True:=⟨iy,iJ,jd,jq,jJ,jU,j6,kl,kM,k9,eu,eH,eV,fg,fv,fI,fT,gm,gG,ia,iK,jt,jV,km,lg,lZ,trivial⟩
theorem VO{p0 p1 p2 p3 p4 p5 p6 p7 p8 p9 gr gF gT iz iV jr jS j7 kD lf lP mu mW nV oN pX qZ:Prop}(iy:p0)(iJ:p1)(jd:p2)(jq:p3)(jJ:p4)(jU:p5)(j6:p6)(kl:p7)(kM:p8)(k9:p9)(eu:gr)(eH:gF)(eV:gT)(fg:iz)(fv:iV)(fI:jr)(fT:jS)(gm:j7)(gG:kD)(ia:lf)(iK:lP)(jt:mu)(jV:mW)(km:nV)(lg:oN)(lZ:pX)(mS:qZ):p0∧p1∧p2∧p3∧p4∧p5∧p6∧p7∧p8∧p9∧gr∧gF∧gT∧iz∧iV∧jr∧jS∧j7∧kD∧lf∧lP∧mu∧mW∧nV∧oN∧pX∧qZ∧True:=⟨iy,iJ,jd,jq,jJ,jU,j6,kl,kM,k9,eu,eH,eV,fg,fv,fI,fT,gm,gG,ia,iK,jt,jV,km,lg,lZ,mS,trivial⟩
theorem VP{p0 p1 p2 p3 p4 p5 p6 p7 p8 p9 gr gF gT iz iV jr jS j7 kD lf lP mu mW nV oN pX qZ rY:Prop}(iy:p0)(iJ:p1)(jd:p2)(jq:p3)(jJ:p4)(jU:p5)(j6:p6)(kl:p7)(kM:p8)(k9:p9)(eu:gr)(eH:gF)(eV:gT)(fg:iz)(fv:iV)(fI:jr)(fT:jS)(gm:j7)(gG:kD)(ia:lf)(iK:lP)(jt:mu)(jV:mW)(km:nV)(lg:oN)(lZ:pX)(mS:qZ)(nW:rY):p0∧p1∧p2∧p3∧p4∧p5∧p6∧p7∧p8∧p9∧gr∧gF∧gT∧iz∧iV∧jr∧jS∧j7∧kD∧lf∧lP∧mu∧mW∧nV∧oN∧pX∧qZ∧rY∧True:=⟨iy,iJ,jd,jq,jJ,jU,j6,kl,kM,k9,eu,eH,eV,fg,fv,fI,fT,gm,gG,ia,iK,jt,jV,km,lg,lZ,mS,nW,trivial⟩
theorem VQ{p0 p1 p2 p3 p4 p5 p6 p7 p8 p9 gr gF gT iz iV jr jS j7 kD lf lP mu mW nV oN pX qZ rY tq:Prop}(iy:p0)(iJ:p1)(jd:p2)(jq:p3)(jJ:p4)(jU:p5)(j6:p6)(kl:p7)(kM:p8)(k9:p9)(eu:gr)(eH:gF)(eV:gT)(fg:iz)(fv:iV)(fI:jr)(fT:jS)(gm:j7)(gG:kD)(ia:lf)(iK:lP)(jt:mu)(jV:mW)(km:nV)(lg:oN)(lZ:pX)(mS:qZ)(nW:rY)(pw:tq):p0∧p1∧p2∧p3∧p4∧p5∧p6∧p7∧p8∧p9∧gr∧gF∧gT∧iz∧iV∧jr∧jS∧j7∧kD∧lf∧lP∧mu∧mW∧nV∧oN∧pX∧qZ∧rY∧tq∧True:=⟨iy,iJ,jd,jq,jJ,jU,j6,kl,kM,k9,eu,eH,eV,fg,fv,fI,fT,gm,gG,ia,iK,jt,jV,km,lg,lZ,mS,nW,pw,trivial⟩
theorem Ua{p0 p1 p2 p3 p4 p5 p6 p7 p8 p9 gr gF gT iz iV jr jS j7 kD lf lP mu mW nV oN pX qZ rY tq u5:Prop}(iy:p0)(iJ:p1)(jd:p2)(jq:p3)(jJ:p4)(jU:p5)(j6:p6)(kl:p7)(kM:p8)(k9:p9)(eu:gr)(eH:gF)(eV:gT)(fg:iz)(fv:iV)(fI:jr)(fT:jS)(gm:j7)(gG:kD)(ia:lf)(iK:lP)(jt:mu)(jV:mW)(km:nV)(lg:oN)(lZ:pX)(mS:qZ)(nW:rY)(pw:tq)(qy:u5):p0∧p1∧p2∧p3∧p4∧p5∧p6∧p7∧p8∧p9∧gr∧gF∧gT∧iz∧iV∧jr∧jS∧j7∧kD∧lf∧lP∧mu∧mW∧nV∧oN∧pX∧qZ∧rY∧tq∧u5∧True:=⟨iy,iJ,jd,jq,jJ,jU,j6,kl,kM,k9,eu,eH,eV,fg,fv,fI,fT,gm,gG,ia,iK,jt,jV,km,lg,lZ,mS,nW,pw,qy,trivial⟩
theorem QP{p0 p1 p2 p3 p4 p5 p6 p7 p8 p9 gr gF gT iz iV jr jS j7 kD lf lP mu mW nV oN pX qZ rY tq u5 xa:Prop}(iy:p0)(iJ:p1)(jd:p2)(jq:p3)(jJ:p4)(jU:p5)(j6:p6)(kl:p7)(kM:p8)(k9:p9)(eu:gr)(eH:gF)(eV:gT)(fg:iz)(fv:iV)(fI:jr)(fT:jS)(gm:j7)(gG:kD)(ia:lf)(iK:lP)(jt:mu)(jV:mW)(km:nV)(lg:oN)(lZ:pX)(mS:qZ)(nW:rY)(pw:tq)(qy:u5)(rZ:xa):p0∧p1∧p2∧p3∧p4∧p5∧p6∧p7∧p8∧p9∧gr∧gF∧gT∧iz∧iV∧jr∧jS∧j7∧kD∧lf∧lP∧mu∧mW∧nV∧oN∧pX∧qZ∧rY∧tq∧u5∧xa∧True:=⟨iy,iJ,jd,jq,jJ,jU,j6,kl,kM,k9,eu,eH,eV,fg,fv,fI,fT,gm,gG,ia,iK,jt,jV,km,lg,lZ,mS,nW,pw,qy,rZ,trivial⟩
theorem Sf{p0 p1 p2 p3 p4 p5 p6 p7 p8 p9 gr gF gT iz iV jr jS j7 kD lf lP mu mW nV oN pX qZ rY tq u5 xa zG:Prop}(iy:p0)(iJ:p1)(jd:p2)(jq:p3)(jJ:p4)(jU:p5)(j6:p6)(kl:p7)(kM:p8)(k9:p9)(eu:gr)(eH:gF)(eV:gT)(fg:iz)(fv:iV)(fI:jr)(fT:jS)(gm:j7)(gG:kD)(ia:lf)(iK:lP)(jt:mu)(jV:mW)(km:nV)(lg:oN)(lZ:pX)(mS:qZ)(nW:rY)(pw:tq)(qy:u5)(rZ:xa)(tU:zG):p0∧p1∧p2∧p3∧p4∧p5∧p6∧p7∧p8∧p9∧gr∧gF∧gT∧iz∧iV∧jr∧jS∧j7∧kD∧lf∧lP∧mu∧mW∧nV∧oN∧pX∧qZ∧rY∧tq∧u5∧xa∧zG∧True:=⟨iy,iJ,jd,jq,jJ,jU,j6,kl,kM,k9,eu,eH,eV,fg,fv,fI,fT,gm,gG,ia,iK,jt,jV,km,lg,lZ,mS,nW,pw,qy,rZ,tU,trivial⟩
theorem Ub{p0 p1 p2 p3 p4 p5 p6 p7 p8 p9 gr gF gT iz iV jr jS j7 kD lf lP mu mW nV oN pX qZ rY tq u5 xa zG Be:Prop}(iy:p0)(iJ:p1)(jd:p2)(jq:p3)(jJ:p4)(jU:p5)(j6:p6)(kl:p7)(kM:p8)(k9:p9)(eu:gr)(eH:gF)(eV:gT)(fg:iz)(fv:iV)(fI:jr)(fT:jS)(gm:j7)(gG:kD)(ia:lf)(iK:lP)(jt:mu)(jV:mW)(km:nV)(lg:oN)(lZ:pX)(mS:qZ)(nW:rY)(pw:tq)(qy:u5)(rZ:xa)(tU:zG)(wx:Be):p0∧p1∧p2∧p3∧p4∧p5∧p6∧p7∧p8∧p9∧gr∧gF∧gT∧iz∧iV∧jr∧jS∧j7∧kD∧lf∧lP∧mu∧mW∧nV∧oN∧pX∧qZ∧rY∧tq∧u5∧xa∧zG∧Be∧True:=⟨iy,iJ,jd,jq,jJ,jU,j6,kl,kM,k9,eu,eH,eV,fg,fv,fI,fT,gm,gG,ia,iK,jt,jV,km,lg,lZ,mS,nW,pw,qy,rZ,tU,wx,trivial⟩
theorem Sg{p0 p1 p2 p3 p4 p5 p6 p7 p8 p9 gr gF gT iz iV jr jS j7 kD lf lP mu mW nV oN pX qZ rY tq u5 xa zG Be Dq:Prop}(iy:p0)(iJ:p1)(jd:p2)(jq:p3)(jJ:p4)(jU:p5)(j6:p6)(kl:p7)(kM:p8)(k9:p9)(eu:gr)(eH:gF)(eV:gT)(fg:iz)(fv:iV)(fI:jr)(fT:jS)(gm:j7)(gG:kD)(ia:lf)(iK:lP)(jt:mu)(jV:mW)(km:nV)(lg:oN)(lZ:pX)(mS:qZ)(nW:rY)(pw:tq)(qy:u5)(rZ:xa)(tU:zG)(wx:Be)(zH:Dq):p0∧p1∧p2∧p3∧p4∧p5∧p6∧p7∧p8∧p9∧gr∧gF∧gT∧iz∧iV∧jr∧jS∧j7∧kD∧lf∧lP∧mu∧mW∧nV∧oN∧pX∧qZ∧rY∧tq∧u5∧xa∧zG∧Be∧Dq∧True:=⟨iy,iJ,jd,jq,jJ,jU,j6,kl,kM,k9,eu,eH,eV,fg,fv,fI,fT,gm,gG,ia,iK,jt,jV,km,lg,lZ,mS,nW,pw,qy,rZ,tU,wx,zH,trivial⟩
theorem Sh{p0 p1 p2 p3 p4 p5 p6 p7 p8 p9 gr gF gT iz iV jr jS j7 kD lf lP mu mW nV oN pX qZ rY tq u5 xa zG Be Dq Gd:Prop}(iy:p0)(iJ:p1)(jd:p2)(jq:p3)(jJ:p4)(jU:p5)(j6:p6)(kl:p7)(kM:p8)(k9:p9)(eu:gr)(eH:gF)(eV:gT)(fg:iz)(fv:iV)(fI:jr)(fT:jS)(gm:j7)(gG:kD)(ia:lf)(iK:lP)(jt:mu)(jV:mW)(km:nV)(lg:oN)(lZ:pX)(mS:qZ)(nW:rY)(pw:tq)(qy:u5)(rZ:xa)(tU:zG)(wx:Be)(zH:Dq)(B4:Gd):p0∧p1∧p2∧p3∧p4∧p5∧p6∧p7∧p8∧p9∧gr∧gF∧gT∧iz∧iV∧jr∧jS∧j7∧kD∧lf∧lP∧mu∧mW∧nV∧oN∧pX∧qZ∧rY∧tq∧u5∧xa∧zG∧Be∧Dq∧Gd∧True:=⟨iy,iJ,jd,jq,jJ,jU,j6,kl,kM,k9,eu,eH,eV,fg,fv,fI,fT,gm,gG,ia,iK,jt,jV,km,lg,lZ,mS,nW,pw,qy,rZ,tU,wx,zH,B4,trivial⟩
theorem Uc{p0 p1 p2 p3 p4 p5 p6 p7 p8 p9 gr gF gT iz iV jr jS j7 kD lf lP mu mW nV oN pX qZ rY tq u5 xa zG Be Dq Gd IN IP:Prop}(iy:p0)(iJ:p1)(jd:p2)(jq:p3)(jJ:p4)(jU:p5)(j6:p6)(kl:p7)(kM:p8)(k9:p9)(eu:gr)(eH:gF)(eV:gT)(fg:iz)(fv:iV)(fI:jr)(fT:jS)(gm:j7)(gG:kD)(ia:lf)(iK:lP)(jt:mu)(jV:mW)(km:nV)(lg:oN)(lZ:pX)(mS:qZ)(nW:rY)(pw:tq)(qy:u5)(rZ:xa)(tU:zG)(wx:Be)(zH:Dq)(B4:Gd)(Fc:IN)(Fe:IP):p0∧p1∧p2∧p3∧p4∧p5∧p6∧p7∧p8∧p9∧gr∧gF∧gT∧iz∧iV∧jr∧jS∧j7∧kD∧lf∧lP∧mu∧mW∧nV∧oN∧pX∧qZ∧rY∧tq∧u5∧xa∧zG∧Be∧Dq∧Gd∧IN∧IP∧True:=⟨iy,iJ,jd,jq,jJ,jU,j6,kl,kM,k9,eu,eH,eV,fg,fv,fI,fT,gm,gG,ia,iK,jt,jV,km,lg,lZ,mS,nW,pw,qy,rZ,tU,wx,zH,B4,Fc,Fe,trivial⟩
theorem Ud{p0 p1 p2 p3 p4 p5 p6 p7 p8 p9 gr gF gT iz iV jr jS j7 kD lf lP mu mW nV oN pX qZ rY tq u5 xa zG Be Dq Gd IN IP L4:Prop}(iy:p0)(iJ:p1)(jd:p2)(jq:p3)(jJ:p4)(jU:p5)(j6:p6)(kl:p7)(kM:p8)(k9:p9)(eu:gr)(eH:gF)(eV:gT)(fg:iz)(fv:iV)(fI:jr)(fT:jS)(gm:j7)(gG:kD)(ia:lf)(iK:lP)(jt:mu)(jV:mW)(km:nV)(lg:oN)(lZ:pX)(mS:qZ)(nW:rY)(pw:tq)(qy:u5)(rZ:xa)(tU:zG)(wx:Be)(zH:Dq)(B4:Gd)(Fc:IN)(Fe:IP)(IQ:L4):p0∧p1∧p2∧p3∧p4∧p5∧p6∧p7∧p8∧p9∧gr∧gF∧gT∧iz∧iV∧jr∧jS∧j7∧kD∧lf∧lP∧mu∧mW∧nV∧oN∧pX∧qZ∧rY∧tq∧u5∧xa∧zG∧Be∧Dq∧Gd∧IN∧IP∧L4∧True:=⟨iy,iJ,jd,jq,jJ,jU,j6,kl,kM,k9,eu,eH,eV,fg,fv,fI,fT,gm,gG,ia,iK,jt,jV,km,lg,lZ,mS,nW,pw,qy,rZ,tU,wx,zH,B4,Fc,Fe,IQ,trivial⟩
theorem VR{p0 p1 p2 p3 p4 p5 p6 p7 p8 p9 gr gF gT iz iV jr jS j7 kD lf lP mu mW nV oN pX qZ rY tq u5 xa zG Be Dq Gd IN IP L4 PK:Prop}(iy:p0)(iJ:p1)(jd:p2)(jq:p3)(jJ:p4)(jU:p5)(j6:p6)(kl:p7)(kM:p8)(k9:p9)(eu:gr)(eH:gF)(eV:gT)(fg:iz)(fv:iV)(fI:jr)(fT:jS)(gm:j7)(gG:kD)(ia:lf)(iK:lP)(jt:mu)(jV:mW)(km:nV)(lg:oN)(lZ:pX)(mS:qZ)(nW:rY)(pw:tq)(qy:u5)(rZ:xa)(tU:zG)(wx:Be)(zH:Dq)(B4:Gd)(Fc:IN)(Fe:IP)(IQ:L4)(Nn:PK):p0∧p1∧p2∧p3∧p4∧p5∧p6∧p7∧p8∧p9∧gr∧gF∧gT∧iz∧iV∧jr∧jS∧j7∧kD∧lf∧lP∧mu∧mW∧nV∧oN∧pX∧qZ∧rY∧tq∧u5∧xa∧zG∧Be∧Dq∧Gd∧IN∧IP∧L4∧PK∧True:=⟨iy,iJ,jd,jq,jJ,jU,j6,kl,kM,k9,eu,eH,eV,fg,fv,fI,fT,gm,gG,ia,iK,jt,jV,km,lg,lZ,mS,nW,pw,qy,rZ,tU,wx,zH,B4,Fc,Fe,IQ,Nn,trivial⟩
theorem zI{p0 p1 p2 p3 p4 p5 p6 p7 p8 p9 gr gF gT iz iV jr jS j7 kD lf lP mu mW nV oN pX qZ rY tq u5 xa zG Be Dq Gd IN IP L4 PK Ue:Prop}(iy:p0)(iJ:p1)(jd:p2)(jq:p3)(jJ:p4)(jU:p5)(j6:p6)(kl:p7)(kM:p8)(k9:p9)(eu:gr)(eH:gF)(eV:gT)(fg:iz)(fv:iV)(fI:jr)(fT:jS)(gm:j7)(gG:kD)(ia:lf)(iK:lP)(jt:mu)(jV:mW)(km:nV)(lg:oN)(lZ:pX)(mS:qZ)(nW:rY)(pw:tq)(qy:u5)(rZ:xa)(tU:zG)(wx:Be)(zH:Dq)(B4:Gd)(Fc:IN)(Fe:IP)(IQ:L4)(Nn:PK)(Si:Ue):p0∧p1∧p2∧p3∧p4∧p5∧p6∧p7∧p8∧p9∧gr∧gF∧gT∧iz∧iV∧jr∧jS∧j7∧kD∧lf∧lP∧mu∧mW∧nV∧oN∧pX∧qZ∧rY∧tq∧u5∧xa∧zG∧Be∧Dq∧Gd∧IN∧IP∧L4∧PK∧Ue∧True:=⟨iy,iJ,jd,jq,jJ,jU,j6,kl,kM,k9,eu,eH,eV,fg,fv,fI,fT,gm,gG,ia,iK,jt,jV,km,lg,lZ,mS,nW,pw,qy,rZ,tU,wx,zH,B4,Fc,Fe,IQ,Nn,Si,trivial⟩
end Go.Proofs.YtfjfekodeplcoaaGreat.Sym
