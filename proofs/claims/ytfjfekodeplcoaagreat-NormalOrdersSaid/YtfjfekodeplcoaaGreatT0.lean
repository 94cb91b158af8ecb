/- Lemmas for the statements of this seat. -/
import Derived.Test.YtfjfekodeplcoaaGreatWObs
import Derived.Test.YtfjfekodeplcoaaGreatProg
namespace Go.Proofs.YtfjfekodeplcoaaGreat.Sym
open Go
structure aW where
 neg:Bool
 num:List UInt32
 den:List UInt32
def aW.cells(x:aW):List PV:=[(vB x.neg),(ae x.num),(ae x.den)]
def aW.pv(x:aW):PV := .agg x.cells
theorem A7:Sz aW.cells 3:=fun _=>rfl
abbrev Oq:=List aW
abbrev jQ(p:Oq):PV := .list (p.map aW.cells)
structure au where
 name:ByteArray
 x:aW
 y:aW
def au.cells(x:au):List PV:=[(.str x.name),(vB x.x.neg),(ae x.x.num),(ae x.x.den),(vB x.y.neg),(ae x.y.num),(ae x.y.den)]
def au.pv(x:au):PV := .agg x.cells
theorem iT:Sz au.cells 7:=fun _=>rfl
structure ab where
 name:ByteArray
 points:List au
def ab.cells(x:ab):List PV:=[(.str x.name),(aZ au.cells x.points)]
def ab.pv(x:ab):PV := .agg x.cells
theorem dj:Sz ab.cells 2:=fun _=>rfl
structure ag where
 name:ByteArray
 kind:Int
 a:Int
 bq:Int
 b:Int
 fD:Int
 fj:Int
def ag.cells(x:ag):List PV:=[(.str x.name),(vI x.kind),(vI x.a),(vI x.bq),(vI x.b),(vI x.fD),(vI x.fj)]
def ag.pv(x:ag):PV := .agg x.cells
theorem cQ:Sz ag.cells 7:=fun _=>rfl
structure af where
 name:ByteArray
 body:Int
def af.cells(x:af):List PV:=[(.str x.name),(vI x.body)]
def af.pv(x:af):PV := .agg x.cells
theorem cm:Sz af.cells 2:=fun _=>rfl
structure aj where
 name:ByteArray
 aa:List ab
 an:List ag
 ak:List af
def aj.cells(x:aj):List PV:=[(.str x.name),(aZ ab.cells x.aa),(aZ ag.cells x.an),(aZ af.cells x.ak)]
def aj.pv(x:aj):PV := .agg x.cells
structure aB where
 neg:Bool
 cM:List UInt32
def aB.cells(x:aB):List PV:=[(vB x.neg),(ae x.cM)]
def aB.pv(x:aB):PV := .agg x.cells
@[reducible] noncomputable def a7:Program:=Tryz.prog
def nr:jZ:=[(2,⟨.int .i64,1,8,false,[.int .i64 0],[]⟩),
 (3,⟨.int .i64,1,8,false,[.int .i64 0],[]⟩),
 (4,⟨.bool,1,1,false,[(vB false)],[]⟩),
 (5,⟨.int .u8,1,1,false,[.int .u8 0],[]⟩),
 (6,⟨.int .u8,1,1,false,[.int .u8 0],[]⟩),
 (7,⟨.struct [(0,1,false),(1,1,false),(2,1,false),(3,1,false)],4,24,true,[.int .i64 0,.int .i64 0,(vB false),.int .u8 0],[]⟩),
 (8,⟨.struct [(0,1,false),(1,1,false),(2,1,false),(3,1,false)],4,24,true,[.int .i64 0,.int .i64 0,(vB false),.int .u8 0],[]⟩),
 (9,⟨.str,1,16,false,[.str ByteArray.empty],[]⟩),
 (10,⟨.str,1,16,false,[.str ByteArray.empty],[]⟩),
 (11,⟨.str,1,16,false,[.str ByteArray.empty],[]⟩),
 (12,⟨.int .u64,1,8,false,[.int .u64 0],[]⟩),
 (13,⟨.struct [(0,1,false),(1,1,false)],2,24,true,[.str ByteArray.empty,.int .u64 0],[]⟩),
 (14,⟨.struct [(0,1,false),(1,1,false)],2,24,true,[.str ByteArray.empty,.int .u64 0],[]⟩),
 (20,⟨.iface,1,16,false,[.bK],[]⟩),
 (21,⟨.int .i32,1,4,false,[.int .i32 0],[]⟩),
 (22,⟨.slice 63,1,24,false,[.fu],[]⟩),
 (23,⟨.slice 65,1,24,false,[.fu],[]⟩),
 (24,⟨.slice 67,1,24,false,[.fu],[]⟩),
 (25,⟨.struct [(0,1,false),(1,1,false),(2,1,false),(3,1,false)],4,88,true,[.str ByteArray.empty,.fu,.fu,.fu],[]⟩),
 (26,⟨.struct [(0,1,false),(1,1,false),(2,1,false),(3,1,false)],4,88,true,[.str ByteArray.empty,.fu,.fu,.fu],[]⟩),
 (27,⟨.slice 115,1,24,false,[.fu],[]⟩),
 (28,⟨.struct [(0,1,false),(1,1,false),(2,1,false)],3,56,true,[(vB false),.fu,.fu],[]⟩),
 (29,⟨.struct [(0,1,false),(1,1,false),(2,1,false)],3,56,true,[(vB false),.fu,.fu],[]⟩),
 (32,⟨.iface,1,16,false,[.bK],[]⟩),
 (33,⟨.iface,1,16,false,[.bK],[]⟩),
 (36,⟨.slice 29,1,24,false,[.fu],[]⟩),
 (60,⟨.slice 3,1,24,false,[.fu],[]⟩),
 (61,⟨.slice 73,1,24,false,[.fu],[]⟩),
 (62,⟨.struct [(0,1,false),(1,1,false)],2,40,true,[.str ByteArray.empty,.fu],[]⟩),
 (63,⟨.struct [(0,1,false),(1,1,false)],2,40,true,[.str ByteArray.empty,.fu],[]⟩),
 (64,⟨.struct [(0,1,false),(1,1,false),(2,1,false),(3,1,false),(4,1,false),(5,1,false),(6,1,false)],7,64,true,[.str ByteArray.empty,.int .i64 0,.int .i64 0,.int .i64 0,.int .i64 0,.int .i64 0,.int .i64 0],[]⟩),
 (65,⟨.struct [(0,1,false),(1,1,false),(2,1,false),(3,1,false),(4,1,false),(5,1,false),(6,1,false)],7,64,true,[.str ByteArray.empty,.int .i64 0,.int .i64 0,.int .i64 0,.int .i64 0,.int .i64 0,.int .i64 0],[.str,.int .i64,.int .i64,.int .i64,.int .i64,.int .i64,.int .i64]⟩),
 (66,⟨.struct [(0,1,false),(1,1,false)],2,24,true,[.str ByteArray.empty,.int .i64 0],[]⟩),
 (67,⟨.struct [(0,1,false),(1,1,false)],2,24,true,[.str ByteArray.empty,.int .i64 0],[.str,.int .i64]⟩),
 (72,⟨.struct [(0,1,false),(1,3,true),(4,3,true)],7,128,true,[.str ByteArray.empty,(vB false),.fu,.fu,(vB false),.fu,.fu],[]⟩),
 (73,⟨.struct [(0,1,false),(1,3,true),(4,3,true)],7,128,true,[.str ByteArray.empty,(vB false),.fu,.fu,(vB false),.fu,.fu],[]⟩),
 (74,⟨.int .i64,1,8,false,[.int .i64 0],[]⟩),
 (79,⟨.struct [(0,1,false),(1,1,false)],2,32,true,[(vB false),.fu],[]⟩),
 (80,⟨.struct [(0,1,false),(1,1,false)],2,32,true,[(vB false),.fu],[]⟩),
 (102,⟨.slice 9,1,24,false,[.fu],[]⟩),
 (115,⟨.int .u32,1,4,false,[.int .u32 0],[]⟩),
 (124,⟨.slice 60,1,24,false,[.fu],[]⟩),
 (136,⟨.int .u64,1,8,false,[.int .u64 0],[]⟩),
 (137,⟨.int .u64,1,8,false,[.int .u64 0],[]⟩),
 (158,⟨.int .i64,1,8,false,[.int .i64 0],[]⟩),
 (177,⟨.int .u64,1,8,false,[.int .u64 0],[]⟩),
 (198,⟨.int .u8,1,1,false,[.int .u8 0],[]⟩),
 (199,⟨.int .u8,1,1,false,[.int .u8 0],[]⟩),
 (202,⟨.int .i32,1,4,false,[.int .i32 0],[]⟩),
 (203,⟨.int .i32,1,4,false,[.int .i32 0],[]⟩)]
theorem wg:mN a7 nr:=mN.of (by kernel_rfl)
theorem mixed:a7.follows .mixedOrders=true:=by kernel_rfl
abbrev Cp:=fK a7
abbrev Ws:=List UInt32
abbrev Rs:=List aW
abbrev TE.a:TE := .auto
abbrev TE.t:TE := .dec true
abbrev TE.f:TE := .dec false
abbrev TE.q:TE := .aQ []
abbrev TE.h(n:Nat)(x:Hint):TE := .aQ (List.replicate n .none++[x])
abbrev Hint.o:Hint := .none
section
variable {fn:Func} {K K':List dI} {s s':St} {r:PV} {sin sout:aN} {rx:EV} {f:FuncId} {args:List PV} {F9:List EV} {A:Prop}
theorem lG(n:Nat)(ns:List Nat)(tr:List TE)(hA:A)(h:L a7 fn K' s' r)(ax:tz ns (run a7 nr fn n K s tr)=some (K',s',A):=by kernel_rfl):L a7 fn K s r:=L.go mixed wg hA ax h
theorem lD(n:Nat)(ns:List Nat)(tr:List TE)(hA:A)(ax:A4 ns (run a7 nr fn n K s tr)=some (r,A):=by kernel_rfl):L a7 fn K s r:=L.done mixed wg hA ax
theorem eG(hf:a7.funcs[f]? = some fn)(n:Nat)(ns:List Nat)(tr:List TE)(hA:A)(h:L a7 fn K' s' r)(mL:Ef fn (args.map EV.pv).length []=true:=by kernel_rfl)(ax:tz ns (run a7 nr fn n [.code (aA fn)] ⟨k8 0 (args.map EV.pv),[]⟩ tr)=some (K',s',A):=by kernel_rfl):fK a7 f args r:=fK.Nz hf mL (L.go mixed wg hA ax h)
theorem eD(hf:a7.funcs[f]? = some fn)(n:Nat)(ns:List Nat)(tr:List TE)(hA:A)(mL:Ef fn (args.map EV.pv).length []=true:=by kernel_rfl)(ax:A4 ns (run a7 nr fn n [.code (aA fn)] ⟨k8 0 (args.map EV.pv),[]⟩ tr)=some (r,A):=by kernel_rfl):fK a7 f args r:=fK.Nz hf mL (L.done mixed wg hA ax)
theorem yq(n:Nat)(ns:List Nat)(tr:List TE)(hs:sin.all (fun p=>Nat.ble fn.ntmps p.1)=true)(hA:A)(h:LX a7 fn K' s' sin rx sout)(ax:tz ns (run a7 nr fn n K s tr)=some (K',s',A):=by kernel_rfl):LX a7 fn K s sin rx sout:=LX.go mixed wg hs hA ax h
theorem uV(n:Nat)(ns:List Nat)(tr:List TE)(hs:sin.all (fun p=>Nat.ble fn.ntmps p.1)=true)(hi:sin.all (fun p=>pB p.1||(aN.get sout p.1).isSome)=true)(hA:A)(ax:Aj ns [] (run a7 nr fn n K s tr)=some (rx,sout,A):=by kernel_rfl):LX a7 fn K s sin rx sout:=LX.Ol mixed wg hs hi hA ax
theorem zK(hf:a7.funcs[f]? = some fn)(n:Nat)(ns:List Nat)(tr:List TE)(hA:A)(h:LX a7 fn K' s' sin rx sout)(mL:Ef fn F9.length sin=true:=by kernel_rfl)(hs:sin.all (fun p=>Nat.ble fn.ntmps p.1)=true:=by rfl)(ax:tz ns (run a7 nr fn n [.code (aA fn)] ⟨k8 0 F9,sin⟩ tr)=some (K',s',A):=by kernel_rfl):aw a7 f F9 sin rx sout:=aw.Nz hf mL (LX.go mixed wg hs hA ax h)
theorem K8(hf:a7.funcs[f]? = some fn)(n:Nat)(ns:List Nat)(tr:List TE)(hA:A)(mL:Ef fn F9.length sin=true:=by kernel_rfl)(hs:sin.all (fun p=>Nat.ble fn.ntmps p.1)=true:=by rfl)(ax:Aj ns sin (run a7 nr fn n [.code (aA fn)] ⟨k8 0 F9,sin⟩ tr)=some (rx,sout,A):=by kernel_rfl):aw a7 f F9 sin rx sout:=aw.Nz hf mL (LX.done mixed wg hs hA ax)
end
theorem y1{p0:Prop}(iy:p0):p0∧True:=⟨iy,trivial⟩
theorem y2{p0 p1:Prop}(iy:p0)(iL:p1):p0∧p1∧True:=⟨iy,iL,trivial⟩
theorem y3{p0 p1 p2:Prop}(iy:p0)(iL:p1)(iV:p2):p0∧p1∧p2∧True:=⟨iy,iL,iV,trivial⟩
theorem y4{p0 p1 p2 p3:Prop}(iy:p0)(iL:p1)(iV:p2)(jv:p3):p0∧p1∧p2∧p3∧True:=⟨iy,iL,iV,jv,trivial⟩
theorem y5{p0 p1 p2 p3 p4:Prop}(iy:p0)(iL:p1)(iV:p2)(jv:p3)(jR:p4):p0∧p1∧p2∧p3∧p4∧True:=⟨iy,iL,iV,jv,jR,trivial⟩
theorem y6{p0 p1 p2 p3 p4 p5:Prop}(iy:p0)(iL:p1)(iV:p2)(jv:p3)(jR:p4)(j0:p5):p0∧p1∧p2∧p3∧p4∧p5∧True:=⟨iy,iL,iV,jv,jR,j0,trivial⟩
theorem y7{p0 p1 p2 p3 p4 p5 p6:Prop}(iy:p0)(iL:p1)(iV:p2)(jv:p3)(jR:p4)(j0:p5)(kh:p6):p0∧p1∧p2∧p3∧p4∧p5∧p6∧True:=⟨iy,iL,iV,jv,jR,j0,kh,trivial⟩
theorem y8{p0 p1 p2 p3 p4 p5 p6 p7:Prop}(iy:p0)(iL:p1)(iV:p2)(jv:p3)(jR:p4)(j0:p5)(kh:p6)(kL:p7):p0∧p1∧p2∧p3∧p4∧p5∧p6∧p7∧True:=⟨iy,iL,iV,jv,jR,j0,kh,kL,trivial⟩
theorem y9{p0 p1 p2 p3 p4 p5 p6 p7 p8:Prop}(iy:p0)(iL:p1)(iV:p2)(jv:p3)(jR:p4)(j0:p5)(kh:p6)(kL:p7)(lf:p8):p0∧p1∧p2∧p3∧p4∧p5∧p6∧p7∧p8∧True:=⟨iy,iL,iV,jv,jR,j0,kh,kL,lf,trivial⟩
theorem wh{p0 p1 p2 p3 p4 p5 p6 p7 p8 p9:Prop}(iy:p0)(iL:p1)(iV:p2)(jv:p3)(jR:p4)(j0:p5)(kh:p6)(kL:p7)(lf:p8)(lR:p9):p0∧p1∧p2∧p3∧p4∧p5∧p6∧p7∧p8∧p9∧True:=⟨iy,iL,iV,jv,jR,j0,kh,kL,lf,lR,trivial⟩
theorem A8{p0 p1 p2 p3 p4 p5 p6 p7 p8 p9 gG:Prop}(iy:p0)(iL:p1)(iV:p2)(jv:p3)(jR:p4)(j0:p5)(kh:p6)(kL:p7)(lf:p8)(lR:p9)(eE:gG):p0∧p1∧p2∧p3∧p4∧p5∧p6∧p7∧p8∧p9∧gG∧True:=⟨iy,iL,iV,jv,jR,j0,kh,kL,lf,lR,eE,trivial⟩
theorem Jl{p0 p1 p2 p3 p4 p5 p6 p7 p8 p9 gG gU:Prop}(iy:p0)(iL:p1)(iV:p2)(jv:p3)(jR:p4)(j0:p5)(kh:p6)(kL:p7)(lf:p8)(lR:p9)(eE:gG)(eO:gU):p0∧p1∧p2∧p3∧p4∧p5∧p6∧p7∧p8∧p9∧gG∧gU∧True:=⟨iy,iL,iV,jv,jR,j0,kh,kL,lf,lR,eE,eO,trivial⟩
theorem HU{p0 p1 p2 p3 p4 p5 p6 p7 p8 p9 gG gU ir:Prop}(iy:p0)(iL:p1)(iV:p2)(jv:p3)(jR:p4)(j0:p5)(kh:p6)(kL:p7)(lf:p8)(lR:p9)(eE:gG)(eO:gU)(fg:ir):p0∧p1∧p2∧p3∧p4∧p5∧p6∧p7∧p8∧p9∧gG∧gU∧ir∧True:=⟨iy,iL,iV,jv,jR,j0,kh,kL,lf,lR,eE,eO,fg,trivial⟩
theorem Ga{p0 p1 p2 p3 p4 p5 p6 p7 p8 p9 gG gU ir iG:Prop}(iy:p0)(iL:p1)(iV:p2)(jv:p3)(jR:p4)(j0:p5)(kh:p6)(kL:p7)(lf:p8)(lR:p9)(eE:gG)(eO:gU)(fg:ir)(fv:iG):p0∧p1∧p2∧p3∧p4∧p5∧p6∧p7∧p8∧p9∧gG∧gU∧ir∧iG∧True:=⟨iy,iL,iV,jv,jR,j0,kh,kL,lf,lR,eE,eO,fg,fv,trivial⟩
theorem J9{p0 p1 p2 p3 p4 p5 p6 p7 p8 p9 gG gU ir iG iX:Prop}(iy:p0)(iL:p1)(iV:p2)(jv:p3)(jR:p4)(j0:p5)(kh:p6)(kL:p7)(lf:p8)(lR:p9)(eE:gG)(eO:gU)(fg:ir)(fv:iG)(fO:iX):p0∧p1∧p2∧p3∧p4∧p5∧p6∧p7∧p8∧p9∧gG∧gU∧ir∧iG∧iX∧True:=⟨iy,iL,iV,jv,jR,j0,kh,kL,lf,lR,eE,eO,fg,fv,fO,trivial⟩
theorem Ka{p0 p1 p2 p3 p4 p5 p6 p7 p8 p9 gG gU ir iG iX jJ:Prop}(iy:p0)(iL:p1)(iV:p2)(jv:p3)(jR:p4)(j0:p5)(kh:p6)(kL:p7)(lf:p8)(lR:p9)(eE:gG)(eO:gU)(fg:ir)(fv:iG)(fO:iX)(ga:jJ):p0∧p1∧p2∧p3∧p4∧p5∧p6∧p7∧p8∧p9∧gG∧gU∧ir∧iG∧iX∧jJ∧True:=⟨iy,iL,iV,jv,jR,j0,kh,kL,lf,lR,eE,eO,fg,fv,fO,ga,trivial⟩
theorem NA{p0 p1 p2 p3 p4 p5 p6 p7 p8 p9 gG gU ir iG iX jJ j5:Prop}(iy:p0)(iL:p1)(iV:p2)(jv:p3)(jR:p4)(j0:p5)(kh:p6)(kL:p7)(lf:p8)(lR:p9)(eE:gG)(eO:gU)(fg:ir)(fv:iG)(fO:iX)(ga:jJ)(gz:j5):p0∧p1∧p2∧p3∧p4∧p5∧p6∧p7∧p8∧p9∧gG∧gU∧ir∧iG∧iX∧jJ∧j5∧True:=⟨iy,iL,iV,jv,jR,j0,kh,kL,lf,lR,eE,eO,fg,fv,fO,ga,gz,trivial⟩
theorem Jm{p0 p1 p2 p3 p4 p5 p6 p7 p8 p9 gG gU ir iG iX jJ j5 kq:Prop}(iy:p0)(iL:p1)(iV:p2)(jv:p3)(jR:p4)(j0:p5)(kh:p6)(kL:p7)(lf:p8)(lR:p9)(eE:gG)(eO:gU)(fg:ir)(fv:iG)(fO:iX)(ga:jJ)(gz:j5)(gH:kq):p0∧p1∧p2∧p3∧p4∧p5∧p6∧p7∧p8∧p9∧gG∧gU∧ir∧iG∧iX∧jJ∧j5∧kq∧True:=⟨iy,iL,iV,jv,jR,j0,kh,kL,lf,lR,eE,eO,fg,fv,fO,ga,gz,gH,trivial⟩
theorem Ot{p0 p1 p2 p3 p4 p5 p6 p7 p8 p9 gG gU ir iG iX jJ j5 kq lg:Prop}(iy:p0)(iL:p1)(iV:p2)(jv:p3)(jR:p4)(j0:p5)(kh:p6)(kL:p7)(lf:p8)(lR:p9)(eE:gG)(eO:gU)(fg:ir)(fv:iG)(fO:iX)(ga:jJ)(gz:j5)(gH:kq)(gX:lg):p0∧p1∧p2∧p3∧p4∧p5∧p6∧p7∧p8∧p9∧gG∧gU∧ir∧iG∧iX∧jJ∧j5∧kq∧lg∧True:=⟨iy,iL,iV,jv,jR,j0,kh,kL,lf,lR,eE,eO,fg,fv,fO,ga,gz,gH,gX,trivial⟩
theorem Pw{p0 p1 p2 p3 p4 p5 p6 p7 p8 p9 gG gU ir iG iX jJ j5 kq lg lS:Prop}(iy:p0)(iL:p1)(iV:p2)(jv:p3)(jR:p4)(j0:p5)(kh:p6)(kL:p7)(lf:p8)(lR:p9)(eE:gG)(eO:gU)(fg:ir)(fv:iG)(fO:iX)(ga:jJ)(gz:j5)(gH:kq)(gX:lg)(iz:lS):p0∧p1∧p2∧p3∧p4∧p5∧p6∧p7∧p8∧p9∧gG∧gU∧ir∧iG∧iX∧jJ∧j5∧kq∧lg∧lS∧True:=⟨iy,iL,iV,jv,jR,j0,kh,kL,lf,lR,eE,eO,fg,fv,fO,ga,gz,gH,gX,iz,trivial⟩
theorem Px{p0 p1 p2 p3 p4 p5 p6 p7 p8 p9 gG gU ir iG iX jJ j5 kq lg lS mz:Prop}(iy:p0)(iL:p1)(iV:p2)(jv:p3)(jR:p4)(j0:p5)(kh:p6)(kL:p7)(lf:p8)(lR:p9)(eE:gG)(eO:gU)(fg:ir)(fv:iG)(fO:iX)(ga:jJ)(gz:j5)(gH:kq)(gX:lg)(iz:lS)(iY:mz):p0∧p1∧p2∧p3∧p4∧p5∧p6∧p7∧p8∧p9∧gG∧gU∧ir∧iG∧iX∧jJ∧j5∧kq∧lg∧lS∧mz∧True:=⟨iy,iL,iV,jv,jR,j0,kh,kL,lf,lR,eE,eO,fg,fv,fO,ga,gz,gH,gX,iz,iY,trivial⟩
theorem Kb{p0 p1 p2 p3 p4 p5 p6 p7 p8 p9 gG gU ir iG iX jJ j5 kq lg lS mz mY:Prop}(iy:p0)(iL:p1)(iV:p2)(jv:p3)(jR:p4)(j0:p5)(kh:p6)(kL:p7)(lf:p8)(lR:p9)(eE:gG)(eO:gU)(fg:ir)(fv:iG)(fO:iX)(ga:jJ)(gz:j5)(gH:kq)(gX:lg)(iz:lS)(iY:mz)(jS:mY):p0∧p1∧p2∧p3∧p4∧p5∧p6∧p7∧p8∧p9∧gG∧gU∧ir∧iG∧iX∧jJ∧j5∧kq∧lg∧lS∧mz∧mY∧True:=⟨iy,iL,iV,jv,jR,j0,kh,kL,lf,lR,eE,eO,fg,fv,fO,ga,gz,gH,gX,iz,iY,jS,trivial⟩
theorem QR{p0 p1 p2 p3 p4 p5 p6 p7 p8 p9 gG gU ir iG iX jJ j5 kq lg lS mz mY nX:Prop}(iy:p0)(iL:p1)(iV:p2)(jv:p3)(jR:p4)(j0:p5)(kh:p6)(kL:p7)(lf:p8)(lR:p9)(eE:gG)(eO:gU)(fg:ir)(fv:iG)(fO:iX)(ga:jJ)(gz:j5)(gH:kq)(gX:lg)(iz:lS)(iY:mz)(jS:mY)(ki:nX):p0∧p1∧p2∧p3∧p4∧p5∧p6∧p7∧p8∧p9∧gG∧gU∧ir∧iG∧iX∧jJ∧j5∧kq∧lg∧lS∧mz∧mY∧nX∧True:=⟨iy,iL,iV,jv,jR,j0,kh,kL,lf,lR,eE,eO,fg,fv,fO,ga,gz,gH,gX,iz,iY,jS,ki,trivial⟩
theorem Sx{p0 p1 p2 p3 p4 p5 p6 p7 p8 p9 gG gU ir iG iX jJ j5 kq lg lS mz mY nX oN:Prop}(iy:p0)(iL:p1)(iV:p2)(jv:p3)(jR:p4)(j0:p5)(kh:p6)(kL:p7)(lf:p8)(lR:p9)(eE:gG)(eO:gU)(fg:ir)(fv:iG)(fO:iX)(ga:jJ)(gz:j5)(gH:kq)(gX:lg)(iz:lS)(iY:mz)(jS:mY)(ki:nX)(lh:oN):p0∧p1∧p2∧p3∧p4∧p5∧p6∧p7∧p8∧p9∧gG∧gU∧ir∧iG∧iX∧jJ∧j5∧kq∧lg∧lS∧mz∧mY∧nX∧oN∧True:=⟨iy,iL,iV,jv,jR,j0,kh,kL,lf,lR,eE,eO,fg,fv,fO,ga,gz,gH,gX,iz,iY,jS,ki,lh,trivial⟩
theorem T7{p0 p1 p2 p3 p4 p5 p6 p7 p8 p9 gG gU ir iG iX jJ j5 kq lg lS mz mY nX oN pW:Prop}(iy:p0)(iL:p1)(iV:p2)(jv:p3)(jR:p4)(j0:p5)(kh:p6)(kL:p7)(lf:p8)(lR:p9)(eE:gG)(eO:gU)(fg:ir)(fv:iG)(fO:iX)(ga:jJ)(gz:j5)(gH:kq)(gX:lg)(iz:lS)(iY:mz)(jS:mY)(ki:nX)(lh:oN)(l8:pW):p0∧p1∧p2∧p3∧p4∧p5∧p6∧p7∧p8∧p9∧gG∧gU∧ir∧iG∧iX∧jJ∧j5∧kq∧lg∧lS∧mz∧mY∧nX∧oN∧pW∧True:=⟨iy,iL,iV,jv,jR,j0,kh,kL,lf,lR,eE,eO,fg,fv,fO,ga,gz,gH,gX,iz,iY,jS,ki,lh,l8,trivial⟩
theorem Py{p0 p1 p2 p3 p4 p5 p6 p7 p8 p9 gG gU ir iG iX jJ j5 kq lg lS mz mY nX oN pW qW:Prop}(iy:p0)(iL:p1)(iV:p2)(jv:p3)(jR:p4)(j0:p5)(kh:p6)(kL:p7)(lf:p8)(lR:p9)(eE:gG)(eO:gU)(fg:ir)(fv:iG)(fO:iX)(ga:jJ)(gz:j5)(gH:kq)(gX:lg)(iz:lS)(iY:mz)(jS:mY)(ki:nX)(lh:oN)(l8:pW)(mU:qW):p0∧p1∧p2∧p3∧p4∧p5∧p6∧p7∧p8∧p9∧gG∧gU∧ir∧iG∧iX∧jJ∧j5∧kq∧lg∧lS∧mz∧mY∧nX∧oN∧pW∧qW∧True:=⟨iy,iL,iV,jv,jR,j0,kh,kL,lf,lR,eE,eO,fg,fv,fO,ga,gz,gH,gX,iz,iY,jS,ki,lh,l8,mU,trivial⟩
theorem T8{p0 p1 p2 p3 p4 p5 p6 p7 p8 p9 gG gU ir iG iX jJ j5 kq lg lS mz mY nX oN pW qW rG:Prop}(iy:p0)(iL:p1)(iV:p2)(jv:p3)(jR:p4)(j0:p5)(kh:p6)(kL:p7)(lf:p8)(lR:p9)(eE:gG)(eO:gU)(fg:ir)(fv:iG)(fO:iX)(ga:jJ)(gz:j5)(gH:kq)(gX:lg)(iz:lS)(iY:mz)(jS:mY)(ki:nX)(lh:oN)(l8:pW)(mU:qW)(nY:rG):p0∧p1∧p2∧p3∧p4∧p5∧p6∧p7∧p8∧p9∧gG∧gU∧ir∧iG∧iX∧jJ∧j5∧kq∧lg∧lS∧mz∧mY∧nX∧oN∧pW∧qW∧rG∧True:=⟨iy,iL,iV,jv,jR,j0,kh,kL,lf,lR,eE,eO,fg,fv,fO,ga,gz,gH,gX,iz,iY,jS,ki,lh,l8,mU,nY,trivial⟩
theorem Sy{p0 p1 p2 p3 p4 p5 p6 p7 p8 p9 gG gU ir iG iX jJ j5 kq lg lS mz mY nX oN pW qW rG sW:Prop}(iy:p0)(iL:p1)(iV:p2)(jv:p3)(jR:p4)(j0:p5)(kh:p6)(kL:p7)(lf:p8)(lR:p9)(eE:gG)(eO:gU)(fg:ir)(fv:iG)(fO:iX)(ga:jJ)(gz:j5)(gH:kq)(gX:lg)(iz:lS)(iY:mz)(jS:mY)(ki:nX)(lh:oN)(l8:pW)(mU:qW)(nY:rG)(po:sW):p0∧p1∧p2∧p3∧p4∧p5∧p6∧p7∧p8∧p9∧gG∧gU∧ir∧iG∧iX∧jJ∧j5∧kq∧lg∧lS∧mz∧mY∧nX∧oN∧pW∧qW∧rG∧sW∧True:=⟨iy,iL,iV,jv,jR,j0,kh,kL,lf,lR,eE,eO,fg,fv,fO,ga,gz,gH,gX,iz,iY,jS,ki,lh,l8,mU,nY,po,trivial⟩
theorem T9{p0 p1 p2 p3 p4 p5 p6 p7 p8 p9 gG gU ir iG iX jJ j5 kq lg lS mz mY nX oN pW qW rG sW ux:Prop}(iy:p0)(iL:p1)(iV:p2)(jv:p3)(jR:p4)(j0:p5)(kh:p6)(kL:p7)(lf:p8)(lR:p9)(eE:gG)(eO:gU)(fg:ir)(fv:iG)(fO:iX)(ga:jJ)(gz:j5)(gH:kq)(gX:lg)(iz:lS)(iY:mz)(jS:mY)(ki:nX)(lh:oN)(l8:pW)(mU:qW)(nY:rG)(po:sW)(qx:ux):p0∧p1∧p2∧p3∧p4∧p5∧p6∧p7∧p8∧p9∧gG∧gU∧ir∧iG∧iX∧jJ∧j5∧kq∧lg∧lS∧mz∧mY∧nX∧oN∧pW∧qW∧rG∧sW∧ux∧True:=⟨iy,iL,iV,jv,jR,j0,kh,kL,lf,lR,eE,eO,fg,fv,fO,ga,gz,gH,gX,iz,iY,jS,ki,lh,l8,mU,nY,po,qx,trivial⟩
theorem SA{p0 p1 p2 p3 p4 p5 p6 p7 p8 p9 gG gU ir iG iX jJ j5 kq lg lS mz mY nX oN pW qW rG sW ux wi:Prop}(iy:p0)(iL:p1)(iV:p2)(jv:p3)(jR:p4)(j0:p5)(kh:p6)(kL:p7)(lf:p8)(lR:p9)(eE:gG)(eO:gU)(fg:ir)(fv:iG)(fO:iX)(ga:jJ)(gz:j5)(gH:kq)(gX:lg)(iz:lS)(iY:mz)(jS:mY)(ki:nX)(lh:oN)(l8:pW)(mU:qW)(nY:rG)(po:sW)(qx:ux)(rH:wi):p0∧p1∧p2∧p3∧p4∧p5∧p6∧p7∧p8∧p9∧gG∧gU∧ir∧iG∧iX∧jJ∧j5∧kq∧lg∧lS∧mz∧mY∧nX∧oN∧pW∧qW∧rG∧sW∧ux∧wi∧True:=⟨iy,iL,iV,jv,jR,j0,kh,kL,lf,lR,eE,eO,fg,fv,fO,ga,gz,gH,gX,iz,iY,jS,ki,lh,l8,mU,nY,po,qx,rH,trivial⟩
theorem Pz{p0 p1 p2 p3 p4 p5 p6 p7 p8 p9 gG gU ir iG iX jJ j5 kq lg lS mz mY nX oN pW qW rG sW ux wi yr:Prop}(iy:p0)(iL:p1)(iV:p2)(jv:p3)(jR:p4)(j0:p5)(kh:p6)(kL:p7)(lf:p8)(lR:p9)(eE:gG)(eO:gU)(fg:ir)(fv:iG)(fO:iX)(ga:jJ)(gz:j5)(gH:kq)(gX:lg)(iz:lS)(iY:mz)(jS:mY)(ki:nX)(lh:oN)(l8:pW)(mU:qW)(nY:rG)(po:sW)(qx:ux)(rH:wi)(tC:yr):p0∧p1∧p2∧p3∧p4∧p5∧p6∧p7∧p8∧p9∧gG∧gU∧ir∧iG∧iX∧jJ∧j5∧kq∧lg∧lS∧mz∧mY∧nX∧oN∧pW∧qW∧rG∧sW∧ux∧wi∧yr∧True:=⟨iy,iL,iV,jv,jR,j0,kh,kL,lf,lR,eE,eO,fg,fv,fO,ga,gz,gH,gX,iz,iY,jS,ki,lh,l8,mU,nY,po,qx,rH,tC,trivial⟩
theorem QS{p0 p1 p2 p3 p4 p5 p6 p7 p8 p9 gG gU ir iG iX jJ j5 kq lg lS mz mY nX oN pW qW rG sW ux wi yr Am:Prop}(iy:p0)(iL:p1)(iV:p2)(jv:p3)(jR:p4)(j0:p5)(kh:p6)(kL:p7)(lf:p8)(lR:p9)(eE:gG)(eO:gU)(fg:ir)(fv:iG)(fO:iX)(ga:jJ)(gz:j5)(gH:kq)(gX:lg)(iz:lS)(iY:mz)(jS:mY)(ki:nX)(lh:oN)(l8:pW)(mU:qW)(nY:rG)(po:sW)(qx:ux)(rH:wi)(tC:yr)(vu:Am):p0∧p1∧p2∧p3∧p4∧p5∧p6∧p7∧p8∧p9∧gG∧gU∧ir∧iG∧iX∧jJ∧j5∧kq∧lg∧lS∧mz∧mY∧nX∧oN∧pW∧qW∧rG∧sW∧ux∧wi∧yr∧Am∧True:=⟨iy,iL,iV,jv,jR,j0,kh,kL,lf,lR,eE,eO,fg,fv,fO,ga,gz,gH,gX,iz,iY,jS,ki,lh,l8,mU,nY,po,qx,rH,tC,vu,trivial⟩
theorem SB{p0 p1 p2 p3 p4 p5 p6 p7 p8 p9 gG gU ir iG iX jJ j5 kq lg lS mz mY nX oN pW qW rG sW ux wi yr Am CI:Prop}(iy:p0)(iL:p1)(iV:p2)(jv:p3)(jR:p4)(j0:p5)(kh:p6)(kL:p7)(lf:p8)(lR:p9)(eE:gG)(eO:gU)(fg:ir)(fv:iG)(fO:iX)(ga:jJ)(gz:j5)(gH:kq)(gX:lg)(iz:lS)(iY:mz)(jS:mY)(ki:nX)(lh:oN)(l8:pW)(mU:qW)(nY:rG)(po:sW)(qx:ux)(rH:wi)(tC:yr)(vu:Am)(yu:CI):p0∧p1∧p2∧p3∧p4∧p5∧p6∧p7∧p8∧p9∧gG∧gU∧ir∧iG∧iX∧jJ∧j5∧kq∧lg∧lS∧mz∧mY∧nX∧oN∧pW∧qW∧rG∧sW∧ux∧wi∧yr∧Am∧CI∧True:=⟨iy,iL,iV,jv,jR,j0,kh,kL,lf,lR,eE,eO,fg,fv,fO,ga,gz,gH,gX,iz,iY,jS,ki,lh,l8,mU,nY,po,qx,rH,tC,vu,yu,trivial⟩
theorem PA{p0 p1 p2 p3 p4 p5 p6 p7 p8 p9 gG gU ir iG iX jJ j5 kq lg lS mz mY nX oN pW qW rG sW ux wi yr Am CI Fh:Prop}(iy:p0)(iL:p1)(iV:p2)(jv:p3)(jR:p4)(j0:p5)(kh:p6)(kL:p7)(lf:p8)(lR:p9)(eE:gG)(eO:gU)(fg:ir)(fv:iG)(fO:iX)(ga:jJ)(gz:j5)(gH:kq)(gX:lg)(iz:lS)(iY:mz)(jS:mY)(ki:nX)(lh:oN)(l8:pW)(mU:qW)(nY:rG)(po:sW)(qx:ux)(rH:wi)(tC:yr)(vu:Am)(yu:CI)(A9:Fh):p0∧p1∧p2∧p3∧p4∧p5∧p6∧p7∧p8∧p9∧gG∧gU∧ir∧iG∧iX∧jJ∧j5∧kq∧lg∧lS∧mz∧mY∧nX∧oN∧pW∧qW∧rG∧sW∧ux∧wi∧yr∧Am∧CI∧Fh∧True:=⟨iy,iL,iV,jv,jR,j0,kh,kL,lf,lR,eE,eO,fg,fv,fO,ga,gz,gH,gX,iz,iY,jS,ki,lh,l8,mU,nY,po,qx,rH,tC,vu,yu,A9,trivial⟩
theorem QT{p0 p1 p2 p3 p4 p5 p6 p7 p8 p9 gG gU ir iG iX jJ j5 kq lg lS mz mY nX oN pW qW rG sW ux wi yr Am CI Fh HV:Prop}(iy:p0)(iL:p1)(iV:p2)(jv:p3)(jR:p4)(j0:p5)(kh:p6)(kL:p7)(lf:p8)(lR:p9)(eE:gG)(eO:gU)(fg:ir)(fv:iG)(fO:iX)(ga:jJ)(gz:j5)(gH:kq)(gX:lg)(iz:lS)(iY:mz)(jS:mY)(ki:nX)(lh:oN)(l8:pW)(mU:qW)(nY:rG)(po:sW)(qx:ux)(rH:wi)(tC:yr)(vu:Am)(yu:CI)(A9:Fh)(Eh:HV):p0∧p1∧p2∧p3∧p4∧p5∧p6∧p7∧p8∧p9∧gG∧gU∧ir∧iG∧iX∧jJ∧j5∧kq∧lg∧lS∧mz∧mY∧nX∧oN∧pW∧qW∧rG∧sW∧ux∧wi∧yr∧Am∧CI∧Fh∧HV∧True:=⟨iy,iL,iV,jv,jR,j0,kh,kL,lf,lR,eE,eO,fg,fv,fO,ga,gz,gH,gX,iz,iY,jS,ki,lh,l8,mU,nY,po,qx,rH,tC,vu,yu,A9,Eh,trivial⟩
theorem SD{p0 p1 p2 p3 p4 p5 p6 p7 p8 p9 gG gU ir iG iX jJ j5 kq lg lS mz mY nX oN pW qW rG sW ux wi yr Am CI Fh HV K9 La:Prop}(iy:p0)(iL:p1)(iV:p2)(jv:p3)(jR:p4)(j0:p5)(kh:p6)(kL:p7)(lf:p8)(lR:p9)(eE:gG)(eO:gU)(fg:ir)(fv:iG)(fO:iX)(ga:jJ)(gz:j5)(gH:kq)(gX:lg)(iz:lS)(iY:mz)(jS:mY)(ki:nX)(lh:oN)(l8:pW)(mU:qW)(nY:rG)(po:sW)(qx:ux)(rH:wi)(tC:yr)(vu:Am)(yu:CI)(A9:Fh)(Eh:HV)(HW:K9)(HX:La):p0∧p1∧p2∧p3∧p4∧p5∧p6∧p7∧p8∧p9∧gG∧gU∧ir∧iG∧iX∧jJ∧j5∧kq∧lg∧lS∧mz∧mY∧nX∧oN∧pW∧qW∧rG∧sW∧ux∧wi∧yr∧Am∧CI∧Fh∧HV∧K9∧La∧True:=⟨iy,iL,iV,jv,jR,j0,kh,kL,lf,lR,eE,eO,fg,fv,fO,ga,gz,gH,gX,iz,iY,jS,ki,lh,l8,mU,nY,po,qx,rH,tC,vu,yu,A9,Eh,HW,HX,trivial⟩
theorem Ua{p0 p1 p2 p3 p4 p5 p6 p7 p8 p9 gG gU ir iG iX jJ j5 kq lg lS mz mY nX oN pW qW rG sW ux wi yr Am CI Fh HV K9 La Ou:Prop}(iy:p0)(iL:p1)(iV:p2)(jv:p3)(jR:p4)(j0:p5)(kh:p6)(kL:p7)(lf:p8)(lR:p9)(eE:gG)(eO:gU)(fg:ir)(fv:iG)(fO:iX)(ga:jJ)(gz:j5)(gH:kq)(gX:lg)(iz:lS)(iY:mz)(jS:mY)(ki:nX)(lh:oN)(l8:pW)(mU:qW)(nY:rG)(po:sW)(qx:ux)(rH:wi)(tC:yr)(vu:Am)(yu:CI)(A9:Fh)(Eh:HV)(HW:K9)(HX:La)(Mi:Ou):p0∧p1∧p2∧p3∧p4∧p5∧p6∧p7∧p8∧p9∧gG∧gU∧ir∧iG∧iX∧jJ∧j5∧kq∧lg∧lS∧mz∧mY∧nX∧oN∧pW∧qW∧rG∧sW∧ux∧wi∧yr∧Am∧CI∧Fh∧HV∧K9∧La∧Ou∧True:=⟨iy,iL,iV,jv,jR,j0,kh,kL,lf,lR,eE,eO,fg,fv,fO,ga,gz,gH,gX,iz,iY,jS,ki,lh,l8,mU,nY,po,qx,rH,tC,vu,yu,A9,Eh,HW,HX,Mi,trivial⟩
theorem Kc{p0 p1 p2 p3 p4 p5 p6 p7 p8 p9 gG gU ir iG iX jJ j5 kq lg lS mz mY nX oN pW qW rG sW ux wi yr Am CI Fh HV K9 La Ou SE SF:Prop}(iy:p0)(iL:p1)(iV:p2)(jv:p3)(jR:p4)(j0:p5)(kh:p6)(kL:p7)(lf:p8)(lR:p9)(eE:gG)(eO:gU)(fg:ir)(fv:iG)(fO:iX)(ga:jJ)(gz:j5)(gH:kq)(gX:lg)(iz:lS)(iY:mz)(jS:mY)(ki:nX)(lh:oN)(l8:pW)(mU:qW)(nY:rG)(po:sW)(qx:ux)(rH:wi)(tC:yr)(vu:Am)(yu:CI)(A9:Fh)(Eh:HV)(HW:K9)(HX:La)(Mi:Ou)(QU:SE)(QV:SF):p0∧p1∧p2∧p3∧p4∧p5∧p6∧p7∧p8∧p9∧gG∧gU∧ir∧iG∧iX∧jJ∧j5∧kq∧lg∧lS∧mz∧mY∧nX∧oN∧pW∧qW∧rG∧sW∧ux∧wi∧yr∧Am∧CI∧Fh∧HV∧K9∧La∧Ou∧SE∧SF∧True:=⟨iy,iL,iV,jv,jR,j0,kh,kL,lf,lR,eE,eO,fg,fv,fO,ga,gz,gH,gX,iz,iY,jS,ki,lh,l8,mU,nY,po,qx,rH,tC,vu,yu,A9,Eh,HW,HX,Mi,QU,QV,trivial⟩
end Go.Proofs.YtfjfekodeplcoaaGreat.Sym
