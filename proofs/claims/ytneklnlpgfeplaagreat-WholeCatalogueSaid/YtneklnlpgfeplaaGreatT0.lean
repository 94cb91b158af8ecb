/- Lemmas for the statements of this seat. -/
import Derived.Test.YtneklnlpgfeplaaGreatW27
import Derived.Test.YtneklnlpgfeplaaGreatProg
namespace Go.Proofs.YtneklnlpgfeplaaGreat.Sym
open Go
structure aq where
 neg:Bool
 num:List UInt32
 den:List UInt32
def aq.cells(x:aq):List PV:=[(vB x.neg),(af x.num),(af x.den)]
def aq.pv(x:aq):PV := .agg x.cells
theorem bN:Sz aq.cells 3:=fun _=>rfl
abbrev SH:=List aq
abbrev ae(p:SH):PV := .list (p.map aq.cells)
structure bn where
 t:aq
 half:Bool
def bn.cells(x:bn):List PV:=[(vB x.t.neg),(af x.t.num),(af x.t.den),(vB x.half)]
def bn.pv(x:bn):PV := .agg x.cells
theorem KR:Sz bn.cells 4:=fun _=>rfl
structure bQ where
 GP:bn
 out:bn
def bQ.cells(x:bQ):List PV:=[(vB x.GP.t.neg),(af x.GP.t.num),(af x.GP.t.den),(vB x.GP.half),(vB x.out.t.neg),(af x.out.t.num),(af x.out.t.den),(vB x.out.half)]
def bQ.pv(x:bQ):PV := .agg x.cells
structure aN where
 g:List aq
 a:List aq
 b:List aq
 c:List aq
 bP:List bQ
def aN.cells(x:aN):List PV:=[(ae x.g),(ae x.a),(ae x.b),(ae x.c),(an bQ.cells x.bP)]
def aN.pv(x:aN):PV := .agg x.cells
structure ba where
 f0:Int
 f1:Int
 f2:Int
 f3:Int
def ba.cells(x:ba):List PV:=[(vI x.f0),(vI x.f1),(vI x.f2),(vI x.f3)]
def ba.pv(x:ba):PV := .agg x.cells
structure bW where
 index:ba
 cost:aq
def bW.cells(x:bW):List PV:=[(vI x.index.f0),(vI x.index.f1),(vI x.index.f2),(vI x.index.f3),(vB x.cost.neg),(af x.cost.num),(af x.cost.den)]
def bW.pv(x:bW):PV := .agg x.cells
inductive aI where
 |mk (a b:Int) (k:List aI)
noncomputable def aI.cells(x:aI):List PV:=aI.rec (motive_1:=fun _=>List PV) (motive_2:=fun _=>List (List PV)) (fun a b _ ih=>[vI a,vI b,.list ih]) [] (fun _ _ h ih=>h::ih) x
noncomputable def AS(l:List aI):List (List PV):=aI.rec_1 (motive_1:=fun _=>List PV) (motive_2:=fun _=>List (List PV)) (fun a b _ ih=>[vI a,vI b,.list ih]) [] (fun _ _ h ih=>h::ih) l
noncomputable def aI.pv(x:aI):PV := .agg x.cells
theorem yj:Sz aI.cells 3:=fun x=>by cases x;rfl
theorem wJ:∀l:List aI,AS l=l.map aI.cells
 |[]=>rfl
 |x::l=>by show x.cells::AS l=_;rw[wJ l];rfl
theorem cS(l:List aI):(((AS l).length:Nat):Int)=((l.length:Nat):Int):=by rw[wJ,abS]
theorem qF{l:List aI}{n:Int}{k:Nat}{v:aI}(h:n=(k:Int))(hk:l[k]? = some v):n=(k:Int)∧(AS l)[k]? = some v.cells∧v.cells.length=3:=⟨h,by rw[wJ,abR,hk];rfl,yj v⟩
structure ck where
 g:aq
 a:aq
 c:aq
 b2:aq
def ck.cells(x:ck):List PV:=[(vB x.g.neg),(af x.g.num),(af x.g.den),(vB x.a.neg),(af x.a.num),(af x.a.den),(vB x.c.neg),(af x.c.num),(af x.c.den),(vB x.b2.neg),(af x.b2.num),(af x.b2.den)]
def ck.pv(x:ck):PV := .agg x.cells
structure cR where
 name:ByteArray
 x:aq
 y:aq
def cR.cells(x:cR):List PV:=[(.str x.name),(vB x.x.neg),(af x.x.num),(af x.x.den),(vB x.y.neg),(af x.y.num),(af x.y.den)]
def cR.pv(x:cR):PV := .agg x.cells
theorem tq:Sz cR.cells 7:=fun _=>rfl
structure aK where
 name:ByteArray
 points:List cR
def aK.cells(x:aK):List PV:=[(.str x.name),(an cR.cells x.points)]
theorem Fg:Sz aK.cells 2:=fun _=>rfl
structure az where
 name:ByteArray
 kind:Int
 a:Int
 wK:Int
 b:Int
 Ni:Int
 Uz:Int
def az.cells(x:az):List PV:=[(.str x.name),(vI x.kind),(vI x.a),(vI x.wK),(vI x.b),(vI x.Ni),(vI x.Uz)]
def az.pv(x:az):PV := .agg x.cells
theorem CL:Sz az.cells 7:=fun _=>rfl
structure ax where
 name:ByteArray
 body:Int
def ax.cells(x:ax):List PV:=[(.str x.name),(vI x.body)]
def ax.pv(x:ax):PV := .agg x.cells
theorem vw:Sz ax.cells 2:=fun _=>rfl
structure aM where
 name:ByteArray
 ai:List aK
 au:List az
 aB:List ax
def aM.cells(x:aM):List PV:=[(.str x.name),(an aK.cells x.ai),(an az.cells x.au),(an ax.cells x.aB)]
def aM.pv(x:aM):PV := .agg x.cells
structure oO where
 g:aq
 a:aq
 b:aq
 c:aq
 u:aq
 v:aq
def oO.cells(x:oO):List PV:=[(vB x.g.neg),(af x.g.num),(af x.g.den),(vB x.a.neg),(af x.a.num),(af x.a.den),(vB x.b.neg),(af x.b.num),(af x.b.den),(vB x.c.neg),(af x.c.num),(af x.c.den),(vB x.u.neg),(af x.u.num),(af x.u.den),(vB x.v.neg),(af x.v.num),(af x.v.den)]
def oO.pv(x:oO):PV := .agg x.cells
structure fF where
 kind:Int
 index:Int
def fF.cells(x:fF):List PV:=[(vI x.kind),(vI x.index)]
def fF.pv(x:fF):PV := .agg x.cells
structure aU where
 roots:List (List aq)
def aU.cells(x:aU):List PV:=[(an (dF aq.cells) x.roots)]
def aU.pv(x:aU):PV := .agg x.cells
structure aw where
 cos:List aq
 sin:List aq
 x:List aq
 y:List aq
def aw.cells(x:aw):List PV:=[(ae x.cos),(ae x.sin),(ae x.x),(ae x.y)]
def aw.pv(x:aw):PV := .agg x.cells
theorem iy:Sz aw.cells 4:=fun _=>rfl
structure aF where
 bh:aU
 ai:List aw
 bq:List Int
def aF.cells(x:aF):List PV:=[(an (dF aq.cells) x.bh.roots),(an aw.cells x.ai),(an aj x.bq)]
def aF.pv(x:aF):PV := .agg x.cells
theorem wL:Sz aF.cells 3:=fun _=>rfl
structure c9 where
 f0:List aq
 f1:List aq
 f2:List aq
 f3:List aq
def c9.cells(x:c9):List PV:=[(ae x.f0),(ae x.f1),(ae x.f2),(ae x.f3)]
def c9.pv(x:c9):PV := .agg x.cells
structure aR where
 neg:Bool
 db:List UInt32
def aR.cells(x:aR):List PV:=[(vB x.neg),(af x.db)]
def aR.pv(x:aR):PV := .agg x.cells
structure fO where
 lo:aq
 hi:aq
def fO.cells(x:fO):List PV:=[(vB x.lo.neg),(af x.lo.num),(af x.lo.den),(vB x.hi.neg),(af x.hi.num),(af x.hi.den)]
def fO.pv(x:fO):PV := .agg x.cells
structure oP where
 gc:aq
 ga:aq
 ac:aq
def oP.cells(x:oP):List PV:=[(vB x.gc.neg),(af x.gc.num),(af x.gc.den),(vB x.ga.neg),(af x.ga.num),(af x.ga.den),(vB x.ac.neg),(af x.ac.num),(af x.ac.den)]
def oP.pv(x:oP):PV := .agg x.cells
structure GQ where
 a:aq
 b:aq
 value:aq
def GQ.cells(x:GQ):List PV:=[(vB x.a.neg),(af x.a.num),(af x.a.den),(vB x.b.neg),(af x.b.num),(af x.b.den),(vB x.value.neg),(af x.value.num),(af x.value.den)]
def GQ.pv(x:GQ):PV := .agg x.cells
structure aC where
 kind:Int
 ai:List Int
 au:List Int
 bC:Int
def aC.cells(x:aC):List PV:=[(vI x.kind),(an aj x.ai),(an aj x.au),(vI x.bC)]
def aC.pv(x:aC):PV := .agg x.cells
theorem CM:Sz aC.cells 4:=fun _=>rfl
structure bl where
 bh:aU
 km:List aw
 mode:Int
def bl.cells(x:bl):List PV:=[(an (dF aq.cells) x.bh.roots),(an aw.cells x.km),(vI x.mode)]
def bl.pv(x:bl):PV := .agg x.cells
theorem vx:Sz bl.cells 3:=fun _=>rfl
structure bp where
 x:List aq
 y:List aq
def bp.cells(x:bp):List PV:=[(ae x.x),(ae x.y)]
def bp.pv(x:bp):PV := .agg x.cells
theorem mM:Sz bp.cells 2:=fun _=>rfl
structure cw where
 x:aq
 y:aq
def cw.cells(x:cw):List PV:=[(vB x.x.neg),(af x.x.num),(af x.x.den),(vB x.y.neg),(af x.y.num),(af x.y.den)]
def cw.pv(x:cw):PV := .agg x.cells
theorem I9:Sz cw.cells 6:=fun _=>rfl
structure fG where
 p:cw
 Rv:bp
 c:cw
def fG.cells(x:fG):List PV:=[(vB x.p.x.neg),(af x.p.x.num),(af x.p.x.den),(vB x.p.y.neg),(af x.p.y.num),(af x.p.y.den),(ae x.Rv.x),(ae x.Rv.y),(vB x.c.x.neg),(af x.c.x.num),(af x.c.x.den),(vB x.c.y.neg),(af x.c.y.num),(af x.c.y.den)]
def fG.pv(x:fG):PV := .agg x.cells
theorem KS:Sz fG.cells 14:=fun _=>rfl
structure sD where
 bh:aU
 points:List bp
def sD.cells(x:sD):List PV:=[(an (dF aq.cells) x.bh.roots),(an bp.cells x.points)]
def sD.pv(x:sD):PV := .agg x.cells
structure cC where
 nS:bp
 r2:List aq
def cC.cells(x:cC):List PV:=[(ae x.nS.x),(ae x.nS.y),(ae x.r2)]
def cC.pv(x:cC):PV := .agg x.cells
theorem GR:Sz cC.cells 3:=fun _=>rfl
@[reducible] noncomputable def aV:Program:=Tryz.prog
def ql:ja:=[(2,⟨.int .i64,1,8,false,[.int .i64 0],[]⟩),
 (3,⟨.int .i64,1,8,false,[.int .i64 0],[]⟩),
 (4,⟨.bool,1,1,false,[(vB false)],[]⟩),
 (5,⟨.int .u8,1,1,false,[.int .u8 0],[]⟩),
 (6,⟨.int .u8,1,1,false,[.int .u8 0],[]⟩),
 (7,⟨.struct [(0,1,false),(1,1,false),(2,1,false),(3,1,false)],4,24,true,[.int .i64 0,.int .i64 0,(vB false),.int .u8 0],[]⟩),
 (8,⟨.struct [(0,1,false),(1,1,false),(2,1,false),(3,1,false)],4,24,true,[.int .i64 0,.int .i64 0,(vB false),.int .u8 0],[]⟩),
 (9,⟨.str,1,16,false,[.str ByteArray.empty],[]⟩),
 (10,⟨.str,1,16,false,[.str ByteArray.empty],[]⟩),
 (11,⟨.str,1,16,false,[.str ByteArray.empty],[]⟩),
 (12,⟨.int .u64,1,8,false,[.int .u64 0],[]⟩),
 (13,⟨.struct [(0,1,false),(1,1,false)],2,24,true,[.str ByteArray.empty,.int .u64 0],[]⟩),
 (14,⟨.struct [(0,1,false),(1,1,false)],2,24,true,[.str ByteArray.empty,.int .u64 0],[]⟩),
 (20,⟨.iface,1,16,false,[.ar],[]⟩),
 (21,⟨.int .i32,1,4,false,[.int .i32 0],[]⟩),
 (22,⟨.slice 29,1,24,false,[.aT],[]⟩),
 (23,⟨.slice 42,1,24,false,[.aT],[]⟩),
 (24,⟨.struct [(0,1,false),(1,1,false),(2,1,false),(3,1,false),(4,1,false)],5,120,true,[.aT,.aT,.aT,.aT,.aT],[]⟩),
 (25,⟨.struct [(0,1,false),(1,1,false),(2,1,false),(3,1,false),(4,1,false)],5,120,true,[.aT,.aT,.aT,.aT,.aT],[]⟩),
 (26,⟨.array 4 3,4,32,true,[.int .i64 0,.int .i64 0,.int .i64 0,.int .i64 0],[]⟩),
 (27,⟨.slice 155,1,24,false,[.aT],[]⟩),
 (28,⟨.struct [(0,1,false),(1,1,false),(2,1,false)],3,56,true,[(vB false),.aT,.aT],[]⟩),
 (29,⟨.struct [(0,1,false),(1,1,false),(2,1,false)],3,56,true,[(vB false),.aT,.aT],[]⟩),
 (30,⟨.struct [(0,4,true),(4,3,true)],7,88,true,[.int .i64 0,.int .i64 0,.int .i64 0,.int .i64 0,(vB false),.aT,.aT],[]⟩),
 (31,⟨.struct [(0,4,true),(4,3,true)],7,88,true,[.int .i64 0,.int .i64 0,.int .i64 0,.int .i64 0,(vB false),.aT,.aT],[]⟩),
 (32,⟨.slice 34,1,24,false,[.aT],[]⟩),
 (33,⟨.struct [(0,1,false),(1,1,false),(2,1,false)],3,40,true,[.int .i64 0,.int .i64 0,.aT],[]⟩),
 (34,⟨.struct [(0,1,false),(1,1,false),(2,1,false)],3,40,true,[.int .i64 0,.int .i64 0,.aT],[]⟩),
 (36,⟨.other,1,8,false,[.bD],[]⟩),
 (37,⟨.other,1,8,false,[.bD],[]⟩),
 (38,⟨.other,1,8,false,[.bD],[]⟩),
 (39,⟨.struct [(0,3,true),(3,1,false)],4,64,true,[(vB false),.aT,.aT,(vB false)],[]⟩),
 (40,⟨.struct [(0,3,true),(3,1,false)],4,64,true,[(vB false),.aT,.aT,(vB false)],[]⟩),
 (41,⟨.struct [(0,4,true),(4,4,true)],8,128,true,[(vB false),.aT,.aT,(vB false),(vB false),.aT,.aT,(vB false)],[]⟩),
 (42,⟨.struct [(0,4,true),(4,4,true)],8,128,true,[(vB false),.aT,.aT,(vB false),(vB false),.aT,.aT,(vB false)],[]⟩),
 (43,⟨.iface,1,16,false,[.ar],[]⟩),
 (44,⟨.iface,1,16,false,[.ar],[]⟩),
 (45,⟨.other,1,8,false,[.bD],[]⟩),
 (47,⟨.other,1,8,false,[.bD],[]⟩),
 (49,⟨.other,1,8,false,[.bD],[]⟩),
 (50,⟨.other,1,8,false,[.bD],[]⟩),
 (51,⟨.slice 3,1,24,false,[.aT],[]⟩),
 (52,⟨.other,1,8,false,[.bD],[]⟩),
 (53,⟨.struct [(0,3,true),(3,3,true),(6,3,true),(9,3,true)],12,224,true,[(vB false),.aT,.aT,(vB false),.aT,.aT,(vB false),.aT,.aT,(vB false),.aT,.aT],[]⟩),
 (54,⟨.struct [(0,3,true),(3,3,true),(6,3,true),(9,3,true)],12,224,true,[(vB false),.aT,.aT,(vB false),.aT,.aT,(vB false),.aT,.aT,(vB false),.aT,.aT],[]⟩),
 (55,⟨.other,1,8,false,[.bD],[]⟩),
 (56,⟨.other,1,8,false,[.bD],[]⟩),
 (57,⟨.other,1,8,false,[.bD],[]⟩),
 (58,⟨.other,1,8,false,[.bD],[]⟩),
 (59,⟨.slice 114,1,24,false,[.aT],[]⟩),
 (60,⟨.slice 116,1,24,false,[.aT],[]⟩),
 (61,⟨.slice 118,1,24,false,[.aT],[]⟩),
 (62,⟨.struct [(0,1,false),(1,1,false),(2,1,false),(3,1,false)],4,88,true,[.str ByteArray.empty,.aT,.aT,.aT],[]⟩),
 (63,⟨.struct [(0,1,false),(1,1,false),(2,1,false),(3,1,false)],4,88,true,[.str ByteArray.empty,.aT,.aT,.aT],[]⟩),
 (64,⟨.other,1,8,false,[.bD],[]⟩),
 (65,⟨.struct [(0,3,true),(3,3,true),(6,3,true),(9,3,true),(12,3,true),(15,3,true)],18,336,true,[(vB false),.aT,.aT,(vB false),.aT,.aT,(vB false),.aT,.aT,(vB false),.aT,.aT,(vB false),.aT,.aT,(vB false),.aT,.aT],[]⟩),
 (66,⟨.struct [(0,3,true),(3,3,true),(6,3,true),(9,3,true),(12,3,true),(15,3,true)],18,336,true,[(vB false),.aT,.aT,(vB false),.aT,.aT,(vB false),.aT,.aT,(vB false),.aT,.aT,(vB false),.aT,.aT,(vB false),.aT,.aT],[]⟩),
 (67,⟨.slice 40,1,24,false,[.aT],[]⟩),
 (68,⟨.slice 80,1,24,false,[.aT],[]⟩),
 (70,⟨.other,1,8,false,[.bD],[]⟩),
 (71,⟨.struct [(0,1,false),(1,1,false)],2,16,true,[.int .i64 0,.int .i64 0],[]⟩),
 (72,⟨.struct [(0,1,false),(1,1,false)],2,16,true,[.int .i64 0,.int .i64 0],[.int .i64,.int .i64]⟩),
 (74,⟨.other,1,8,false,[.bD],[]⟩),
 (75,⟨.slice 169,1,24,false,[.aT],[]⟩),
 (76,⟨.struct [(0,1,false)],1,24,true,[.aT],[]⟩),
 (77,⟨.struct [(0,1,false)],1,24,true,[.aT],[]⟩),
 (78,⟨.slice 172,1,24,false,[.aT],[]⟩),
 (79,⟨.struct [(0,1,true),(1,1,false),(2,1,false)],3,72,true,[.aT,.aT,.aT],[]⟩),
 (80,⟨.struct [(0,1,true),(1,1,false),(2,1,false)],3,72,true,[.aT,.aT,.aT],[]⟩),
 (81,⟨.other,1,8,false,[.bD],[]⟩),
 (82,⟨.other,1,8,false,[.bD],[]⟩),
 (83,⟨.array 4 22,4,96,true,[.aT,.aT,.aT,.aT],[]⟩),
 (84,⟨.other,1,8,false,[.bD],[]⟩),
 (85,⟨.other,1,8,false,[.bD],[]⟩),
 (86,⟨.int .i64,1,8,false,[.int .i64 0],[]⟩),
 (87,⟨.other,1,8,false,[.bD],[]⟩),
 (88,⟨.other,1,8,false,[.bD],[]⟩),
 (92,⟨.other,1,8,false,[.bD],[]⟩),
 (93,⟨.other,1,8,false,[.bD],[]⟩),
 (94,⟨.other,1,8,false,[.bD],[]⟩),
 (95,⟨.struct [(0,1,false),(1,1,false)],2,32,true,[(vB false),.aT],[]⟩),
 (96,⟨.struct [(0,1,false),(1,1,false)],2,32,true,[(vB false),.aT],[]⟩),
 (98,⟨.other,1,8,false,[.bD],[]⟩),
 (99,⟨.other,1,8,false,[.bD],[]⟩),
 (100,⟨.other,1,8,false,[.bD],[]⟩),
 (101,⟨.other,1,8,false,[.bD],[]⟩),
 (102,⟨.other,1,8,false,[.bD],[]⟩),
 (103,⟨.other,1,8,false,[.bD],[]⟩),
 (104,⟨.other,1,8,false,[.bD],[]⟩),
 (105,⟨.other,1,8,false,[.bD],[]⟩),
 (106,⟨.other,1,8,false,[.bD],[]⟩),
 (107,⟨.other,1,8,false,[.bD],[]⟩),
 (108,⟨.other,1,8,false,[.bD],[]⟩),
 (109,⟨.struct [(0,1,false),(1,3,true),(4,3,true)],7,128,true,[.str ByteArray.empty,(vB false),.aT,.aT,(vB false),.aT,.aT],[]⟩),
 (110,⟨.struct [(0,1,false),(1,3,true),(4,3,true)],7,128,true,[.str ByteArray.empty,(vB false),.aT,.aT,(vB false),.aT,.aT],[]⟩),
 (111,⟨.other,1,8,false,[.bD],[]⟩),
 (112,⟨.slice 110,1,24,false,[.aT],[]⟩),
 (113,⟨.struct [(0,1,false),(1,1,false)],2,40,true,[.str ByteArray.empty,.aT],[]⟩),
 (114,⟨.struct [(0,1,false),(1,1,false)],2,40,true,[.str ByteArray.empty,.aT],[]⟩),
 (115,⟨.struct [(0,1,false),(1,1,false),(2,1,false),(3,1,false),(4,1,false),(5,1,false),(6,1,false)],7,64,true,[.str ByteArray.empty,.int .i64 0,.int .i64 0,.int .i64 0,.int .i64 0,.int .i64 0,.int .i64 0],[]⟩),
 (116,⟨.struct [(0,1,false),(1,1,false),(2,1,false),(3,1,false),(4,1,false),(5,1,false),(6,1,false)],7,64,true,[.str ByteArray.empty,.int .i64 0,.int .i64 0,.int .i64 0,.int .i64 0,.int .i64 0,.int .i64 0],[.str,.int .i64,.int .i64,.int .i64,.int .i64,.int .i64,.int .i64]⟩),
 (117,⟨.struct [(0,1,false),(1,1,false)],2,24,true,[.str ByteArray.empty,.int .i64 0],[]⟩),
 (118,⟨.struct [(0,1,false),(1,1,false)],2,24,true,[.str ByteArray.empty,.int .i64 0],[.str,.int .i64]⟩),
 (119,⟨.other,1,8,false,[.uv],[]⟩),
 (121,⟨.other,1,8,false,[.bD],[]⟩),
 (122,⟨.other,1,8,false,[.bD],[]⟩),
 (123,⟨.other,1,8,false,[.bD],[]⟩),
 (124,⟨.slice 161,1,24,false,[.aT],[]⟩),
 (125,⟨.other,1,8,false,[.bD],[]⟩),
 (127,⟨.struct [(0,4,true),(4,1,false),(5,1,false),(6,1,false),(7,1,false),(8,1,false)],9,176,true,[.str ByteArray.empty,.aT,.aT,.aT,.aT,.aT,.bD,(vB false),.aT],[]⟩),
 (128,⟨.other,1,8,false,[.bD],[]⟩),
 (129,⟨.other,1,8,false,[.bD],[]⟩),
 (131,⟨.struct [(0,3,true),(3,3,true)],6,112,true,[(vB false),.aT,.aT,(vB false),.aT,.aT],[]⟩),
 (132,⟨.struct [(0,3,true),(3,3,true)],6,112,true,[(vB false),.aT,.aT,(vB false),.aT,.aT],[]⟩),
 (133,⟨.array 4 132,24,448,true,[(vB false),.aT,.aT,(vB false),.aT,.aT,(vB false),.aT,.aT,(vB false),.aT,.aT,(vB false),.aT,.aT,(vB false),.aT,.aT,(vB false),.aT,.aT,(vB false),.aT,.aT],[]⟩),
 (134,⟨.struct [(0,3,true),(3,3,true),(6,3,true)],9,168,true,[(vB false),.aT,.aT,(vB false),.aT,.aT,(vB false),.aT,.aT],[]⟩),
 (135,⟨.struct [(0,3,true),(3,3,true),(6,3,true)],9,168,true,[(vB false),.aT,.aT,(vB false),.aT,.aT,(vB false),.aT,.aT],[]⟩),
 (137,⟨.other,1,8,false,[.bD],[]⟩),
 (138,⟨.other,1,8,false,[.bD],[]⟩),
 (139,⟨.other,1,8,false,[.bD],[]⟩),
 (140,⟨.other,1,8,false,[.bD],[]⟩),
 (142,⟨.other,1,8,false,[.bD],[]⟩),
 (143,⟨.other,1,8,false,[.bD],[]⟩),
 (145,⟨.struct [(0,3,true),(3,3,true),(6,3,true)],9,168,true,[(vB false),.aT,.aT,(vB false),.aT,.aT,(vB false),.aT,.aT],[]⟩),
 (146,⟨.struct [(0,3,true),(3,3,true),(6,3,true)],9,168,true,[(vB false),.aT,.aT,(vB false),.aT,.aT,(vB false),.aT,.aT],[]⟩),
 (148,⟨.other,1,8,false,[.bD],[]⟩),
 (149,⟨.other,1,8,false,[.bD],[]⟩),
 (150,⟨.other,1,8,false,[.bD],[]⟩),
 (151,⟨.other,1,8,false,[.bD],[]⟩),
 (153,⟨.other,1,8,false,[.bD],[]⟩),
 (154,⟨.int .u64,1,8,false,[.int .u64 0],[]⟩),
 (155,⟨.int .u32,1,4,false,[.int .u32 0],[]⟩),
 (156,⟨.int .u64,1,8,false,[.int .u64 0],[]⟩),
 (158,⟨.other,1,8,false,[.bD],[]⟩),
 (159,⟨.other,1,8,false,[.bD],[]⟩),
 (160,⟨.struct [(0,1,false),(1,1,false),(2,1,false),(3,1,false)],4,64,true,[.int .i64 0,.aT,.aT,.int .i64 0],[]⟩),
 (161,⟨.struct [(0,1,false),(1,1,false),(2,1,false),(3,1,false)],4,64,true,[.int .i64 0,.aT,.aT,.int .i64 0],[]⟩),
 (162,⟨.slice 167,1,24,false,[.aT],[]⟩),
 (164,⟨.other,1,8,false,[.bD],[]⟩),
 (165,⟨.other,1,8,false,[.bD],[]⟩),
 (166,⟨.struct [(0,1,true),(1,1,false),(2,1,false)],3,56,true,[.aT,.aT,.int .i64 0],[]⟩),
 (167,⟨.struct [(0,1,true),(1,1,false),(2,1,false)],3,56,true,[.aT,.aT,.int .i64 0],[]⟩),
 (168,⟨.other,1,8,false,[.bD],[]⟩),
 (169,⟨.slice 29,1,24,false,[.aT],[]⟩),
 (170,⟨.other,1,8,false,[.bD],[]⟩),
 (171,⟨.struct [(0,1,false),(1,1,false),(2,1,false),(3,1,false)],4,96,true,[.aT,.aT,.aT,.aT],[]⟩),
 (172,⟨.struct [(0,1,false),(1,1,false),(2,1,false),(3,1,false)],4,96,true,[.aT,.aT,.aT,.aT],[]⟩),
 (174,⟨.other,1,8,false,[.bD],[]⟩),
 (175,⟨.other,1,8,false,[.bD],[]⟩),
 (176,⟨.other,1,8,false,[.bD],[]⟩),
 (177,⟨.other,1,8,false,[.bD],[]⟩),
 (178,⟨.other,1,8,false,[.bD],[]⟩),
 (179,⟨.other,1,8,false,[.bD],[]⟩),
 (180,⟨.other,1,8,false,[.bD],[]⟩),
 (181,⟨.other,1,8,false,[.bD],[]⟩),
 (182,⟨.other,1,8,false,[.bD],[]⟩),
 (183,⟨.other,1,8,false,[.bD],[]⟩),
 (184,⟨.other,1,8,false,[.bD],[]⟩),
 (186,⟨.other,1,8,false,[.bD],[]⟩),
 (187,⟨.other,1,8,false,[.bD],[]⟩),
 (191,⟨.other,1,8,false,[.bD],[]⟩),
 (192,⟨.other,1,8,false,[.uv],[]⟩),
 (194,⟨.other,1,8,false,[.bD],[]⟩),
 (196,⟨.slice 4,1,24,false,[.aT],[]⟩),
 (197,⟨.struct [(0,4,true),(4,1,false),(5,1,false),(6,1,false),(7,1,false)],8,184,true,[.str ByteArray.empty,.aT,.aT,.aT,.aT,.aT,.aT,.aT],[]⟩),
 (198,⟨.struct [(0,4,true),(4,1,false),(5,1,false),(6,1,false),(7,1,false)],8,184,true,[.str ByteArray.empty,.aT,.aT,.aT,.aT,.aT,.aT,.aT],[]⟩),
 (200,⟨.other,1,8,false,[.bD],[]⟩),
 (201,⟨.other,1,8,false,[.uv],[]⟩),
 (203,⟨.other,1,8,false,[.bD],[]⟩),
 (204,⟨.struct [(0,4,true),(4,4,true),(8,3,true),(11,1,false)],12,240,true,[.str ByteArray.empty,.aT,.aT,.aT,.int .i64 0,.aT,.aT,.int .i64 0,.aT,.aT,.aT,.ar],[]⟩),
 (205,⟨.struct [(0,4,true),(4,4,true),(8,3,true),(11,1,false)],12,240,true,[.str ByteArray.empty,.aT,.aT,.aT,.int .i64 0,.aT,.aT,.int .i64 0,.aT,.aT,.aT,.ar],[]⟩),
 (206,⟨.other,1,8,false,[.bD],[]⟩),
 (207,⟨.other,1,8,false,[.bD],[]⟩),
 (208,⟨.other,1,8,false,[.bD],[]⟩),
 (210,⟨.other,1,8,false,[.bD],[]⟩),
 (211,⟨.other,1,8,false,[.bD],[]⟩),
 (212,⟨.other,1,8,false,[.bD],[]⟩),
 (213,⟨.other,1,8,false,[.bD],[]⟩),
 (214,⟨.struct [(0,1,false),(1,1,false)],2,48,true,[.aT,.aT],[]⟩),
 (215,⟨.struct [(0,1,false),(1,1,false)],2,48,true,[.aT,.aT],[]⟩),
 (217,⟨.other,1,8,false,[.bD],[]⟩),
 (218,⟨.other,1,8,false,[.bD],[]⟩),
 (220,⟨.other,1,8,false,[.bD],[]⟩),
 (221,⟨.other,1,8,false,[.bD],[]⟩),
 (223,⟨.other,1,8,false,[.bD],[]⟩),
 (224,⟨.other,1,8,false,[.bD],[]⟩),
 (233,⟨.other,1,8,false,[.bD],[]⟩),
 (236,⟨.other,1,8,false,[.bD],[]⟩),
 (238,⟨.other,1,8,false,[.bD],[]⟩),
 (240,⟨.struct [(0,3,true),(3,3,true)],6,112,true,[(vB false),.aT,.aT,(vB false),.aT,.aT],[]⟩),
 (242,⟨.other,1,8,false,[.bD],[]⟩),
 (243,⟨.other,1,8,false,[.uv],[]⟩),
 (245,⟨.struct [(0,1,true),(1,1,false)],2,40,true,[.aT,.ar],[]⟩),
 (246,⟨.other,1,8,false,[.bD],[]⟩),
 (247,⟨.other,1,8,false,[.bD],[]⟩),
 (248,⟨.other,1,8,false,[.bD],[]⟩),
 (249,⟨.struct [(0,6,true),(6,2,true),(8,6,true)],14,272,true,[(vB false),.aT,.aT,(vB false),.aT,.aT,.aT,.aT,(vB false),.aT,.aT,(vB false),.aT,.aT],[]⟩),
 (250,⟨.struct [(0,6,true),(6,2,true),(8,6,true)],14,272,true,[(vB false),.aT,.aT,(vB false),.aT,.aT,.aT,.aT,(vB false),.aT,.aT,(vB false),.aT,.aT],[]⟩),
 (252,⟨.other,1,8,false,[.bD],[]⟩),
 (253,⟨.other,1,8,false,[.bD],[]⟩),
 (254,⟨.other,1,8,false,[.bD],[]⟩),
 (255,⟨.slice 215,1,24,false,[.aT],[]⟩),
 (256,⟨.struct [(0,1,true),(1,1,false)],2,48,true,[.aT,.aT],[]⟩),
 (257,⟨.struct [(0,1,true),(1,1,false)],2,48,true,[.aT,.aT],[]⟩),
 (259,⟨.other,1,8,false,[.bD],[]⟩),
 (260,⟨.struct [(0,2,true),(2,1,false)],3,72,true,[.aT,.aT,.aT],[]⟩),
 (261,⟨.struct [(0,2,true),(2,1,false)],3,72,true,[.aT,.aT,.aT],[]⟩),
 (262,⟨.other,1,8,false,[.bD],[]⟩),
 (263,⟨.other,1,8,false,[.bD],[]⟩),
 (265,⟨.other,1,8,false,[.bD],[]⟩),
 (266,⟨.other,1,8,false,[.bD],[]⟩),
 (267,⟨.struct [(0,6,true),(6,2,true),(8,6,true),(14,1,false),(15,1,false),(16,1,false),(17,2,true)],19,392,true,[(vB false),.aT,.aT,(vB false),.aT,.aT,.aT,.aT,(vB false),.aT,.aT,(vB false),.aT,.aT,.aT,.aT,.aT,.aT,.aT],[]⟩),
 (268,⟨.struct [(0,6,true),(6,2,true),(8,6,true),(14,1,false),(15,1,false),(16,1,false),(17,2,true)],19,392,true,[(vB false),.aT,.aT,(vB false),.aT,.aT,.aT,.aT,(vB false),.aT,.aT,(vB false),.aT,.aT,.aT,.aT,.aT,.aT,.aT],[]⟩),
 (269,⟨.other,1,8,false,[.bD],[]⟩),
 (270,⟨.other,1,8,false,[.bD],[]⟩),
 (271,⟨.other,1,8,false,[.bD],[]⟩),
 (273,⟨.other,1,8,false,[.bD],[]⟩),
 (274,⟨.other,1,8,false,[.bD],[]⟩),
 (275,⟨.other,1,8,false,[.bD],[]⟩),
 (276,⟨.other,1,8,false,[.bD],[]⟩),
 (277,⟨.other,1,8,false,[.bD],[]⟩),
 (278,⟨.other,1,8,false,[.bD],[]⟩),
 (279,⟨.other,1,8,false,[.bD],[]⟩),
 (280,⟨.other,1,8,false,[.bD],[]⟩),
 (282,⟨.other,1,8,false,[.bD],[]⟩),
 (283,⟨.other,1,8,false,[.bD],[]⟩),
 (284,⟨.other,1,8,false,[.bD],[]⟩),
 (285,⟨.other,1,8,false,[.bD],[]⟩),
 (286,⟨.other,1,8,false,[.bD],[]⟩),
 (287,⟨.other,1,8,false,[.uv],[]⟩),
 (288,⟨.other,1,8,false,[.bD],[]⟩),
 (289,⟨.other,1,8,false,[.bD],[]⟩),
 (290,⟨.other,1,8,false,[.bD],[]⟩),
 (292,⟨.struct [(0,1,true),(1,1,false)],2,40,true,[.aT,.ar],[]⟩),
 (293,⟨.other,1,8,false,[.bD],[]⟩),
 (294,⟨.other,1,8,false,[.bD],[]⟩),
 (295,⟨.other,1,8,false,[.bD],[]⟩),
 (297,⟨.other,1,8,false,[.bD],[]⟩),
 (301,⟨.other,1,8,false,[.bD],[]⟩),
 (302,⟨.other,1,8,false,[.bD],[]⟩),
 (303,⟨.other,1,8,false,[.bD],[]⟩),
 (304,⟨.other,1,8,false,[.bD],[]⟩),
 (305,⟨.other,1,8,false,[.bD],[]⟩),
 (306,⟨.slice 240,1,24,false,[.aT],[]⟩),
 (307,⟨.other,1,8,false,[.bD],[]⟩),
 (308,⟨.other,1,8,false,[.bD],[]⟩),
 (309,⟨.other,1,8,false,[.bD],[]⟩),
 (310,⟨.other,1,8,false,[.bD],[]⟩),
 (311,⟨.other,1,8,false,[.uv],[]⟩),
 (313,⟨.struct [(0,1,true),(1,1,false)],2,40,true,[.aT,.ar],[]⟩),
 (315,⟨.other,1,8,false,[.bD],[]⟩),
 (316,⟨.other,1,8,false,[.bD],[]⟩),
 (317,⟨.other,1,8,false,[.bD],[]⟩),
 (318,⟨.other,1,8,false,[.bD],[]⟩),
 (319,⟨.other,1,8,false,[.bD],[]⟩),
 (320,⟨.slice 250,1,24,false,[.aT],[]⟩),
 (321,⟨.other,1,8,false,[.bD],[]⟩),
 (322,⟨.other,1,8,false,[.bD],[]⟩),
 (323,⟨.other,1,8,false,[.bD],[]⟩),
 (324,⟨.other,1,8,false,[.bD],[]⟩),
 (325,⟨.other,1,8,false,[.bD],[]⟩),
 (326,⟨.other,1,8,false,[.bD],[]⟩),
 (327,⟨.other,1,8,false,[.bD],[]⟩),
 (328,⟨.other,1,8,false,[.bD],[]⟩),
 (329,⟨.other,1,8,false,[.bD],[]⟩),
 (332,⟨.other,1,8,false,[.bD],[]⟩),
 (333,⟨.other,1,8,false,[.bD],[]⟩),
 (336,⟨.int .i64,1,8,false,[.int .i64 0],[]⟩),
 (344,⟨.other,1,8,false,[.bD],[]⟩),
 (345,⟨.slice 261,1,24,false,[.aT],[]⟩),
 (346,⟨.other,1,8,false,[.bD],[]⟩),
 (347,⟨.other,1,8,false,[.bD],[]⟩),
 (348,⟨.other,1,8,false,[.bD],[]⟩),
 (349,⟨.other,1,8,false,[.bD],[]⟩),
 (350,⟨.other,1,8,false,[.bD],[]⟩),
 (351,⟨.other,1,8,false,[.bD],[]⟩),
 (352,⟨.int .u64,1,8,false,[.int .u64 0],[]⟩),
 (353,⟨.other,1,8,false,[.bD],[]⟩),
 (368,⟨.int .u8,1,1,false,[.int .u8 0],[]⟩),
 (369,⟨.int .u8,1,1,false,[.int .u8 0],[]⟩),
 (372,⟨.int .i32,1,4,false,[.int .i32 0],[]⟩),
 (373,⟨.int .i32,1,4,false,[.int .i32 0],[]⟩)]
theorem kV:mm aV ql:=mm.of (by kernel_rfl)
theorem mixed:aV.follows .mixedOrders=true:=by kernel_rfl
abbrev Cp:=eN aV
abbrev Ws:=List UInt32
abbrev Rs:=List aq
abbrev TE.a:TE := .auto
abbrev TE.t:TE := .dec true
abbrev TE.f:TE := .dec false
abbrev TE.q:TE := .bx []
abbrev TE.h(n:Nat)(x:Hint):TE := .bx (List.replicate n .none++[x])
abbrev Hint.o:Hint := .none
abbrev lR:List aq→List PV:=dF aq.cells
abbrev iL{α:Type}(l:List α):Hint:=iI (l.length:Int)
abbrev pW(l:List UInt32):SC := .pure (l.map aE).flatten
abbrev pC{α:Type}(f:α→List PV)(l:List α):SC := .pure (l.map f).flatten
abbrev dX(fn:Func)(sin:aY):Prop:=sin.all (fun p=>Nat.ble fn.ntmps p.1)=true
theorem rN(n:Nat):((n:Nat):Int)=(n:Int):=rfl
theorem rF:false=false:=rfl
theorem rT:true=true:=rfl
section
variable {fn:Func} {K K':List eh} {s s':St} {r:PV} {sin sout:aY} {rx:EV} {f:FuncId} {args:List PV} {Ja:List EV} {A:Prop}
theorem lG(ns:List Nat)(tr:List TE)(hA:A)(h:L aV fn K' s' r)(aJ:mJ ns (run aV ql fn 900 K s tr)=some (K',s',A):=by kernel_rfl):L aV fn K s r:=L.go mixed kV hA aJ h
theorem lD(ns:List Nat)(tr:List TE)(hA:A)(aJ:DO ns (run aV ql fn 900 K s tr)=some (r,A):=by kernel_rfl):L aV fn K s r:=L.done mixed kV hA aJ
theorem eG(hf:aV.funcs[f]? = some fn)(ns:List Nat)(tr:List TE)(hA:A)(h:L aV fn K' s' r)(gk:AJ fn (args.map EV.pv).length []=true:=by kernel_rfl)(aJ:mJ ns (run aV ql fn 900 [.code (aS fn)] ⟨jX 0 (args.map EV.pv),[]⟩ tr)=some (K',s',A):=by kernel_rfl):eN aV f args r:=eN.Ru hf gk (L.go mixed kV hA aJ h)
theorem eD(hf:aV.funcs[f]? = some fn)(ns:List Nat)(tr:List TE)(hA:A)(gk:AJ fn (args.map EV.pv).length []=true:=by kernel_rfl)(aJ:DO ns (run aV ql fn 900 [.code (aS fn)] ⟨jX 0 (args.map EV.pv),[]⟩ tr)=some (r,A):=by kernel_rfl):eN aV f args r:=eN.Ru hf gk (L.done mixed kV hA aJ)
theorem sI(ns:List Nat)(tr:List TE)(hs:sin.all (fun p=>Nat.ble fn.ntmps p.1)=true)(hA:A)(h:LX aV fn K' s' sin rx sout)(aJ:mJ ns (run aV ql fn 900 K s tr)=some (K',s',A):=by kernel_rfl):LX aV fn K s sin rx sout:=LX.go mixed kV hs hA aJ h
theorem vP(ns:List Nat)(tr:List TE)(hs:sin.all (fun p=>Nat.ble fn.ntmps p.1)=true)(hi:sin.all (fun p=>nP p.1||(aY.get sout p.1).isSome)=true)(hA:A)(aJ:CH ns [] (run aV ql fn 900 K s tr)=some (rx,sout,A):=by kernel_rfl):LX aV fn K s sin rx sout:=LX.SA mixed kV hs hi hA aJ
theorem AT(hf:aV.funcs[f]? = some fn)(ns:List Nat)(tr:List TE)(hA:A)(h:LX aV fn K' s' sin rx sout)(gk:AJ fn Ja.length sin=true:=by kernel_rfl)(hs:sin.all (fun p=>Nat.ble fn.ntmps p.1)=true:=by rfl)(aJ:mJ ns (run aV ql fn 900 [.code (aS fn)] ⟨jX 0 Ja,sin⟩ tr)=some (K',s',A):=by kernel_rfl):ag aV f Ja sin rx sout:=ag.Ru hf gk (LX.go mixed kV hs hA aJ h)
theorem lu(hf:aV.funcs[f]? = some fn)(ns:List Nat)(tr:List TE)(hA:A)(gk:AJ fn Ja.length sin=true:=by kernel_rfl)(hs:sin.all (fun p=>Nat.ble fn.ntmps p.1)=true:=by rfl)(aJ:CH ns sin (run aV ql fn 900 [.code (aS fn)] ⟨jX 0 Ja,sin⟩ tr)=some (rx,sout,A):=by kernel_rfl):ag aV f Ja sin rx sout:=ag.Ru hf gk (LX.done mixed kV hs hA aJ)
end
theorem y1{p0:Prop}(jl:p0):p0∧True:=⟨jl,trivial⟩
theorem y2{p0 p1:Prop}(jl:p0)(ij:p1):p0∧p1∧True:=⟨jl,ij,trivial⟩
theorem y3{p0 p1 p2:Prop}(jl:p0)(ij:p1)(iz:p2):p0∧p1∧p2∧True:=⟨jl,ij,iz,trivial⟩
theorem y4{p0 p1 p2 p3:Prop}(jl:p0)(ij:p1)(iz:p2)(ko:p3):p0∧p1∧p2∧p3∧True:=⟨jl,ij,iz,ko,trivial⟩
theorem y5{p0 p1 p2 p3 p4:Prop}(jl:p0)(ij:p1)(iz:p2)(ko:p3)(kt:p4):p0∧p1∧p2∧p3∧p4∧True:=⟨jl,ij,iz,ko,kt,trivial⟩
theorem y6{p0 p1 p2 p3 p4 p5:Prop}(jl:p0)(ij:p1)(iz:p2)(ko:p3)(kt:p4)(kK:p5):p0∧p1∧p2∧p3∧p4∧p5∧True:=⟨jl,ij,iz,ko,kt,kK,trivial⟩
theorem y7{p0 p1 p2 p3 p4 p5 p6:Prop}(jl:p0)(ij:p1)(iz:p2)(ko:p3)(kt:p4)(kK:p5)(lh:p6):p0∧p1∧p2∧p3∧p4∧p5∧p6∧True:=⟨jl,ij,iz,ko,kt,kK,lh,trivial⟩
theorem y8{p0 p1 p2 p3 p4 p5 p6 p7:Prop}(jl:p0)(ij:p1)(iz:p2)(ko:p3)(kt:p4)(kK:p5)(lh:p6)(lM:p7):p0∧p1∧p2∧p3∧p4∧p5∧p6∧p7∧True:=⟨jl,ij,iz,ko,kt,kK,lh,lM,trivial⟩
theorem y9{p0 p1 p2 p3 p4 p5 p6 p7 p8:Prop}(jl:p0)(ij:p1)(iz:p2)(ko:p3)(kt:p4)(kK:p5)(lh:p6)(lM:p7)(mu:p8):p0∧p1∧p2∧p3∧p4∧p5∧p6∧p7∧p8∧True:=⟨jl,ij,iz,ko,kt,kK,lh,lM,mu,trivial⟩
theorem F4{p0 p1 p2 p3 p4 p5 p6 p7 p8 p9:Prop}(jl:p0)(ij:p1)(iz:p2)(ko:p3)(kt:p4)(kK:p5)(lh:p6)(lM:p7)(mu:p8)(mN:p9):p0∧p1∧p2∧p3∧p4∧p5∧p6∧p7∧p8∧p9∧True:=⟨jl,ij,iz,ko,kt,kK,lh,lM,mu,mN,trivial⟩
theorem H7{p0 p1 p2 p3 p4 p5 p6 p7 p8 p9 ic:Prop}(jl:p0)(ij:p1)(iz:p2)(ko:p3)(kt:p4)(kK:p5)(lh:p6)(lM:p7)(mu:p8)(mN:p9)(fH:ic):p0∧p1∧p2∧p3∧p4∧p5∧p6∧p7∧p8∧p9∧ic∧True:=⟨jl,ij,iz,ko,kt,kK,lh,lM,mu,mN,fH,trivial⟩
theorem H8{p0 p1 p2 p3 p4 p5 p6 p7 p8 p9 ic iA:Prop}(jl:p0)(ij:p1)(iz:p2)(ko:p3)(kt:p4)(kK:p5)(lh:p6)(lM:p7)(mu:p8)(mN:p9)(fH:ic)(fN:iA):p0∧p1∧p2∧p3∧p4∧p5∧p6∧p7∧p8∧p9∧ic∧iA∧True:=⟨jl,ij,iz,ko,kt,kK,lh,lM,mu,mN,fH,fN,trivial⟩
theorem F5{p0 p1 p2 p3 p4 p5 p6 p7 p8 p9 ic iA jc:Prop}(jl:p0)(ij:p1)(iz:p2)(ko:p3)(kt:p4)(kK:p5)(lh:p6)(lM:p7)(mu:p8)(mN:p9)(fH:ic)(fN:iA)(fU:jc):p0∧p1∧p2∧p3∧p4∧p5∧p6∧p7∧p8∧p9∧ic∧iA∧jc∧True:=⟨jl,ij,iz,ko,kt,kK,lh,lM,mu,mN,fH,fN,fU,trivial⟩
theorem PW{p0 p1 p2 p3 p4 p5 p6 p7 p8 p9 ic iA jc jI:Prop}(jl:p0)(ij:p1)(iz:p2)(ko:p3)(kt:p4)(kK:p5)(lh:p6)(lM:p7)(mu:p8)(mN:p9)(fH:ic)(fN:iA)(fU:jc)(gb:jI):p0∧p1∧p2∧p3∧p4∧p5∧p6∧p7∧p8∧p9∧ic∧iA∧jc∧jI∧True:=⟨jl,ij,iz,ko,kt,kK,lh,lM,mu,mN,fH,fN,fU,gb,trivial⟩
theorem Rw{p0 p1 p2 p3 p4 p5 p6 p7 p8 p9 ic iA jc jI ke:Prop}(jl:p0)(ij:p1)(iz:p2)(ko:p3)(kt:p4)(kK:p5)(lh:p6)(lM:p7)(mu:p8)(mN:p9)(fH:ic)(fN:iA)(fU:jc)(gb:jI)(gn:ke):p0∧p1∧p2∧p3∧p4∧p5∧p6∧p7∧p8∧p9∧ic∧iA∧jc∧jI∧ke∧True:=⟨jl,ij,iz,ko,kt,kK,lh,lM,mu,mN,fH,fN,fU,gb,gn,trivial⟩
theorem Nj{p0 p1 p2 p3 p4 p5 p6 p7 p8 p9 ic iA jc jI ke kx:Prop}(jl:p0)(ij:p1)(iz:p2)(ko:p3)(kt:p4)(kK:p5)(lh:p6)(lM:p7)(mu:p8)(mN:p9)(fH:ic)(fN:iA)(fU:jc)(gb:jI)(gn:ke)(gM:kx):p0∧p1∧p2∧p3∧p4∧p5∧p6∧p7∧p8∧p9∧ic∧iA∧jc∧jI∧ke∧kx∧True:=⟨jl,ij,iz,ko,kt,kK,lh,lM,mu,mN,fH,fN,fU,gb,gn,gM,trivial⟩
theorem Nk{p0 p1 p2 p3 p4 p5 p6 p7 p8 p9 ic iA jc jI ke kx kW:Prop}(jl:p0)(ij:p1)(iz:p2)(ko:p3)(kt:p4)(kK:p5)(lh:p6)(lM:p7)(mu:p8)(mN:p9)(fH:ic)(fN:iA)(fU:jc)(gb:jI)(gn:ke)(gM:kx)(gY:kW):p0∧p1∧p2∧p3∧p4∧p5∧p6∧p7∧p8∧p9∧ic∧iA∧jc∧jI∧ke∧kx∧kW∧True:=⟨jl,ij,iz,ko,kt,kK,lh,lM,mu,mN,fH,fN,fU,gb,gn,gM,gY,trivial⟩
theorem UA{p0 p1 p2 p3 p4 p5 p6 p7 p8 p9 ic iA jc jI ke kx kW lN:Prop}(jl:p0)(ij:p1)(iz:p2)(ko:p3)(kt:p4)(kK:p5)(lh:p6)(lM:p7)(mu:p8)(mN:p9)(fH:ic)(fN:iA)(fU:jc)(gb:jI)(gn:ke)(gM:kx)(gY:kW)(iB:lN):p0∧p1∧p2∧p3∧p4∧p5∧p6∧p7∧p8∧p9∧ic∧iA∧jc∧jI∧ke∧kx∧kW∧lN∧True:=⟨jl,ij,iz,ko,kt,kK,lh,lM,mu,mN,fH,fN,fU,gb,gn,gM,gY,iB,trivial⟩
theorem Rx{p0 p1 p2 p3 p4 p5 p6 p7 p8 p9 ic iA jc jI ke kx kW lN mz:Prop}(jl:p0)(ij:p1)(iz:p2)(ko:p3)(kt:p4)(kK:p5)(lh:p6)(lM:p7)(mu:p8)(mN:p9)(fH:ic)(fN:iA)(fU:jc)(gb:jI)(gn:ke)(gM:kx)(gY:kW)(iB:lN)(jm:mz):p0∧p1∧p2∧p3∧p4∧p5∧p6∧p7∧p8∧p9∧ic∧iA∧jc∧jI∧ke∧kx∧kW∧lN∧mz∧True:=⟨jl,ij,iz,ko,kt,kK,lh,lM,mu,mN,fH,fN,fU,gb,gn,gM,gY,iB,jm,trivial⟩
theorem Ry{p0 p1 p2 p3 p4 p5 p6 p7 p8 p9 ic iA jc jI ke kx kW lN mz nr:Prop}(jl:p0)(ij:p1)(iz:p2)(ko:p3)(kt:p4)(kK:p5)(lh:p6)(lM:p7)(mu:p8)(mN:p9)(fH:ic)(fN:iA)(fU:jc)(gb:jI)(gn:ke)(gM:kx)(gY:kW)(iB:lN)(jm:mz)(jJ:nr):p0∧p1∧p2∧p3∧p4∧p5∧p6∧p7∧p8∧p9∧ic∧iA∧jc∧jI∧ke∧kx∧kW∧lN∧mz∧nr∧True:=⟨jl,ij,iz,ko,kt,kK,lh,lM,mu,mN,fH,fN,fU,gb,gn,gM,gY,iB,jm,jJ,trivial⟩
theorem UB{p0 p1 p2 p3 p4 p5 p6 p7 p8 p9 ic iA jc jI ke kx kW lN mz nr n7:Prop}(jl:p0)(ij:p1)(iz:p2)(ko:p3)(kt:p4)(kK:p5)(lh:p6)(lM:p7)(mu:p8)(mN:p9)(fH:ic)(fN:iA)(fU:jc)(gb:jI)(gn:ke)(gM:kx)(gY:kW)(iB:lN)(jm:mz)(jJ:nr)(kp:n7):p0∧p1∧p2∧p3∧p4∧p5∧p6∧p7∧p8∧p9∧ic∧iA∧jc∧jI∧ke∧kx∧kW∧lN∧mz∧nr∧n7∧True:=⟨jl,ij,iz,ko,kt,kK,lh,lM,mu,mN,fH,fN,fU,gb,gn,gM,gY,iB,jm,jJ,kp,trivial⟩
theorem UC{p0 p1 p2 p3 p4 p5 p6 p7 p8 p9 ic iA jc jI ke kx kW lN mz nr n7 oQ:Prop}(jl:p0)(ij:p1)(iz:p2)(ko:p3)(kt:p4)(kK:p5)(lh:p6)(lM:p7)(mu:p8)(mN:p9)(fH:ic)(fN:iA)(fU:jc)(gb:jI)(gn:ke)(gM:kx)(gY:kW)(iB:lN)(jm:mz)(jJ:nr)(kp:n7)(kL:oQ):p0∧p1∧p2∧p3∧p4∧p5∧p6∧p7∧p8∧p9∧ic∧iA∧jc∧jI∧ke∧kx∧kW∧lN∧mz∧nr∧n7∧oQ∧True:=⟨jl,ij,iz,ko,kt,kK,lh,lM,mu,mN,fH,fN,fU,gb,gn,gM,gY,iB,jm,jJ,kp,kL,trivial⟩
theorem SI{p0 p1 p2 p3 p4 p5 p6 p7 p8 p9 ic iA jc jI ke kx kW lN mz nr n7 oQ pQ:Prop}(jl:p0)(ij:p1)(iz:p2)(ko:p3)(kt:p4)(kK:p5)(lh:p6)(lM:p7)(mu:p8)(mN:p9)(fH:ic)(fN:iA)(fU:jc)(gb:jI)(gn:ke)(gM:kx)(gY:kW)(iB:lN)(jm:mz)(jJ:nr)(kp:n7)(kL:oQ)(lO:pQ):p0∧p1∧p2∧p3∧p4∧p5∧p6∧p7∧p8∧p9∧ic∧iA∧jc∧jI∧ke∧kx∧kW∧lN∧mz∧nr∧n7∧oQ∧pQ∧True:=⟨jl,ij,iz,ko,kt,kK,lh,lM,mu,mN,fH,fN,fU,gb,gn,gM,gY,iB,jm,jJ,kp,kL,lO,trivial⟩
theorem SJ{p0 p1 p2 p3 p4 p5 p6 p7 p8 p9 ic iA jc jI ke kx kW lN mz nr n7 oQ pQ qG:Prop}(jl:p0)(ij:p1)(iz:p2)(ko:p3)(kt:p4)(kK:p5)(lh:p6)(lM:p7)(mu:p8)(mN:p9)(fH:ic)(fN:iA)(fU:jc)(gb:jI)(gn:ke)(gM:kx)(gY:kW)(iB:lN)(jm:mz)(jJ:nr)(kp:n7)(kL:oQ)(lO:pQ)(mO:qG):p0∧p1∧p2∧p3∧p4∧p5∧p6∧p7∧p8∧p9∧ic∧iA∧jc∧jI∧ke∧kx∧kW∧lN∧mz∧nr∧n7∧oQ∧pQ∧qG∧True:=⟨jl,ij,iz,ko,kt,kK,lh,lM,mu,mN,fH,fN,fU,gb,gn,gM,gY,iB,jm,jJ,kp,kL,lO,mO,trivial⟩
theorem Wb{p0 p1 p2 p3 p4 p5 p6 p7 p8 p9 ic iA jc jI ke kx kW lN mz nr n7 oQ pQ qG se:Prop}(jl:p0)(ij:p1)(iz:p2)(ko:p3)(kt:p4)(kK:p5)(lh:p6)(lM:p7)(mu:p8)(mN:p9)(fH:ic)(fN:iA)(fU:jc)(gb:jI)(gn:ke)(gM:kx)(gY:kW)(iB:lN)(jm:mz)(jJ:nr)(kp:n7)(kL:oQ)(lO:pQ)(mO:qG)(nT:se):p0∧p1∧p2∧p3∧p4∧p5∧p6∧p7∧p8∧p9∧ic∧iA∧jc∧jI∧ke∧kx∧kW∧lN∧mz∧nr∧n7∧oQ∧pQ∧qG∧se∧True:=⟨jl,ij,iz,ko,kt,kK,lh,lM,mu,mN,fH,fN,fU,gb,gn,gM,gY,iB,jm,jJ,kp,kL,lO,mO,nT,trivial⟩
theorem Yz{p0 p1 p2 p3 p4 p5 p6 p7 p8 p9 ic iA jc jI ke kx kW lN mz nr n7 oQ pQ qG se tt:Prop}(jl:p0)(ij:p1)(iz:p2)(ko:p3)(kt:p4)(kK:p5)(lh:p6)(lM:p7)(mu:p8)(mN:p9)(fH:ic)(fN:iA)(fU:jc)(gb:jI)(gn:ke)(gM:kx)(gY:kW)(iB:lN)(jm:mz)(jJ:nr)(kp:n7)(kL:oQ)(lO:pQ)(mO:qG)(nT:se)(oR:tt):p0∧p1∧p2∧p3∧p4∧p5∧p6∧p7∧p8∧p9∧ic∧iA∧jc∧jI∧ke∧kx∧kW∧lN∧mz∧nr∧n7∧oQ∧pQ∧qG∧se∧tt∧True:=⟨jl,ij,iz,ko,kt,kK,lh,lM,mu,mN,fH,fN,fU,gb,gn,gM,gY,iB,jm,jJ,kp,kL,lO,mO,nT,oR,trivial⟩
theorem Z3{p0 p1 p2 p3 p4 p5 p6 p7 p8 p9 ic iA jc jI ke kx kW lN mz nr n7 oQ pQ qG se tt uR:Prop}(jl:p0)(ij:p1)(iz:p2)(ko:p3)(kt:p4)(kK:p5)(lh:p6)(lM:p7)(mu:p8)(mN:p9)(fH:ic)(fN:iA)(fU:jc)(gb:jI)(gn:ke)(gM:kx)(gY:kW)(iB:lN)(jm:mz)(jJ:nr)(kp:n7)(kL:oQ)(lO:pQ)(mO:qG)(nT:se)(oR:tt)(qm:uR):p0∧p1∧p2∧p3∧p4∧p5∧p6∧p7∧p8∧p9∧ic∧iA∧jc∧jI∧ke∧kx∧kW∧lN∧mz∧nr∧n7∧oQ∧pQ∧qG∧se∧tt∧uR∧True:=⟨jl,ij,iz,ko,kt,kK,lh,lM,mu,mN,fH,fN,fU,gb,gn,gM,gY,iB,jm,jJ,kp,kL,lO,mO,nT,oR,qm,trivial⟩
theorem UD{p0 p1 p2 p3 p4 p5 p6 p7 p8 p9 ic iA jc jI ke kx kW lN mz nr n7 oQ pQ qG se tt uR wM:Prop}(jl:p0)(ij:p1)(iz:p2)(ko:p3)(kt:p4)(kK:p5)(lh:p6)(lM:p7)(mu:p8)(mN:p9)(fH:ic)(fN:iA)(fU:jc)(gb:jI)(gn:ke)(gM:kx)(gY:kW)(iB:lN)(jm:mz)(jJ:nr)(kp:n7)(kL:oQ)(lO:pQ)(mO:qG)(nT:se)(oR:tt)(qm:uR)(rC:wM):p0∧p1∧p2∧p3∧p4∧p5∧p6∧p7∧p8∧p9∧ic∧iA∧jc∧jI∧ke∧kx∧kW∧lN∧mz∧nr∧n7∧oQ∧pQ∧qG∧se∧tt∧uR∧wM∧True:=⟨jl,ij,iz,ko,kt,kK,lh,lM,mu,mN,fH,fN,fU,gb,gn,gM,gY,iB,jm,jJ,kp,kL,lO,mO,nT,oR,qm,rC,trivial⟩
theorem Z4{p0 p1 p2 p3 p4 p5 p6 p7 p8 p9 ic iA jc jI ke kx kW lN mz nr n7 oQ pQ qG se tt uR wM yk:Prop}(jl:p0)(ij:p1)(iz:p2)(ko:p3)(kt:p4)(kK:p5)(lh:p6)(lM:p7)(mu:p8)(mN:p9)(fH:ic)(fN:iA)(fU:jc)(gb:jI)(gn:ke)(gM:kx)(gY:kW)(iB:lN)(jm:mz)(jJ:nr)(kp:n7)(kL:oQ)(lO:pQ)(mO:qG)(nT:se)(oR:tt)(qm:uR)(rC:wM)(tu:yk):p0∧p1∧p2∧p3∧p4∧p5∧p6∧p7∧p8∧p9∧ic∧iA∧jc∧jI∧ke∧kx∧kW∧lN∧mz∧nr∧n7∧oQ∧pQ∧qG∧se∧tt∧uR∧wM∧yk∧True:=⟨jl,ij,iz,ko,kt,kK,lh,lM,mu,mN,fH,fN,fU,gb,gn,gM,gY,iB,jm,jJ,kp,kL,lO,mO,nT,oR,qm,rC,tu,trivial⟩
theorem SK{p0 p1 p2 p3 p4 p5 p6 p7 p8 p9 ic iA jc jI ke kx kW lN mz nr n7 oQ pQ qG se tt uR wM yk AU:Prop}(jl:p0)(ij:p1)(iz:p2)(ko:p3)(kt:p4)(kK:p5)(lh:p6)(lM:p7)(mu:p8)(mN:p9)(fH:ic)(fN:iA)(fU:jc)(gb:jI)(gn:ke)(gM:kx)(gY:kW)(iB:lN)(jm:mz)(jJ:nr)(kp:n7)(kL:oQ)(lO:pQ)(mO:qG)(nT:se)(oR:tt)(qm:uR)(rC:wM)(tu:yk)(vy:AU):p0∧p1∧p2∧p3∧p4∧p5∧p6∧p7∧p8∧p9∧ic∧iA∧jc∧jI∧ke∧kx∧kW∧lN∧mz∧nr∧n7∧oQ∧pQ∧qG∧se∧tt∧uR∧wM∧yk∧AU∧True:=⟨jl,ij,iz,ko,kt,kK,lh,lM,mu,mN,fH,fN,fU,gb,gn,gM,gY,iB,jm,jJ,kp,kL,lO,mO,nT,oR,qm,rC,tu,vy,trivial⟩
theorem Z5{p0 p1 p2 p3 p4 p5 p6 p7 p8 p9 ic iA jc jI ke kx kW lN mz nr n7 oQ pQ qG se tt uR wM yk AU CN:Prop}(jl:p0)(ij:p1)(iz:p2)(ko:p3)(kt:p4)(kK:p5)(lh:p6)(lM:p7)(mu:p8)(mN:p9)(fH:ic)(fN:iA)(fU:jc)(gb:jI)(gn:ke)(gM:kx)(gY:kW)(iB:lN)(jm:mz)(jJ:nr)(kp:n7)(kL:oQ)(lO:pQ)(mO:qG)(nT:se)(oR:tt)(qm:uR)(rC:wM)(tu:yk)(vy:AU)(xH:CN):p0∧p1∧p2∧p3∧p4∧p5∧p6∧p7∧p8∧p9∧ic∧iA∧jc∧jI∧ke∧kx∧kW∧lN∧mz∧nr∧n7∧oQ∧pQ∧qG∧se∧tt∧uR∧wM∧yk∧AU∧CN∧True:=⟨jl,ij,iz,ko,kt,kK,lh,lM,mu,mN,fH,fN,fU,gb,gn,gM,gY,iB,jm,jJ,kp,kL,lO,mO,nT,oR,qm,rC,tu,vy,xH,trivial⟩
theorem Z6{p0 p1 p2 p3 p4 p5 p6 p7 p8 p9 ic iA jc jI ke kx kW lN mz nr n7 oQ pQ qG se tt uR wM yk AU CN Fh Fi Fj:Prop}(jl:p0)(ij:p1)(iz:p2)(ko:p3)(kt:p4)(kK:p5)(lh:p6)(lM:p7)(mu:p8)(mN:p9)(fH:ic)(fN:iA)(fU:jc)(gb:jI)(gn:ke)(gM:kx)(gY:kW)(iB:lN)(jm:mz)(jJ:nr)(kp:n7)(kL:oQ)(lO:pQ)(mO:qG)(nT:se)(oR:tt)(qm:uR)(rC:wM)(tu:yk)(vy:AU)(xH:CN)(AV:Fh)(AW:Fi)(AX:Fj):p0∧p1∧p2∧p3∧p4∧p5∧p6∧p7∧p8∧p9∧ic∧iA∧jc∧jI∧ke∧kx∧kW∧lN∧mz∧nr∧n7∧oQ∧pQ∧qG∧se∧tt∧uR∧wM∧yk∧AU∧CN∧Fh∧Fi∧Fj∧True:=⟨jl,ij,iz,ko,kt,kK,lh,lM,mu,mN,fH,fN,fU,gb,gn,gM,gY,iB,jm,jJ,kp,kL,lO,mO,nT,oR,qm,rC,tu,vy,xH,AV,AW,AX,trivial⟩
theorem Z7{p0 p1 p2 p3 p4 p5 p6 p7 p8 p9 ic iA jc jI ke kx kW lN mz nr n7 oQ pQ qG se tt uR wM yk AU CN Fh Fi Fj H9:Prop}(jl:p0)(ij:p1)(iz:p2)(ko:p3)(kt:p4)(kK:p5)(lh:p6)(lM:p7)(mu:p8)(mN:p9)(fH:ic)(fN:iA)(fU:jc)(gb:jI)(gn:ke)(gM:kx)(gY:kW)(iB:lN)(jm:mz)(jJ:nr)(kp:n7)(kL:oQ)(lO:pQ)(mO:qG)(nT:se)(oR:tt)(qm:uR)(rC:wM)(tu:yk)(vy:AU)(xH:CN)(AV:Fh)(AW:Fi)(AX:Fj)(DR:H9):p0∧p1∧p2∧p3∧p4∧p5∧p6∧p7∧p8∧p9∧ic∧iA∧jc∧jI∧ke∧kx∧kW∧lN∧mz∧nr∧n7∧oQ∧pQ∧qG∧se∧tt∧uR∧wM∧yk∧AU∧CN∧Fh∧Fi∧Fj∧H9∧True:=⟨jl,ij,iz,ko,kt,kK,lh,lM,mu,mN,fH,fN,fU,gb,gn,gM,gY,iB,jm,jJ,kp,kL,lO,mO,nT,oR,qm,rC,tu,vy,xH,AV,AW,AX,DR,trivial⟩
theorem Z8{p0 p1 p2 p3 p4 p5 p6 p7 p8 p9 ic iA jc jI ke kx kW lN mz nr n7 oQ pQ qG se tt uR wM yk AU CN Fh Fi Fj H9 KT:Prop}(jl:p0)(ij:p1)(iz:p2)(ko:p3)(kt:p4)(kK:p5)(lh:p6)(lM:p7)(mu:p8)(mN:p9)(fH:ic)(fN:iA)(fU:jc)(gb:jI)(gn:ke)(gM:kx)(gY:kW)(iB:lN)(jm:mz)(jJ:nr)(kp:n7)(kL:oQ)(lO:pQ)(mO:qG)(nT:se)(oR:tt)(qm:uR)(rC:wM)(tu:yk)(vy:AU)(xH:CN)(AV:Fh)(AW:Fi)(AX:Fj)(DR:H9)(GS:KT):p0∧p1∧p2∧p3∧p4∧p5∧p6∧p7∧p8∧p9∧ic∧iA∧jc∧jI∧ke∧kx∧kW∧lN∧mz∧nr∧n7∧oQ∧pQ∧qG∧se∧tt∧uR∧wM∧yk∧AU∧CN∧Fh∧Fi∧Fj∧H9∧KT∧True:=⟨jl,ij,iz,ko,kt,kK,lh,lM,mu,mN,fH,fN,fU,gb,gn,gM,gY,iB,jm,jJ,kp,kL,lO,mO,nT,oR,qm,rC,tu,vy,xH,AV,AW,AX,DR,GS,trivial⟩
theorem Z9{p0 p1 p2 p3 p4 p5 p6 p7 p8 p9 ic iA jc jI ke kx kW lN mz nr n7 oQ pQ qG se tt uR wM yk AU CN Fh Fi Fj H9 KT OJ:Prop}(jl:p0)(ij:p1)(iz:p2)(ko:p3)(kt:p4)(kK:p5)(lh:p6)(lM:p7)(mu:p8)(mN:p9)(fH:ic)(fN:iA)(fU:jc)(gb:jI)(gn:ke)(gM:kx)(gY:kW)(iB:lN)(jm:mz)(jJ:nr)(kp:n7)(kL:oQ)(lO:pQ)(mO:qG)(nT:se)(oR:tt)(qm:uR)(rC:wM)(tu:yk)(vy:AU)(xH:CN)(AV:Fh)(AW:Fi)(AX:Fj)(DR:H9)(GS:KT)(KU:OJ):p0∧p1∧p2∧p3∧p4∧p5∧p6∧p7∧p8∧p9∧ic∧iA∧jc∧jI∧ke∧kx∧kW∧lN∧mz∧nr∧n7∧oQ∧pQ∧qG∧se∧tt∧uR∧wM∧yk∧AU∧CN∧Fh∧Fi∧Fj∧H9∧KT∧OJ∧True:=⟨jl,ij,iz,ko,kt,kK,lh,lM,mu,mN,fH,fN,fU,gb,gn,gM,gY,iB,jm,jJ,kp,kL,lO,mO,nT,oR,qm,rC,tu,vy,xH,AV,AW,AX,DR,GS,KU,trivial⟩
theorem UE{p0 p1 p2 p3 p4 p5 p6 p7 p8 p9 ic iA jc jI ke kx kW lN mz nr n7 oQ pQ qG se tt uR wM yk AU CN Fh Fi Fj H9 KT OJ SL:Prop}(jl:p0)(ij:p1)(iz:p2)(ko:p3)(kt:p4)(kK:p5)(lh:p6)(lM:p7)(mu:p8)(mN:p9)(fH:ic)(fN:iA)(fU:jc)(gb:jI)(gn:ke)(gM:kx)(gY:kW)(iB:lN)(jm:mz)(jJ:nr)(kp:n7)(kL:oQ)(lO:pQ)(mO:qG)(nT:se)(oR:tt)(qm:uR)(rC:wM)(tu:yk)(vy:AU)(xH:CN)(AV:Fh)(AW:Fi)(AX:Fj)(DR:H9)(GS:KT)(KU:OJ)(PX:SL):p0∧p1∧p2∧p3∧p4∧p5∧p6∧p7∧p8∧p9∧ic∧iA∧jc∧jI∧ke∧kx∧kW∧lN∧mz∧nr∧n7∧oQ∧pQ∧qG∧se∧tt∧uR∧wM∧yk∧AU∧CN∧Fh∧Fi∧Fj∧H9∧KT∧OJ∧SL∧True:=⟨jl,ij,iz,ko,kt,kK,lh,lM,mu,mN,fH,fN,fU,gb,gn,gM,gY,iB,jm,jJ,kp,kL,lO,mO,nT,oR,qm,rC,tu,vy,xH,AV,AW,AX,DR,GS,KU,PX,trivial⟩
theorem AY{p0 p1 p2 p3 p4 p5 p6 p7 p8 p9 ic iA jc jI ke kx kW lN mz nr n7 oQ pQ qG se tt uR wM yk AU CN Fh Fi Fj H9 KT OJ SL YA YB:Prop}(jl:p0)(ij:p1)(iz:p2)(ko:p3)(kt:p4)(kK:p5)(lh:p6)(lM:p7)(mu:p8)(mN:p9)(fH:ic)(fN:iA)(fU:jc)(gb:jI)(gn:ke)(gM:kx)(gY:kW)(iB:lN)(jm:mz)(jJ:nr)(kp:n7)(kL:oQ)(lO:pQ)(mO:qG)(nT:se)(oR:tt)(qm:uR)(rC:wM)(tu:yk)(vy:AU)(xH:CN)(AV:Fh)(AW:Fi)(AX:Fj)(DR:H9)(GS:KT)(KU:OJ)(PX:SL)(Wc:YA)(We:YB):p0∧p1∧p2∧p3∧p4∧p5∧p6∧p7∧p8∧p9∧ic∧iA∧jc∧jI∧ke∧kx∧kW∧lN∧mz∧nr∧n7∧oQ∧pQ∧qG∧se∧tt∧uR∧wM∧yk∧AU∧CN∧Fh∧Fi∧Fj∧H9∧KT∧OJ∧SL∧YA∧YB∧True:=⟨jl,ij,iz,ko,kt,kK,lh,lM,mu,mN,fH,fN,fU,gb,gn,gM,gY,iB,jm,jJ,kp,kL,lO,mO,nT,oR,qm,rC,tu,vy,xH,AV,AW,AX,DR,GS,KU,PX,Wc,We,trivial⟩
end Go.Proofs.YtneklnlpgfeplaaGreat.Sym
