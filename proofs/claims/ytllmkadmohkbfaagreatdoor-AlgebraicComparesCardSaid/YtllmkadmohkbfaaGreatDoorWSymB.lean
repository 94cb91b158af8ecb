/- Lemmas for the statements of this seat. -/
import Derived.Test.YtllmkadmohkbfaaGreatDoorWSymA
import Derived.Laws.Strings
namespace Go.Proofs.YtllmkadmohkbfaaGreatDoor.Sym
open Go Go.RowKit
inductive TK where
 |int (k:IntKind)
 |bool
 |str
 |iface
 |slice (e:TypeId)
 |struct (fs:List (Nat×Nat×Bool))
 |array (len:Nat) (e:TypeId)
 |other
structure TD where
 kind:TK
 size:Nat
 bytes:Nat
 agg:Bool
 zero:List PV
def BA:TypeDesc→Bool
 |.struct _ | .array _ _=>true
 |_=>false
def CD(P:Program)(t:TypeId):Bool:=match P.underlying t with
 |some d=>BA d
 |none=>false
def TK.fits(P:Program):TK→TypeDesc→Prop
 |.int k,u=>u = .int k
 |.bool,u=>u = .bool
 |.str,u=>u = .string
 |.iface,u=>∃ms,u = .interface ms
 |.slice e,u=>u = .slice e
 |.struct fs,u=>∃ff,u = .struct ff∧ff.toList.map (fun f=>(f.offset,P.cellsOf f.type,CD P f.type))=fs∧∀f∈ff,(P.info? f.type).isSome=true∧(P.underlying f.type).isSome=true
 |.array n e,u=>u = .array n e∧(P.info? e).isSome=true∧(P.underlying e).isSome=true
 |.other,_=>True
def P0:PV→Value→Bool
 |.bool b,.bool c=>b==c
 |.int k n,.int k' n'=>k==k'&&n==n'
 |.str s,.string s'=>decide (s=s')
 |.aq,.nilIface=>true
 |.gb,.slice none 0 0=>true
 |_,_=>false
theorem P2{p:PV}{v:Value}(h:P0 p v=true)(I:Nat→Prop)(w:World):p.one=true∧Rd I w p v:=by
 unfold P0 at h
 split at h
 ·simp at h;subst h;exact⟨rfl,.bool _⟩
 ·simp at h;obtain⟨rfl,rfl⟩:=h;exact⟨rfl,.int _ _⟩
 ·simp at h;subst h;exact⟨rfl,.str _⟩
 ·exact⟨rfl,.aq⟩
 ·exact⟨rfl,.gb⟩
 ·cases h
def eh(I:Nat→Prop)(w:World)(cs:List PV)(us:List Value):Prop :=
 cs.length=us.length∧∀(j:Nat) c u,cs[j]? = some c→us[j]? = some u→c.one=true∧Rd I w c u
structure xy (P:Program) (t:TypeId) (d:TD):Prop where
 info:∃i,P.info? t=some i∧i.size=d.size∧i.bytes=d.bytes ∧
  ∃z,i.zero=some z∧(d.agg=true→∃cs,z = .agg cs)∧z.cells.size=d.size∧∀I w,eh I w d.zero z.cells.toList
 under:∃u,P.underlying t=some u∧BA u=d.agg∧d.kind.fits P u
def OY(f:PV→Value→Bool):List PV→List Value→Bool
 |[],[]=>true
 |p::ps,v::vs=>f p v&&OY f ps vs
 |_,_=>false
theorem IG{f:PV→Value→Bool} : ∀{ps:List PV} {vs:List Value},OY f ps vs=true→ps.length=vs.length∧∀(j:Nat) p v,ps[j]? = some p→vs[j]? = some v→f p v=true
 |[],[],_=>⟨rfl,fun j p v h=>by simp at h⟩
 |p::ps,v::vs,h=>by
  simp only[OY,Bool.and_eq_true] at h
  obtain⟨h1,h2⟩:=IG h.2
  refine⟨by simp[h1],fun j q u hq hu => ?_⟩
  cases j with
  |zero=>simp at hq hu;subst hq hu;exact h.1
  |succ j=>simp at hq hu;exact h2 j q u hq hu
 |[],_::_,h=>by simp[OY] at h
 |_::_,[],h=>by simp[OY] at h
def P4(P:Program):TK→TypeDesc→Bool
 |.int k,.int k'=>k==k'
 |.bool,.bool=>true
 |.str,.string=>true
 |.iface,.interface _=>true
 |.slice e,.slice e'=>e==e'
 |.struct fs,.struct ff=>ff.toList.map (fun f=>(f.offset,P.cellsOf f.type,CD P f.type))==fs&&ff.toList.all (fun f=>(P.info? f.type).isSome&&(P.underlying f.type).isSome)
 |.array n e,.array n' e'=>n==n'&&e==e'&&(P.info? e).isSome&&(P.underlying e).isSome
 |.other,_=>true
 |_,_=>false
theorem Mi{P:Program}{k:TK}{u:TypeDesc}(h:P4 P k u=true):k.fits P u:=by
 unfold P4 at h
 split at h
 ·simp at h;subst h;rfl
 ·rfl
 ·rfl
 ·exact⟨_,rfl⟩
 ·simp at h;subst h;rfl
 ·simp at h
  refine⟨_,rfl,h.1,fun f hf => ?_⟩
  obtain⟨i,hi,Jt⟩:=Array.mem_iff_getElem.1 hf
  have:=h.2 i hi
  rw[Jt] at this
  exact this
 ·simp only[Bool.and_eq_true,beq_iff_eq] at h
  obtain⟨⟨⟨rfl,rfl⟩,h3⟩,h4⟩:=h
  exact⟨rfl,h3,h4⟩
 ·exact True.intro
 ·cases h
def P5(P:Program)(t:TypeId)(d:TD):Bool :=
 (match P.info? t with
  |some i=>i.size==d.size&&i.bytes==d.bytes&&(match i.zero with
   |some z=>(!d.agg||(match z with | .agg _=>true|_=>false))&&z.cells.size==d.size&&OY P0 d.zero z.cells.toList
   |none=>false)
  |none=>false) &&
 (match P.underlying t with
  |some u=>BA u==d.agg&&P4 P d.kind u
  |none=>false)
theorem Mj{P:Program}{t:TypeId}{d:TD}(h:P5 P t d=true):xy P t d:=by
 unfold P5 at h
 rw[Bool.and_eq_true] at h
 obtain⟨h1,h2⟩:=h
 constructor
 ·split at h1
  ·rename_i i hi
   simp only[Bool.and_eq_true,beq_iff_eq] at h1
   obtain⟨⟨h3,h4⟩,h5⟩:=h1
   split at h5
   ·rename_i z hz
    simp only[Bool.and_eq_true,beq_iff_eq,Bool.or_eq_true,Bool.not_eq_true'] at h5
    obtain⟨⟨h6,h7⟩,h8⟩:=h5
    refine⟨i,hi,h3,h4,z,hz,fun ha => ?_,h7,fun I w => ?_⟩
    ·rcases h6 with h6|h6
     ·rw[ha] at h6;cases h6
     ·split at h6
      ·exact⟨_,rfl⟩
      ·cases h6
    ·obtain⟨h9,dM⟩:=IG h8
     exact⟨h9,fun j c u hc hu=>P2 (dM j c u hc hu) I w⟩
   ·cases h5
  ·cases h1
 ·split at h2
  ·rename_i u hu
   simp only[Bool.and_eq_true,beq_iff_eq] at h2
   exact⟨u,hu,h2.1,Mi h2.2⟩
  ·cases h2
abbrev qU:=List (TypeId×TD)
def qU.get:qU→TypeId→Option TD
 |[],_=>none
 |(t',d)::r,t=>bif Nat.beq t' t then some d else qU.get r t
def uj(P:Program)(T:qU):Prop:=∀t d,T.get t=some d→xy P t d
theorem uj.of{P:Program}{T:qU}(h:T.all (fun x=>P5 P x.1 x.2)=true):uj P T:=by
 induction T with
 |nil=>intro t d h;simp[qU.get] at h
 |cons x r ih =>
  obtain⟨t',d'⟩:=x
  simp only[List.all_cons,Bool.and_eq_true] at h
  intro t d hd
  unfold qU.get at hd
  cases hb:Nat.beq t' t with
  |true =>
   simp[hb] at hd
   have:t'=t:=Nat.eq_of_beq_eq_true hb
   subst this;subst hd
   exact Mj h.1
  |false =>
   simp[hb] at hd
   exact ih h.2 t d hd
section
variable {P:Program} {t:TypeId} {d:TD} (w:World)
theorem xy.run_typeInfo(h:xy P t d):∃i,(typeInfo t).run P w = .ok i w∧P.info? t=some i∧i.size=d.size∧i.bytes=d.bytes:=by
 obtain⟨i,h1,h2,h3,_⟩:=h.info
 exact⟨i,by simp[typeInfo,h1],h1,h2,h3⟩
theorem xy.run_sizeOf(h:xy P t d):(sizeOf t).run P w = .ok d.size w:=by
 obtain⟨i,h1,h2,_⟩:=h.info
 simp[sizeOf,typeInfo,h1,h2]
theorem yh{u:TypeDesc}(h:P.underlying t=some u):(isAgg t).run P w = .ok (BA u) w:=by
 unfold isAgg
 rw[Sem.run_bind,run_underlying h w]
 cases u<;>rfl
theorem xy.IH(h:xy P t d):(isAgg t).run P w = .ok d.agg w:=by
 obtain⟨u,h1,h2,_⟩:=h.under
 rw[yh w h1,h2]
theorem xy.zL(h:xy P t d):∃z,(zeroValue t).run P w = .ok z w∧(d.agg=true→∃cs,z = .agg cs)∧z.cells.size=d.size∧∀I w,eh I w d.zero z.cells.toList:=by
 obtain⟨i,h1,_,_,z,h3,h4,h5,h6⟩:=h.info
 exact⟨z,by simp[zeroValue,typeInfo,h1,h3],h4,h5,h6⟩
theorem xy.P6(h:xy P t d):d.zero.length=d.size:=by
 obtain⟨i,_,_,_,z,_,_,h5,h6⟩:=h.info
 have:=(h6 (fun _=>True) default).1
 simpa[h5] using this
end
theorem eh.Ky{I:Nat→Prop}{w:World}{cs:List PV}{us:Array Value}(h:eh I w cs us.toList)(off n:Nat) :
  eh I w ((cs.drop off).take n) (us.extract off (off+n)).toList:=by
 have hl:=h.1
 have hx:(us.extract off (off+n)).toList=(us.toList.drop off).take n:=by
  simp[Array.toList_extract,List.extract_eq_take_drop]
 rw[hx]
 refine⟨by simp at hl ⊢;omega,fun j c u hc hu => ?_⟩
 rw[List.getElem?_take] at hc hu
 split at hc
 ·rw[List.getElem?_drop] at hc
  rw[if_pos (by assumption),List.getElem?_drop] at hu
  exact h.2 _ c u hc hu
 ·cases hc
theorem eh.agg{I:Nat→Prop}{w:World}{cs:List PV}{us:Array Value}(h:eh I w cs us.toList):Rd I w (.agg cs) (.agg us) :=
 .agg cs us (by simpa using h.1) (fun j c hc=>by
  have hl:=h.1
  have hj:j<us.toList.length:=by rw[←hl];exact(List.getElem?_eq_some_iff.1 hc).1
  exact(h.2 j c _ hc (List.getElem?_eq_getElem hj)).1) (fun j c u hc hu=>(h.2 j c u hc (by simpa using hu)).2)
theorem Rd.cells{I:Nat→Prop}{w:World}{p:PV}{v:Value}(h:Rd I w p v)(ht:∀vs,p ≠ .aB vs):eh I w p.cells v.cells.toList:=by
 cases h with
 |agg cs us hl ho h =>
  refine⟨by simpa[PV.cells,Value.cells] using hl,fun j c u hc hu => ?_⟩
  simp only[PV.cells,Value.cells] at hc hu
  exact⟨ho j c hc,h j c u hc (by simpa using hu)⟩
 |aB cs us hl h=>exact absurd rfl (ht cs)
 |bool b=>exact⟨rfl,fun j c u hc hu=>by
   cases j<;>simp[PV.cells,Value.cells] at hc hu
   subst hc hu;exact⟨rfl,.bool b⟩⟩
 |int k n=>exact⟨rfl,fun j c u hc hu=>by
   cases j<;>simp[PV.cells,Value.cells] at hc hu
   subst hc hu;exact⟨rfl,.int k n⟩⟩
 |str s=>exact⟨rfl,fun j c u hc hu=>by
   cases j<;>simp[PV.cells,Value.cells] at hc hu
   subst hc hu;exact⟨rfl,.str s⟩⟩
 |aq=>exact⟨rfl,fun j c u hc hu=>by
   cases j<;>simp[PV.cells,Value.cells] at hc hu
   subst hc hu;exact⟨rfl,.aq⟩⟩
 |gb=>exact⟨rfl,fun j c u hc hu=>by
   cases j<;>simp[PV.cells,Value.cells] at hc hu
   subst hc hu;exact⟨rfl,.gb⟩⟩
 |iface t p v hv=>exact⟨rfl,fun j c u hc hu=>by
   cases j<;>simp[PV.cells,Value.cells] at hc hu
   subst hc hu;exact⟨rfl,.iface t p v hv⟩⟩
 |fn f=>exact⟨rfl,fun j c u hc hu=>by
   cases j<;>simp[PV.cells,Value.cells] at hc hu
   subst hc hu;exact⟨rfl,.fn f⟩⟩
 |nil a c=>exact⟨rfl,fun j c u hc hu=>by
   cases j<;>simp[PV.cells,Value.cells] at hc hu
   subst hc hu;exact⟨rfl,.nil _ _⟩⟩
 |list xs b o c s f hc hb hs ho h=>exact⟨rfl,fun j c u hc hu=>by
   cases j<;>simp[PV.cells,Value.cells] at hc hu
   subst hc hu;exact⟨rfl,.list xs b o _ s f (by assumption) hb hs ho h⟩⟩
def PV.Bk:PV→Bool
 |.aB _=>true
 |_=>false
def Ga(cs:List PV)(off size:Nat)(agg:Bool):Option PV :=
 bif agg then (bif Nat.ble (off+size) cs.length then some (.agg ((cs.drop off).take size)) else none) else cs[off]?
theorem Kz{P:Program}{t:TypeId}(w:World){I:Nat→Prop}{cs:List PV}{us:Array Value}{off:Nat}{p:PV}(hi:(P.info? t).isSome=true)(hu:(P.underlying t).isSome=true)
  (h:eh I w cs us.toList) (hp:Ga cs off (P.cellsOf t) (CD P t)=some p):∃v,(part t us off).run P w = .ok v w∧Rd I w p v:=by
 obtain⟨i,hi⟩:=Option.isSome_iff_exists.1 hi
 obtain⟨u,hu⟩:=Option.isSome_iff_exists.1 hu
 have hs:(sizeOf t).run P w = .ok (P.cellsOf t) w:=by simp[sizeOf,typeInfo,hi,Program.cellsOf]
 have ha:CD P t=BA u:=by simp[CD,hu]
 unfold Ga at hp
 rw[ha] at hp
 cases hg:BA u with
 |true =>
  simp only[hg,cond_true] at hp
  cases hb:Nat.ble (off+P.cellsOf t) cs.length with
  |false=>simp[hb] at hp
  |true =>
   simp[hb] at hp
   subst hp
   exact⟨_,by simp[part,yh w hu,hg,hs],(h.Ky off (P.cellsOf t)).agg⟩
 |false =>
  simp only[hg,cond_false] at hp
  have hl:=h.1
  have hj:off<us.size:=by
   have:=(List.getElem?_eq_some_iff.1 hp).1
   simpa[hl] using this
  have hx:us[off]? = some us[off]:=Array.getElem?_eq_getElem hj
  exact⟨us[off],by simp[part,yh w hu,hg,hx],(h.2 off p us[off] hp (by simp[hj])).2⟩
def Mk(op:BinOp)(k:IntKind)(a b:Int):Option PV :=
 match op with
 |.add=>some (.int k (k.wrap (a+b)))
 |.sub=>some (.int k (k.wrap (a-b)))
 |.mul=>some (.int k (k.wrap (a*b)))
 |.quo=>bif decide (b=0) then none else some (.int k (k.wrap (a.tdiv b)))
 |.rem=>bif decide (b=0) then none else some (.int k (a.tmod b))
 |.and=>some (.int k (k.wrap (BitVec.ofInt k.bits a &&& BitVec.ofInt k.bits b).toNat))
 |.or=>some (.int k (k.wrap (BitVec.ofInt k.bits a ||| BitVec.ofInt k.bits b).toNat))
 |.xor=>some (.int k (k.wrap (BitVec.ofInt k.bits a ^^^ BitVec.ofInt k.bits b).toNat))
 |.eql=>some (.bool (a==b))
 |.neq=>some (.bool (a != b))
 |.lss=>some (.bool (decide (a<b)))
 |.leq=>some (.bool (decide (a≤b)))
 |.gtr=>some (.bool (decide (a>b)))
 |.geq=>some (.bool (decide (a≥b)))
 |_=>none
def NR(op:BinOp)(k:IntKind)(a b:Int):Option PV :=
 match op with
 |.shl=>bif decide (b<0) then none else some (.int k (k.wrap (a*2^(min b.toNat k.bits))))
 |.shr=>bif decide (b<0) then none else some (.int k (a.fdiv (2^(min b.toNat k.bits))))
 |_=>none
def P7:BinOp→Bool
 |.shl=>true
 |.shr=>true
 |_=>false
def II(op:BinOp)(b:Bool):Option PV :=
 match op with
 |.eql=>some (.bool b)
 |.neq=>some (.bool (!b))
 |_=>none
def strLt(a b:ByteArray):Bool:=Op.bytesLess a.toList b.toList
def Gb(op:BinOp)(a b:ByteArray):Option PV :=
 match op with
 |.add=>bif decide (a.size+b.size<9223372036854775808) then some (.str (a++b)) else none
 |.eql=>some (.bool (decide (a=b)))
 |.neq=>some (.bool (!decide (a=b)))
 |.lss=>some (.bool (strLt a b))
 |.leq=>some (.bool (strLt a b||decide (a=b)))
 |.gtr=>some (.bool (!(strLt a b||decide (a=b))))
 |.geq=>some (.bool (!strLt a b))
 |_=>none
def jm(c:Bool)(op:BinOp)(p q:PV):Option PV :=
 match p,q with
 |.int k a,.int k' b=>bif P7 op then NR op k a b else bif decide (k=k') then Mk op k a b else none
 |.aq,.aq=>bif c then II op true else none
 |.aq,.iface _ _=>II op false
 |.iface _ _,.aq=>II op false
 |.bool a,.bool b=>II op (a==b)
 |.str a,.str b=>Gb op a b
 |_,_=>none
def P8:Operand→Bool
 |.const _=>true
 |_=>false
theorem Ff{P:Program}(w:World){op:BinOp}{t:TypeId}{x y:Operand}(h:(P8 x||P8 y)=true):(eqGuard op t x y .nilIface .nilIface).run P w = .ok () w:=by
 unfold eqGuard
 cases op<;>simp<;>(cases x<;>cases y<;>first|(simp [P8] at h;done)|simp)
theorem Fg{P:Program}(w:World){op:BinOp}{t:TypeId}{x y:Operand}{k:IntKind}{n:Int}{b:Value} : (eqGuard op t x y (.int k n) b).run P w = .ok () w:=by
 unfold eqGuard
 cases op<;>simp
theorem DP{P:Program}(w:World){op:BinOp}{t:TypeId}{x y:Operand}{k:Bool}{b:Value} : (eqGuard op t x y (.bool k) b).run P w = .ok () w:=by
 unfold eqGuard
 cases op<;>simp
theorem Fh{P:Program}(w:World){op:BinOp}{t:TypeId}{x y:Operand}{u:TypeId}{v b:Value} : (eqGuard op t x y (.iface u v) b).run P w = .ok () w:=by
 unfold eqGuard
 cases op<;>simp
theorem Fi{P:Program}(w:World){op:BinOp}{t:TypeId}{x y:Operand}{u:TypeId}{v:Value} : (eqGuard op t x y .nilIface (.iface u v)).run P w = .ok () w:=by
 unfold eqGuard
 cases op<;>simp
theorem Fj{P:Program}(w:World){op:BinOp}{t:TypeId}{x y:Operand}{k:ByteArray}{b:Value} : (eqGuard op t x y (.string k) b).run P w = .ok () w:=by
 unfold eqGuard
 cases op<;>simp
theorem Ml(a b:ByteArray):(a.toList==b.toList)=decide (a=b):=by
 rw[Bool.eq_iff_iff,beq_iff_eq,decide_eq_true_iff,ByteArray.toList_eq,ByteArray.toList_eq]
 constructor
 ·intro h
  cases a;cases b
  simpa using h
 ·rintro rfl;rfl
theorem Si {P : Program} (w : World) {I : Nat → Prop} {op : BinOp} {t : TypeId} {a b : ByteArray} {r : PV} (hs : Gb op a b = some r) :
    ∃ v, (binOp op t (.string a) (.string b)).run P w = .ok v w ∧ Rd I w r v := by
  cases op
  case add =>
    simp only [Gb] at hs
    by_cases h : a.size + b.size < 9223372036854775808
    · simp only [h, decide_true, cond_true, Option.some.injEq] at hs
      subst hs
      have hm : ¬ (((a.size + b.size : Nat) : Int) > IntKind.i64.max) := by
        have : IntKind.i64.max = 9223372036854775807 := by decide
        omega
      exact ⟨_, by simp only [binOp, Op.stringOp, hm, if_false]; rfl, .str _⟩
    · simp [h] at hs
  all_goals
    simp only [Gb] at hs
    first
      | (cases hs; done)
      | (injection hs with hs; subst hs
         exact ⟨_, by simp only [binOp, Op.stringOp, Ml]; rfl, .bool _⟩)
theorem Sj {P : Program} (w : World) {I : Nat → Prop} {op : BinOp} {t : TypeId} {k k' : IntKind} {m n : Int} {r : PV}
    (hs : (bif P7 op then NR op k m n else bif decide (k = k') then Mk op k m n else none) = some r) :
    ∃ v, (binOp op t (.int k m) (.int k' n)).run P w = .ok v w ∧ Rd I w r v := by
  cases op
  case shl =>
    simp only [P7, cond_true, NR] at hs
    by_cases hn : n < 0
    · simp [hn] at hs
    · simp only [hn, decide_false, cond_false, Option.some.injEq] at hs
      subst hs
      exact ⟨_, by simp only [binOp, Op.shift, hn, if_false]; rfl, .int _ _⟩
  case shr =>
    simp only [P7, cond_true, NR] at hs
    by_cases hn : n < 0
    · simp [hn] at hs
    · simp only [hn, decide_false, cond_false, Option.some.injEq] at hs
      subst hs
      exact ⟨_, by simp only [binOp, Op.shift, hn, if_false]; rfl, .int _ _⟩
  all_goals
    simp only [P7, cond_false] at hs
    by_cases hk : k = k'
    case neg => simp [hk] at hs
    subst hk
    simp only [decide_true, cond_true, Mk] at hs
    first
      | (cases hs; done)
      | (injection hs with hs; subst hs
         first
          | exact ⟨_, by simp only [binOp, ne_eq, not_true_eq_false, if_false, Op.intArith]; rfl, .int _ _⟩
          | exact ⟨_, by simp only [binOp, ne_eq, not_true_eq_false, if_false]; rfl, .int _ _⟩
          | exact ⟨_, by simp only [binOp, ne_eq, not_true_eq_false, if_false, Op.intCmp]; rfl, .bool _⟩)
      | (by_cases hn : n = 0
         · simp [hn] at hs
         · simp only [hn, decide_false, cond_false, Option.some.injEq] at hs
           subst hs
           exact ⟨_, by simp only [binOp, ne_eq, not_true_eq_false, if_false, Op.intDiv, hn]; rfl, .int _ _⟩)
theorem run_equal_bool{P:Program}(w:World){t:TypeId}(ht:P.underlying t=some .bool)(a b:Bool):(Op.equal t (.bool a) (.bool b)).run P w = .ok (a==b) w:=by
 show(Op.equalIn (9999+1) t _ _).run P w=_
 rw[Op.equalIn]
 simp[run_underlying ht]
theorem yi{P:Program}(w:World){t:TypeId}{ms:Array (String×TypeId)}(ht:P.underlying t=some (.interface ms)) :
  (Op.equal t .nilIface .nilIface).run P w = .ok true w∧(∀u v,(Op.equal t .nilIface (.iface u v)).run P w = .ok false w)∧∀u v,(Op.equal t (.iface u v) .nilIface).run P w = .ok false w:=by
 refine⟨?_,fun u v => ?_,fun u v => ?_⟩ <;>
 ·show(Op.equalIn (9999+1) t _ _).run P w=_
  rw[Op.equalIn]
  simp[run_underlying ht]
theorem yj{op:BinOp}{b:Bool}{r:PV}(h:II op b=some r):(op = .eql∧r = .bool b)∨(op = .neq∧r = .bool (!b)):=by
 unfold II at h
 split at h
 ·injection h with h;exact .inl ⟨rfl,h.symm⟩
 ·injection h with h;exact .inr ⟨rfl,h.symm⟩
 ·cases h
def Un(P:Program)(t:TypeId)(p:PV):Prop :=
 match p with
 |.bool _=>P.underlying t=some .bool
 |.aq=>∃ms,P.underlying t=some (.interface ms)
 |.iface _ _=>∃ms,P.underlying t=some (.interface ms)
 |_=>True
theorem IJ{P:Program}(w:World){I:Nat→Prop}{op:BinOp}{t:TypeId}{x y:Operand}{p q r:PV}{a b:Value}(hp:Rd I w p a)(hq:Rd I w q b)
  (hs:jm (P8 x||P8 y) op p q=some r) (ht:Un P t p) :
  ∃v,(do eqGuard op t x y a b;binOp op t a b:Sem Value).run P w = .ok v w∧Rd I w r v:=by
 unfold jm at hs
 split at hs
 ·cases hp;cases hq
  obtain⟨v,h1,h2⟩:=Sj (P:=P) (t:=t) w hs
  exact⟨v,by rw[Sem.run_bind,Fg,Result.andThen_ok,h1],h2⟩
 ·cases hp;cases hq
  obtain⟨ms,Uo⟩:=ht
  cases hc:(P8 x||P8 y) with
  |false=>rw[hc] at hs;cases hs
  |true =>
   rw[hc,cond_true] at hs
   rcases yj hs with ⟨rfl,rfl⟩|⟨rfl,rfl⟩ <;>
    exact⟨_,by rw[Sem.run_bind,Ff w hc,Result.andThen_ok];simp only[binOp,Sem.run_bind,(yi w Uo).1,Result.andThen_ok];rfl,.bool _⟩
 ·cases hp;cases hq
  obtain⟨ms,Uo⟩:=ht
  rcases yj hs with ⟨rfl,rfl⟩|⟨rfl,rfl⟩ <;>
   exact⟨_,by rw[Sem.run_bind,Fi,Result.andThen_ok];simp only[binOp,Sem.run_bind,(yi w Uo).2.1,Result.andThen_ok];rfl,.bool _⟩
 ·cases hp;cases hq
  obtain⟨ms,Uo⟩:=ht
  rcases yj hs with ⟨rfl,rfl⟩|⟨rfl,rfl⟩ <;>
   exact⟨_,by rw[Sem.run_bind,Fh,Result.andThen_ok];simp only[binOp,Sem.run_bind,(yi w Uo).2.2,Result.andThen_ok];rfl,.bool _⟩
 ·cases hp;cases hq
  have Uo:P.underlying t=some .bool:=ht
  rcases yj hs with ⟨rfl,rfl⟩|⟨rfl,rfl⟩ <;>
   exact⟨_,by rw[Sem.run_bind,DP,Result.andThen_ok];simp only[binOp,Sem.run_bind,run_equal_bool w Uo,Result.andThen_ok];rfl,.bool _⟩
 ·cases hp;cases hq
  obtain⟨v,h1,h2⟩:=Si (P:=P) (t:=t) w hs
  exact⟨v,by rw[Sem.run_bind,Fj,Result.andThen_ok,h1],h2⟩
 ·cases hs
def IK:UnOp→PV→Option PV
 |.not,.bool b=>some (.bool (!b))
 |.neg,.int k n=>some (.int k (k.wrap (0-n)))
 |_,_=>none
theorem KA{P:Program}(w:World){I:Nat→Prop}{op:UnOp}{p r:PV}{a:Value}(hp:Rd I w p a)(hs:IK op p=some r) :
  ∃v,(Op.unary op a).run P w = .ok v w∧Rd I w r v:=by
 unfold IK at hs
 split at hs
 ·cases hp;injection hs with hs;subst hs;exact⟨_,rfl,.bool _⟩
 ·cases hp;injection hs with hs;subst hs;exact⟨_,rfl,.int _ _⟩
 ·cases hs
end Go.Proofs.YtllmkadmohkbfaaGreatDoor.Sym
