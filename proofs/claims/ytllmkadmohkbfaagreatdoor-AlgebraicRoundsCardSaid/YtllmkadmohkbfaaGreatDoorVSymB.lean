/- Lemmas for the statements of this seat. -/
import Derived.Test.YtllmkadmohkbfaaGreatDoorVSymA
import Derived.Laws.Strings
namespace Go.Proofs.YtllmkadmohkbfaaGreatDoor.Sym
open Go Go.RowKit
inductive TK where
 |int (k:IntKind)
 |bool
 |str
 |iface
 |slice (e:TypeId)
 |struct (fs:List (Nat×Nat×Bool))
 |array (len:Nat) (e:TypeId)
 |other
structure TD where
 kind:TK
 size:Nat
 bytes:Nat
 agg:Bool
 zero:List PV
def vf:TypeDesc→Bool
 |.struct _ | .array _ _=>true
 |_=>false
def wb(P:Program)(t:TypeId):Bool:=match P.underlying t with
 |some d=>vf d
 |none=>false
def TK.fits(P:Program):TK→TypeDesc→Prop
 |.int k,u=>u = .int k
 |.bool,u=>u = .bool
 |.str,u=>u = .string
 |.iface,u=>∃ms,u = .interface ms
 |.slice e,u=>u = .slice e
 |.struct fs,u=>∃ff,u = .struct ff∧ff.toList.map (fun f=>(f.offset,P.cellsOf f.type,wb P f.type))=fs∧∀f∈ff,(P.info? f.type).isSome=true∧(P.underlying f.type).isSome=true
 |.array n e,u=>u = .array n e∧(P.info? e).isSome=true∧(P.underlying e).isSome=true
 |.other,_=>True
def Ln:PV→Value→Bool
 |.bool b,.bool c=>b==c
 |.int k n,.int k' n'=>k==k'&&n==n'
 |.str s,.string s'=>decide (s=s')
 |.az,.nilIface=>true
 |.dZ,.slice none 0 0=>true
 |_,_=>false
theorem Lp{p:PV}{v:Value}(h:Ln p v=true)(I:Nat→Prop)(w:World):p.one=true∧Rd I w p v:=by
 unfold Ln at h
 split at h
 ·simp at h;subst h;exact⟨rfl,.bool _⟩
 ·simp at h;obtain⟨rfl,rfl⟩:=h;exact⟨rfl,.int _ _⟩
 ·simp at h;subst h;exact⟨rfl,.str _⟩
 ·exact⟨rfl,.az⟩
 ·exact⟨rfl,.dZ⟩
 ·cases h
def bV(I:Nat→Prop)(w:World)(cs:List PV)(us:List Value):Prop :=
 cs.length=us.length∧∀(j:Nat) c u,cs[j]? = some c→us[j]? = some u→c.one=true∧Rd I w c u
structure qN (P:Program) (t:TypeId) (d:TD):Prop where
 info:∃i,P.info? t=some i∧i.size=d.size∧i.bytes=d.bytes ∧
  ∃z,i.zero=some z∧(d.agg=true→∃cs,z = .agg cs)∧z.cells.size=d.size∧∀I w,bV I w d.zero z.cells.toList
 under:∃u,P.underlying t=some u∧vf u=d.agg∧d.kind.fits P u
def Kh(f:PV→Value→Bool):List PV→List Value→Bool
 |[],[]=>true
 |p::ps,v::vs=>f p v&&Kh f ps vs
 |_,_=>false
theorem CW{f:PV→Value→Bool} : ∀{ps:List PV} {vs:List Value},Kh f ps vs=true→ps.length=vs.length∧∀(j:Nat) p v,ps[j]? = some p→vs[j]? = some v→f p v=true
 |[],[],_=>⟨rfl,fun j p v h=>by simp at h⟩
 |p::ps,v::vs,h=>by
  simp only[Kh,Bool.and_eq_true] at h
  obtain⟨h1,h2⟩:=CW h.2
  refine⟨by simp[h1],fun j q u hq hu => ?_⟩
  cases j with
  |zero=>simp at hq hu;subst hq hu;exact h.1
  |succ j=>simp at hq hu;exact h2 j q u hq hu
 |[],_::_,h=>by simp[Kh] at h
 |_::_,[],h=>by simp[Kh] at h
def Lq(P:Program):TK→TypeDesc→Bool
 |.int k,.int k'=>k==k'
 |.bool,.bool=>true
 |.str,.string=>true
 |.iface,.interface _=>true
 |.slice e,.slice e'=>e==e'
 |.struct fs,.struct ff=>ff.toList.map (fun f=>(f.offset,P.cellsOf f.type,wb P f.type))==fs&&ff.toList.all (fun f=>(P.info? f.type).isSome&&(P.underlying f.type).isSome)
 |.array n e,.array n' e'=>n==n'&&e==e'&&(P.info? e).isSome&&(P.underlying e).isSome
 |.other,_=>true
 |_,_=>false
theorem Ht{P:Program}{k:TK}{u:TypeDesc}(h:Lq P k u=true):k.fits P u:=by
 unfold Lq at h
 split at h
 ·simp at h;subst h;rfl
 ·rfl
 ·rfl
 ·exact⟨_,rfl⟩
 ·simp at h;subst h;rfl
 ·simp at h
  refine⟨_,rfl,h.1,fun f hf => ?_⟩
  obtain⟨i,hi,D0⟩:=Array.mem_iff_getElem.1 hf
  have:=h.2 i hi
  rw[D0] at this
  exact this
 ·simp only[Bool.and_eq_true,beq_iff_eq] at h
  obtain⟨⟨⟨rfl,rfl⟩,h3⟩,h4⟩:=h
  exact⟨rfl,h3,h4⟩
 ·exact True.intro
 ·cases h
def Lr(P:Program)(t:TypeId)(d:TD):Bool :=
 (match P.info? t with
  |some i=>i.size==d.size&&i.bytes==d.bytes&&(match i.zero with
   |some z=>(!d.agg||(match z with | .agg _=>true|_=>false))&&z.cells.size==d.size&&Kh Ln d.zero z.cells.toList
   |none=>false)
  |none=>false) &&
 (match P.underlying t with
  |some u=>vf u==d.agg&&Lq P d.kind u
  |none=>false)
theorem Hu{P:Program}{t:TypeId}{d:TD}(h:Lr P t d=true):qN P t d:=by
 unfold Lr at h
 rw[Bool.and_eq_true] at h
 obtain⟨h1,h2⟩:=h
 constructor
 ·split at h1
  ·rename_i i hi
   simp only[Bool.and_eq_true,beq_iff_eq] at h1
   obtain⟨⟨h3,h4⟩,h5⟩:=h1
   split at h5
   ·rename_i z hz
    simp only[Bool.and_eq_true,beq_iff_eq,Bool.or_eq_true,Bool.not_eq_true'] at h5
    obtain⟨⟨h6,h7⟩,h8⟩:=h5
    refine⟨i,hi,h3,h4,z,hz,fun ha => ?_,h7,fun I w => ?_⟩
    ·rcases h6 with h6|h6
     ·rw[ha] at h6;cases h6
     ·split at h6
      ·exact⟨_,rfl⟩
      ·cases h6
    ·obtain⟨h9,dh⟩:=CW h8
     exact⟨h9,fun j c u hc hu=>Lp (dh j c u hc hu) I w⟩
   ·cases h5
  ·cases h1
 ·split at h2
  ·rename_i u hu
   simp only[Bool.and_eq_true,beq_iff_eq] at h2
   exact⟨u,hu,h2.1,Ht h2.2⟩
  ·cases h2
abbrev kL:=List (TypeId×TD)
def kL.get:kL→TypeId→Option TD
 |[],_=>none
 |(t',d)::r,t=>bif Nat.beq t' t then some d else kL.get r t
def nM(P:Program)(T:kL):Prop:=∀t d,T.get t=some d→qN P t d
theorem nM.of{P:Program}{T:kL}(h:T.all (fun x=>Lr P x.1 x.2)=true):nM P T:=by
 induction T with
 |nil=>intro t d h;simp[kL.get] at h
 |cons x r ih =>
  obtain⟨t',d'⟩:=x
  simp only[List.all_cons,Bool.and_eq_true] at h
  intro t d hd
  unfold kL.get at hd
  cases hb:Nat.beq t' t with
  |true =>
   simp[hb] at hd
   have:t'=t:=Nat.eq_of_beq_eq_true hb
   subst this;subst hd
   exact Hu h.1
  |false =>
   simp[hb] at hd
   exact ih h.2 t d hd
section
variable {P:Program} {t:TypeId} {d:TD} (w:World)
theorem qN.run_typeInfo(h:qN P t d):∃i,(typeInfo t).run P w = .ok i w∧P.info? t=some i∧i.size=d.size∧i.bytes=d.bytes:=by
 obtain⟨i,h1,h2,h3,_⟩:=h.info
 exact⟨i,by simp[typeInfo,h1],h1,h2,h3⟩
theorem qN.run_sizeOf(h:qN P t d):(sizeOf t).run P w = .ok d.size w:=by
 obtain⟨i,h1,h2,_⟩:=h.info
 simp[sizeOf,typeInfo,h1,h2]
theorem ru{u:TypeDesc}(h:P.underlying t=some u):(isAgg t).run P w = .ok (vf u) w:=by
 unfold isAgg
 rw[Sem.run_bind,run_underlying h w]
 cases u<;>rfl
theorem qN.CX(h:qN P t d):(isAgg t).run P w = .ok d.agg w:=by
 obtain⟨u,h1,h2,_⟩:=h.under
 rw[ru w h1,h2]
theorem qN.sW(h:qN P t d):∃z,(zeroValue t).run P w = .ok z w∧(d.agg=true→∃cs,z = .agg cs)∧z.cells.size=d.size∧∀I w,bV I w d.zero z.cells.toList:=by
 obtain⟨i,h1,_,_,z,h3,h4,h5,h6⟩:=h.info
 exact⟨z,by simp[zeroValue,typeInfo,h1,h3],h4,h5,h6⟩
theorem qN.Ls(h:qN P t d):d.zero.length=d.size:=by
 obtain⟨i,_,_,_,z,_,_,h5,h6⟩:=h.info
 have:=(h6 (fun _=>True) default).1
 simpa[h5] using this
end
theorem bV.Hv{I:Nat→Prop}{w:World}{cs:List PV}{us:Array Value}(h:bV I w cs us.toList)(off n:Nat) :
  bV I w ((cs.drop off).take n) (us.extract off (off+n)).toList:=by
 have hl:=h.1
 have hx:(us.extract off (off+n)).toList=(us.toList.drop off).take n:=by
  simp[Array.toList_extract,List.extract_eq_take_drop]
 rw[hx]
 refine⟨by simp at hl ⊢;omega,fun j c u hc hu => ?_⟩
 rw[List.getElem?_take] at hc hu
 split at hc
 ·rw[List.getElem?_drop] at hc
  rw[if_pos (by assumption),List.getElem?_drop] at hu
  exact h.2 _ c u hc hu
 ·cases hc
theorem bV.agg{I:Nat→Prop}{w:World}{cs:List PV}{us:Array Value}(h:bV I w cs us.toList):Rd I w (.agg cs) (.agg us) :=
 .agg cs us (by simpa using h.1) (fun j c hc=>by
  have hl:=h.1
  have hj:j<us.toList.length:=by rw[←hl];exact(List.getElem?_eq_some_iff.1 hc).1
  exact(h.2 j c _ hc (List.getElem?_eq_getElem hj)).1) (fun j c u hc hu=>(h.2 j c u hc (by simpa using hu)).2)
theorem Rd.cells{I:Nat→Prop}{w:World}{p:PV}{v:Value}(h:Rd I w p v)(ht:∀vs,p ≠ .aB vs):bV I w p.cells v.cells.toList:=by
 cases h with
 |agg cs us hl ho h =>
  refine⟨by simpa[PV.cells,Value.cells] using hl,fun j c u hc hu => ?_⟩
  simp only[PV.cells,Value.cells] at hc hu
  exact⟨ho j c hc,h j c u hc (by simpa using hu)⟩
 |aB cs us hl h=>exact absurd rfl (ht cs)
 |bool b=>exact⟨rfl,fun j c u hc hu=>by
   cases j<;>simp[PV.cells,Value.cells] at hc hu
   subst hc hu;exact⟨rfl,.bool b⟩⟩
 |int k n=>exact⟨rfl,fun j c u hc hu=>by
   cases j<;>simp[PV.cells,Value.cells] at hc hu
   subst hc hu;exact⟨rfl,.int k n⟩⟩
 |str s=>exact⟨rfl,fun j c u hc hu=>by
   cases j<;>simp[PV.cells,Value.cells] at hc hu
   subst hc hu;exact⟨rfl,.str s⟩⟩
 |az=>exact⟨rfl,fun j c u hc hu=>by
   cases j<;>simp[PV.cells,Value.cells] at hc hu
   subst hc hu;exact⟨rfl,.az⟩⟩
 |dZ=>exact⟨rfl,fun j c u hc hu=>by
   cases j<;>simp[PV.cells,Value.cells] at hc hu
   subst hc hu;exact⟨rfl,.dZ⟩⟩
 |iface t p v hv=>exact⟨rfl,fun j c u hc hu=>by
   cases j<;>simp[PV.cells,Value.cells] at hc hu
   subst hc hu;exact⟨rfl,.iface t p v hv⟩⟩
 |fn f=>exact⟨rfl,fun j c u hc hu=>by
   cases j<;>simp[PV.cells,Value.cells] at hc hu
   subst hc hu;exact⟨rfl,.fn f⟩⟩
 |nil a c=>exact⟨rfl,fun j c u hc hu=>by
   cases j<;>simp[PV.cells,Value.cells] at hc hu
   subst hc hu;exact⟨rfl,.nil _ _⟩⟩
 |list xs b o c s f hc hb hs ho h=>exact⟨rfl,fun j c u hc hu=>by
   cases j<;>simp[PV.cells,Value.cells] at hc hu
   subst hc hu;exact⟨rfl,.list xs b o _ s f (by assumption) hb hs ho h⟩⟩
def PV.wc:PV→Bool
 |.aB _=>true
 |_=>false
def AB(cs:List PV)(off size:Nat)(agg:Bool):Option PV :=
 bif agg then (bif Nat.ble (off+size) cs.length then some (.agg ((cs.drop off).take size)) else none) else cs[off]?
theorem Fo{P:Program}{t:TypeId}(w:World){I:Nat→Prop}{cs:List PV}{us:Array Value}{off:Nat}{p:PV}(hi:(P.info? t).isSome=true)(hu:(P.underlying t).isSome=true)
  (h:bV I w cs us.toList) (hp:AB cs off (P.cellsOf t) (wb P t)=some p):∃v,(part t us off).run P w = .ok v w∧Rd I w p v:=by
 obtain⟨i,hi⟩:=Option.isSome_iff_exists.1 hi
 obtain⟨u,hu⟩:=Option.isSome_iff_exists.1 hu
 have hs:(sizeOf t).run P w = .ok (P.cellsOf t) w:=by simp[sizeOf,typeInfo,hi,Program.cellsOf]
 have ha:wb P t=vf u:=by simp[wb,hu]
 unfold AB at hp
 rw[ha] at hp
 cases hg:vf u with
 |true =>
  simp only[hg,cond_true] at hp
  cases hb:Nat.ble (off+P.cellsOf t) cs.length with
  |false=>simp[hb] at hp
  |true =>
   simp[hb] at hp
   subst hp
   exact⟨_,by simp[part,ru w hu,hg,hs],(h.Hv off (P.cellsOf t)).agg⟩
 |false =>
  simp only[hg,cond_false] at hp
  have hl:=h.1
  have hj:off<us.size:=by
   have:=(List.getElem?_eq_some_iff.1 hp).1
   simpa[hl] using this
  have hx:us[off]? = some us[off]:=Array.getElem?_eq_getElem hj
  exact⟨us[off],by simp[part,ru w hu,hg,hx],(h.2 off p us[off] hp (by simp[hj])).2⟩
def Hw(op:BinOp)(k:IntKind)(a b:Int):Option PV :=
 match op with
 |.add=>some (.int k (k.wrap (a+b)))
 |.sub=>some (.int k (k.wrap (a-b)))
 |.mul=>some (.int k (k.wrap (a*b)))
 |.quo=>bif decide (b=0) then none else some (.int k (k.wrap (a.tdiv b)))
 |.rem=>bif decide (b=0) then none else some (.int k (a.tmod b))
 |.and=>some (.int k (k.wrap (BitVec.ofInt k.bits a &&& BitVec.ofInt k.bits b).toNat))
 |.or=>some (.int k (k.wrap (BitVec.ofInt k.bits a ||| BitVec.ofInt k.bits b).toNat))
 |.xor=>some (.int k (k.wrap (BitVec.ofInt k.bits a ^^^ BitVec.ofInt k.bits b).toNat))
 |.eql=>some (.bool (a==b))
 |.neq=>some (.bool (a != b))
 |.lss=>some (.bool (decide (a<b)))
 |.leq=>some (.bool (decide (a≤b)))
 |.gtr=>some (.bool (decide (a>b)))
 |.geq=>some (.bool (decide (a≥b)))
 |_=>none
def IZ(op:BinOp)(k:IntKind)(a b:Int):Option PV :=
 match op with
 |.shl=>bif decide (b<0) then none else some (.int k (k.wrap (a*2^(min b.toNat k.bits))))
 |.shr=>bif decide (b<0) then none else some (.int k (a.fdiv (2^(min b.toNat k.bits))))
 |_=>none
def Lt:BinOp→Bool
 |.shl=>true
 |.shr=>true
 |_=>false
def CY(op:BinOp)(b:Bool):Option PV :=
 match op with
 |.eql=>some (.bool b)
 |.neq=>some (.bool (!b))
 |_=>none
def strLt(a b:ByteArray):Bool:=Op.bytesLess a.toList b.toList
def AD(op:BinOp)(a b:ByteArray):Option PV :=
 match op with
 |.add=>bif decide (a.size+b.size<9223372036854775808) then some (.str (a++b)) else none
 |.eql=>some (.bool (decide (a=b)))
 |.neq=>some (.bool (!decide (a=b)))
 |.lss=>some (.bool (strLt a b))
 |.leq=>some (.bool (strLt a b||decide (a=b)))
 |.gtr=>some (.bool (!(strLt a b||decide (a=b))))
 |.geq=>some (.bool (!strLt a b))
 |_=>none
def eC(c:Bool)(op:BinOp)(p q:PV):Option PV :=
 match p,q with
 |.int k a,.int k' b=>bif Lt op then IZ op k a b else bif decide (k=k') then Hw op k a b else none
 |.az,.az=>bif c then CY op true else none
 |.az,.iface _ _=>CY op false
 |.iface _ _,.az=>CY op false
 |.bool a,.bool b=>CY op (a==b)
 |.str a,.str b=>AD op a b
 |_,_=>none
def Lu:Operand→Bool
 |.const _=>true
 |_=>false
theorem zx{P:Program}(w:World){op:BinOp}{t:TypeId}{x y:Operand}(h:(Lu x||Lu y)=true):(eqGuard op t x y .nilIface .nilIface).run P w = .ok () w:=by
 unfold eqGuard
 cases op<;>simp<;>(cases x<;>cases y<;>first|(simp [Lu] at h;done)|simp)
theorem zy{P:Program}(w:World){op:BinOp}{t:TypeId}{x y:Operand}{k:IntKind}{n:Int}{b:Value} : (eqGuard op t x y (.int k n) b).run P w = .ok () w:=by
 unfold eqGuard
 cases op<;>simp
theorem xy{P:Program}(w:World){op:BinOp}{t:TypeId}{x y:Operand}{k:Bool}{b:Value} : (eqGuard op t x y (.bool k) b).run P w = .ok () w:=by
 unfold eqGuard
 cases op<;>simp
theorem zC{P:Program}(w:World){op:BinOp}{t:TypeId}{x y:Operand}{u:TypeId}{v b:Value} : (eqGuard op t x y (.iface u v) b).run P w = .ok () w:=by
 unfold eqGuard
 cases op<;>simp
theorem zD{P:Program}(w:World){op:BinOp}{t:TypeId}{x y:Operand}{u:TypeId}{v:Value} : (eqGuard op t x y .nilIface (.iface u v)).run P w = .ok () w:=by
 unfold eqGuard
 cases op<;>simp
theorem zE{P:Program}(w:World){op:BinOp}{t:TypeId}{x y:Operand}{k:ByteArray}{b:Value} : (eqGuard op t x y (.string k) b).run P w = .ok () w:=by
 unfold eqGuard
 cases op<;>simp
theorem Hx(a b:ByteArray):(a.toList==b.toList)=decide (a=b):=by
 rw[Bool.eq_iff_iff,beq_iff_eq,decide_eq_true_iff,ByteArray.toList_eq,ByteArray.toList_eq]
 constructor
 ·intro h
  cases a;cases b
  simpa using h
 ·rintro rfl;rfl
theorem N8 {P : Program} (w : World) {I : Nat → Prop} {op : BinOp} {t : TypeId} {a b : ByteArray} {r : PV} (hs : AD op a b = some r) :
    ∃ v, (binOp op t (.string a) (.string b)).run P w = .ok v w ∧ Rd I w r v := by
  cases op
  case add =>
    simp only [AD] at hs
    by_cases h : a.size + b.size < 9223372036854775808
    · simp only [h, decide_true, cond_true, Option.some.injEq] at hs
      subst hs
      have hm : ¬ (((a.size + b.size : Nat) : Int) > IntKind.i64.max) := by
        have : IntKind.i64.max = 9223372036854775807 := by decide
        omega
      exact ⟨_, by simp only [binOp, Op.stringOp, hm, if_false]; rfl, .str _⟩
    · simp [h] at hs
  all_goals
    simp only [AD] at hs
    first
      | (cases hs; done)
      | (injection hs with hs; subst hs
         exact ⟨_, by simp only [binOp, Op.stringOp, Hx]; rfl, .bool _⟩)
theorem N9 {P : Program} (w : World) {I : Nat → Prop} {op : BinOp} {t : TypeId} {k k' : IntKind} {m n : Int} {r : PV}
    (hs : (bif Lt op then IZ op k m n else bif decide (k = k') then Hw op k m n else none) = some r) :
    ∃ v, (binOp op t (.int k m) (.int k' n)).run P w = .ok v w ∧ Rd I w r v := by
  cases op
  case shl =>
    simp only [Lt, cond_true, IZ] at hs
    by_cases hn : n < 0
    · simp [hn] at hs
    · simp only [hn, decide_false, cond_false, Option.some.injEq] at hs
      subst hs
      exact ⟨_, by simp only [binOp, Op.shift, hn, if_false]; rfl, .int _ _⟩
  case shr =>
    simp only [Lt, cond_true, IZ] at hs
    by_cases hn : n < 0
    · simp [hn] at hs
    · simp only [hn, decide_false, cond_false, Option.some.injEq] at hs
      subst hs
      exact ⟨_, by simp only [binOp, Op.shift, hn, if_false]; rfl, .int _ _⟩
  all_goals
    simp only [Lt, cond_false] at hs
    by_cases hk : k = k'
    case neg => simp [hk] at hs
    subst hk
    simp only [decide_true, cond_true, Hw] at hs
    first
      | (cases hs; done)
      | (injection hs with hs; subst hs
         first
          | exact ⟨_, by simp only [binOp, ne_eq, not_true_eq_false, if_false, Op.intArith]; rfl, .int _ _⟩
          | exact ⟨_, by simp only [binOp, ne_eq, not_true_eq_false, if_false]; rfl, .int _ _⟩
          | exact ⟨_, by simp only [binOp, ne_eq, not_true_eq_false, if_false, Op.intCmp]; rfl, .bool _⟩)
      | (by_cases hn : n = 0
         · simp [hn] at hs
         · simp only [hn, decide_false, cond_false, Option.some.injEq] at hs
           subst hs
           exact ⟨_, by simp only [binOp, ne_eq, not_true_eq_false, if_false, Op.intDiv, hn]; rfl, .int _ _⟩)
theorem run_equal_bool{P:Program}(w:World){t:TypeId}(ht:P.underlying t=some .bool)(a b:Bool):(Op.equal t (.bool a) (.bool b)).run P w = .ok (a==b) w:=by
 show(Op.equalIn (9999+1) t _ _).run P w=_
 rw[Op.equalIn]
 simp[run_underlying ht]
theorem ry{P:Program}(w:World){t:TypeId}{ms:Array (String×TypeId)}(ht:P.underlying t=some (.interface ms)) :
  (Op.equal t .nilIface .nilIface).run P w = .ok true w∧(∀u v,(Op.equal t .nilIface (.iface u v)).run P w = .ok false w)∧∀u v,(Op.equal t (.iface u v) .nilIface).run P w = .ok false w:=by
 refine⟨?_,fun u v => ?_,fun u v => ?_⟩ <;>
 ·show(Op.equalIn (9999+1) t _ _).run P w=_
  rw[Op.equalIn]
  simp[run_underlying ht]
theorem rz{op:BinOp}{b:Bool}{r:PV}(h:CY op b=some r):(op = .eql∧r = .bool b)∨(op = .neq∧r = .bool (!b)):=by
 unfold CY at h
 split at h
 ·injection h with h;exact .inl ⟨rfl,h.symm⟩
 ·injection h with h;exact .inr ⟨rfl,h.symm⟩
 ·cases h
def QA(P:Program)(t:TypeId)(p:PV):Prop :=
 match p with
 |.bool _=>P.underlying t=some .bool
 |.az=>∃ms,P.underlying t=some (.interface ms)
 |.iface _ _=>∃ms,P.underlying t=some (.interface ms)
 |_=>True
theorem CZ{P:Program}(w:World){I:Nat→Prop}{op:BinOp}{t:TypeId}{x y:Operand}{p q r:PV}{a b:Value}(hp:Rd I w p a)(hq:Rd I w q b)
  (hs:eC (Lu x||Lu y) op p q=some r) (ht:QA P t p) :
  ∃v,(do eqGuard op t x y a b;binOp op t a b:Sem Value).run P w = .ok v w∧Rd I w r v:=by
 unfold eC at hs
 split at hs
 ·cases hp;cases hq
  obtain⟨v,h1,h2⟩:=N9 (P:=P) (t:=t) w hs
  exact⟨v,by rw[Sem.run_bind,zy,Result.andThen_ok,h1],h2⟩
 ·cases hp;cases hq
  obtain⟨ms,QB⟩:=ht
  cases hc:(Lu x||Lu y) with
  |false=>rw[hc] at hs;cases hs
  |true =>
   rw[hc,cond_true] at hs
   rcases rz hs with ⟨rfl,rfl⟩|⟨rfl,rfl⟩ <;>
    exact⟨_,by rw[Sem.run_bind,zx w hc,Result.andThen_ok];simp only[binOp,Sem.run_bind,(ry w QB).1,Result.andThen_ok];rfl,.bool _⟩
 ·cases hp;cases hq
  obtain⟨ms,QB⟩:=ht
  rcases rz hs with ⟨rfl,rfl⟩|⟨rfl,rfl⟩ <;>
   exact⟨_,by rw[Sem.run_bind,zD,Result.andThen_ok];simp only[binOp,Sem.run_bind,(ry w QB).2.1,Result.andThen_ok];rfl,.bool _⟩
 ·cases hp;cases hq
  obtain⟨ms,QB⟩:=ht
  rcases rz hs with ⟨rfl,rfl⟩|⟨rfl,rfl⟩ <;>
   exact⟨_,by rw[Sem.run_bind,zC,Result.andThen_ok];simp only[binOp,Sem.run_bind,(ry w QB).2.2,Result.andThen_ok];rfl,.bool _⟩
 ·cases hp;cases hq
  have QB:P.underlying t=some .bool:=ht
  rcases rz hs with ⟨rfl,rfl⟩|⟨rfl,rfl⟩ <;>
   exact⟨_,by rw[Sem.run_bind,xy,Result.andThen_ok];simp only[binOp,Sem.run_bind,run_equal_bool w QB,Result.andThen_ok];rfl,.bool _⟩
 ·cases hp;cases hq
  obtain⟨v,h1,h2⟩:=N8 (P:=P) (t:=t) w hs
  exact⟨v,by rw[Sem.run_bind,zE,Result.andThen_ok,h1],h2⟩
 ·cases hs
def C0:UnOp→PV→Option PV
 |.not,.bool b=>some (.bool (!b))
 |.neg,.int k n=>some (.int k (k.wrap (0-n)))
 |_,_=>none
theorem Fp{P:Program}(w:World){I:Nat→Prop}{op:UnOp}{p r:PV}{a:Value}(hp:Rd I w p a)(hs:C0 op p=some r) :
  ∃v,(Op.unary op a).run P w = .ok v w∧Rd I w r v:=by
 unfold C0 at hs
 split at hs
 ·cases hp;injection hs with hs;subst hs;exact⟨_,rfl,.bool _⟩
 ·cases hp;injection hs with hs;subst hs;exact⟨_,rfl,.int _ _⟩
 ·cases hs
end Go.Proofs.YtllmkadmohkbfaaGreatDoor.Sym
