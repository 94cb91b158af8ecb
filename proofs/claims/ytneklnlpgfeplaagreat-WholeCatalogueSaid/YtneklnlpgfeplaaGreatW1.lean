/- Lemmas for the statements of this seat. -/
import Derived.Test.YtneklnlpgfeplaaGreatW0
import Derived.Laws.Strings
import Derived.Laws.StructEq
namespace Go.Proofs.YtneklnlpgfeplaaGreat.Sym
open Go Go.RowKit
inductive TK where
 |int (k:IntKind)
 |bool
 |str
 |iface
 |slice (e:TypeId)
 |struct (fs:List (Nat×Nat×Bool))
 |array (len:Nat) (e:TypeId)
 |other
structure TD where
 kind:TK
 size:Nat
 bytes:Nat
 agg:Bool
 zero:List PV
 Ml:List TK
def ve:TypeDesc→Bool
 |.struct _ | .array _ _=>true
 |_=>false
def xY(P:Program)(t:TypeId):Bool:=match P.underlying t with
 |some d=>ve d
 |none=>false
def TK.fits(P:Program):TK→TypeDesc→Prop
 |.int k,u=>u = .int k
 |.bool,u=>u = .bool
 |.str,u=>u = .string
 |.iface,u=>∃ms,u = .interface ms
 |.slice e,u=>u = .slice e
 |.struct fs,u=>∃ff,u = .struct ff∧ff.toList.map (fun f=>(f.offset,P.cellsOf f.type,xY P f.type))=fs∧∀f∈ff,(P.info? f.type).isSome=true∧(P.underlying f.type).isSome=true
 |.array n e,u=>u = .array n e∧(P.info? e).isSome=true∧(P.underlying e).isSome=true
 |.other,_=>True
def JG:PV→Value→Bool
 |.bool b,.bool c=>b==c
 |.int k n,.int k' n'=>k==k'&&n==n'
 |.str s,.string s'=>decide (s=s')
 |.ar,.nilIface=>true
 |.aT,.slice none 0 0=>true
 |.bD,.nilFunc=>true
 |.uv,.pointer none=>true
 |_,_=>false
theorem JH{p:PV}{v:Value}(h:JG p v=true)(I:Nat→Prop)(w:World):p.one=true∧Rd I w p v:=by
 unfold JG at h;split at h
 ·simp at h;subst h;exact⟨rfl,.bool _⟩
 ·simp at h;obtain⟨rfl,rfl⟩:=h;exact⟨rfl,.int _ _⟩
 ·simp at h;subst h;exact⟨rfl,.str _⟩
 ·exact⟨rfl,.ar⟩
 ·exact⟨rfl,.aT⟩
 ·exact⟨rfl,.bD⟩
 ·exact⟨rfl,.uv⟩
 ·cases h
def bO(I:Nat→Prop)(w:World)(cs:List PV)(us:List Value):Prop :=
 cs.length=us.length∧∀(j:Nat) c u,cs[j]? = some c→us[j]? = some u→c.one=true∧Rd I w c u
def Dj(P:Program)(k:TK)(t:TypeId):Bool:=match P.underlying t,k with
 |some .bool,.bool=>true
 |some .string,.str=>true
 |some (.int k'),.int k=>k==k'
 |_,_=>false
def qg (P : Program) : Nat → List TK → List Field → Bool
  | _, [], [] => true
  | n, k :: ks, f :: r => (decide (f.name ≠ "_") && Nat.beq f.offset n) && (Dj P k f.type && qg P (n + 1) ks r)
  | _, _, _ => false
def vR(P:Program)(t:TypeId)(ks:List TK):Bool :=
 !P.eqGuardType P.depth t&&(!P.stoodInHeld t&&match P.underlying t with
  |some (.struct fs)=>qg P 0 ks fs.toList
  |_=>false)
structure od (P:Program) (t:TypeId) (d:TD):Prop where
 info:∃i,P.info? t=some i∧i.size=d.size∧i.bytes=d.bytes ∧
  ∃z,i.zero=some z∧(d.agg=true→∃cs,z = .agg cs)∧z.cells.size=d.size∧∀I w,bO I w d.zero z.cells.toList
 under:∃u,P.underlying t=some u∧ve u=d.agg∧d.kind.fits P u
 Ml:d.Ml≠[]→vR P t d.Ml=true
def IB(f:PV→Value→Bool):List PV→List Value→Bool
 |[],[]=>true
 |p::ps,v::vs=>f p v&&IB f ps vs
 |_,_=>false
theorem Ck{f:PV→Value→Bool} : ∀{ps:List PV} {vs:List Value},IB f ps vs=true→ps.length=vs.length∧∀(j:Nat) p v,ps[j]? = some p→vs[j]? = some v→f p v=true
 |[],[],_=>⟨rfl,fun j p v h=>by simp at h⟩
 |p::ps,v::vs,h=>by
  simp only[IB,Bool.and_eq_true] at h;obtain⟨h1,h2⟩:=Ck h.2;refine⟨by simp[h1],fun j q u hq hu => ?_⟩;cases j with
  |zero=>simp at hq hu;subst hq hu;exact h.1
  |succ j=>simp at hq hu;exact h2 j q u hq hu
 |[],_::_,h=>by simp[IB] at h
 |_::_,[],h=>by simp[IB] at h
def JI(P:Program):TK→TypeDesc→Bool
 |.int k,.int k'=>k==k'
 |.bool,.bool=>true
 |.str,.string=>true
 |.iface,.interface _=>true
 |.slice e,.slice e'=>e==e'
 |.struct fs,.struct ff=>ff.toList.map (fun f=>(f.offset,P.cellsOf f.type,xY P f.type))==fs&&ff.toList.all (fun f=>(P.info? f.type).isSome&&(P.underlying f.type).isSome)
 |.array n e,.array n' e'=>n==n'&&e==e'&&(P.info? e).isSome&&(P.underlying e).isSome
 |.other,_=>true
 |_,_=>false
theorem F8{P:Program}{k:TK}{u:TypeDesc}(h:JI P k u=true):k.fits P u:=by
 unfold JI at h;split at h
 ·simp at h;subst h;rfl
 ·rfl
 ·rfl
 ·exact⟨_,rfl⟩
 ·simp at h;subst h;rfl
 ·simp at h;refine⟨_,rfl,h.1,fun f hf => ?_⟩;obtain⟨i,hi,Cl⟩:=Array.mem_iff_getElem.1 hf;have:=h.2 i hi;rw[Cl] at this;exact this
 ·simp only[Bool.and_eq_true,beq_iff_eq] at h;obtain⟨⟨⟨rfl,rfl⟩,h3⟩,h4⟩:=h;exact⟨rfl,h3,h4⟩
 ·exact True.intro
 ·cases h
def JJ(P:Program)(t:TypeId)(d:TD):Bool :=
 (match P.info? t with
  |some i=>i.size==d.size&&i.bytes==d.bytes&&(match i.zero with
   |some z=>(!d.agg||(match z with | .agg _=>true|_=>false))&&z.cells.size==d.size&&IB JG d.zero z.cells.toList
   |none=>false)
  |none=>false) &&
 (match P.underlying t with
  |some u=>ve u==d.agg&&JI P d.kind u
  |none=>false)&&(d.Ml.isEmpty||vR P t d.Ml)
theorem F9{P:Program}{t:TypeId}{d:TD}(h:JJ P t d=true):od P t d:=by
 unfold JJ at h;rw[abK,abK] at h;obtain⟨⟨h1,h2⟩,h0⟩:=h;refine⟨?_,?_,fun he=>by cases hd:d.Ml<;>simp_all⟩
 ·split at h1
  ·rename_i i hi;simp only[Bool.and_eq_true,beq_iff_eq] at h1;obtain⟨⟨h3,h4⟩,h5⟩:=h1;split at h5
   ·rename_i z hz;simp only[Bool.and_eq_true,beq_iff_eq,Bool.or_eq_true,Bool.not_eq_true'] at h5;obtain⟨⟨h6,h7⟩,h8⟩:=h5;refine⟨i,hi,h3,h4,z,hz,fun ha => ?_,h7,fun I w => ?_⟩
    ·rcases h6 with h6|h6
     ·rw[ha] at h6;cases h6
     ·split at h6
      ·exact⟨_,rfl⟩
      ·cases h6
    ·obtain⟨h9,cE⟩:=Ck h8;exact⟨h9,fun j c u hc hu=>JH (cE j c u hc hu) I w⟩
   ·cases h5
  ·cases h1
 ·split at h2
  ·rename_i u hu;simp only[Bool.and_eq_true,beq_iff_eq] at h2;exact⟨u,hu,h2.1,F8 h2.2⟩
  ·cases h2
abbrev ja:=List (TypeId×TD)
def ja.get:ja→TypeId→Option TD
 |[],_=>none
 |(t',d)::r,t=>bif Nat.beq t' t then some d else ja.get r t
def mm(P:Program)(T:ja):Prop:=∀t d,T.get t=some d→od P t d
theorem mm.of{P:Program}{T:ja}(h:T.all (fun x=>JJ P x.1 x.2)=true):mm P T:=by
 induction T with
 |nil=>intro t d h;simp[ja.get] at h
 |cons x r ih =>
  obtain⟨t',d'⟩:=x;simp only[List.all_cons,Bool.and_eq_true] at h;intro t d hd;unfold ja.get at hd;cases hb:Nat.beq t' t with
  |true =>simp[hb] at hd;have:t'=t:=abO hb;subst this;subst hd;exact F9 h.1
  |false =>simp[hb] at hd;exact ih h.2 t d hd
section
variable {P:Program} {t:TypeId} {d:TD} (w:World)
theorem od.run_typeInfo(h:od P t d):∃i,(typeInfo t).run P w = .ok i w∧P.info? t=some i∧i.size=d.size∧i.bytes=d.bytes:=by obtain⟨i,h1,h2,h3,_⟩:=h.info;exact⟨i,by simp[typeInfo,h1],h1,h2,h3⟩
theorem od.run_sizeOf(h:od P t d):(sizeOf t).run P w = .ok d.size w:=by obtain⟨i,h1,h2,_⟩:=h.info;simp[sizeOf,typeInfo,h1,h2]
theorem qY{u:TypeDesc}(h:P.underlying t=some u):(isAgg t).run P w = .ok (ve u) w:=by unfold isAgg;rw[abU,run_underlying h w];cases u<;>rfl
theorem od.xi(h:od P t d):(isAgg t).run P w = .ok d.agg w:=by obtain⟨u,h1,h2,_⟩:=h.under;rw[qY w h1,h2]
theorem od.oD(h:od P t d):∃z,(zeroValue t).run P w = .ok z w∧(d.agg=true→∃cs,z = .agg cs)∧z.cells.size=d.size∧∀I w,bO I w d.zero z.cells.toList:=by obtain⟨i,h1,_,_,z,h3,h4,h5,h6⟩:=h.info;exact⟨z,by simp[zeroValue,typeInfo,h1,h3],h4,h5,h6⟩
theorem od.JK(h:od P t d):d.zero.length=d.size:=by obtain⟨i,_,_,_,z,_,_,h5,h6⟩:=h.info;have:=(h6 (fun _=>True) default).1;simpa[h5] using this
end
theorem bO.MA{I:Nat→Prop}{w:World}{cs:List PV}{us:Array Value}(h:bO I w cs us.toList)(off n:Nat) :
  bO I w ((cs.drop off).take n) (us.extract off (off+n)).toList:=by
 have hl:=h.1;have hx:(us.extract off (off+n)).toList=(us.toList.drop off).take n:=by simp[Array.toList_extract,List.extract_eq_take_drop]
 rw[hx];refine⟨by simp at hl ⊢;omega,fun j c u hc hu => ?_⟩;rw[ack] at hc hu;split at hc
 ·rw[acq] at hc;rw[ac7 (by assumption),acq] at hu;exact h.2 _ c u hc hu
 ·cases hc
theorem bO.agg{I:Nat→Prop}{w:World}{cs:List PV}{us:Array Value}(h:bO I w cs us.toList):Rd I w (.agg cs) (.agg us) :=
 .agg cs us (by simpa using h.1) (fun j c hc=>by
  have hl:=h.1;have hj:j<us.toList.length:=by rw[←hl];exact(abL.1 hc).1
  exact(h.2 j c _ hc (abJ hj)).1) (fun j c u hc hu=>(h.2 j c u hc (by simpa using hu)).2)
theorem Rd.cells{I:Nat→Prop}{w:World}{p:PV}{v:Value}(h:Rd I w p v)(ht:∀vs,p ≠ .bg vs):bO I w p.cells v.cells.toList:=by
 cases h with
 |agg cs us hl ho h =>refine⟨by simpa[PV.cells,Value.cells] using hl,fun j c u hc hu => ?_⟩;simp only[PV.cells,Value.cells] at hc hu;exact⟨ho j c hc,h j c u hc (by simpa using hu)⟩
 |bg cs us hl h=>exact absurd rfl (ht cs)
 |bool b=>exact⟨rfl,fun j c u hc hu=>by cases j<;>simp[PV.cells,Value.cells] at hc hu;subst hc hu;exact⟨rfl,.bool b⟩⟩
 |int k n=>exact⟨rfl,fun j c u hc hu=>by cases j<;>simp[PV.cells,Value.cells] at hc hu;subst hc hu;exact⟨rfl,.int k n⟩⟩
 |str s=>exact⟨rfl,fun j c u hc hu=>by cases j<;>simp[PV.cells,Value.cells] at hc hu;subst hc hu;exact⟨rfl,.str s⟩⟩
 |ar=>exact⟨rfl,fun j c u hc hu=>by cases j<;>simp[PV.cells,Value.cells] at hc hu;subst hc hu;exact⟨rfl,.ar⟩⟩
 |aT=>exact⟨rfl,fun j c u hc hu=>by cases j<;>simp[PV.cells,Value.cells] at hc hu;subst hc hu;exact⟨rfl,.aT⟩⟩
 |bD=>exact⟨rfl,fun j c u hc hu=>by cases j<;>simp[PV.cells,Value.cells] at hc hu;subst hc hu;exact⟨rfl,.bD⟩⟩
 |uv=>exact⟨rfl,fun j c u hc hu=>by cases j<;>simp[PV.cells,Value.cells] at hc hu;subst hc hu;exact⟨rfl,.uv⟩⟩
 |iface t p v hv=>exact⟨rfl,fun j c u hc hu=>by cases j<;>simp[PV.cells,Value.cells] at hc hu;subst hc hu;exact⟨rfl,.iface t p v hv⟩⟩
 |fn f=>exact⟨rfl,fun j c u hc hu=>by cases j<;>simp[PV.cells,Value.cells] at hc hu;subst hc hu;exact⟨rfl,.fn f⟩⟩
 |nil a c=>exact⟨rfl,fun j c u hc hu=>by cases j<;>simp[PV.cells,Value.cells] at hc hu;subst hc hu;exact⟨rfl,.nil _ _⟩⟩
 |list xs b o c s f hc hb hs ho h=>exact⟨rfl,fun j c u hc hu=>by cases j<;>simp[PV.cells,Value.cells] at hc hu;subst hc hu;exact⟨rfl,.list xs b o _ s f (by assumption) hb hs ho h⟩⟩
def PV.sJ:PV→Bool
 |.bg _=>true
 |_=>false
def xj(cs:List PV)(off size:Nat)(agg:Bool):Option PV :=
 bif agg then (bif Nat.ble (off+size) cs.length then some (.agg ((cs.drop off).take size)) else none) else cs[off]?
theorem Eu{P:Program}{t:TypeId}(w:World){I:Nat→Prop}{cs:List PV}{us:Array Value}{off:Nat}{p:PV}(hi:(P.info? t).isSome=true)(hu:(P.underlying t).isSome=true)
  (h:bO I w cs us.toList) (hp:xj cs off (P.cellsOf t) (xY P t)=some p):∃v,(part t us off).run P w = .ok v w∧Rd I w p v:=by
 obtain⟨i,hi⟩:=abP.1 hi;obtain⟨u,hu⟩:=abP.1 hu;have hs:(sizeOf t).run P w = .ok (P.cellsOf t) w:=by simp[sizeOf,typeInfo,hi,Program.cellsOf]
 have ha:xY P t=ve u:=by simp[xY,hu]
 unfold xj at hp;rw[ha] at hp;cases hg:ve u with
 |true =>
  simp only[hg,cond_true] at hp;cases hb:Nat.ble (off+P.cellsOf t) cs.length with
  |false=>simp[hb] at hp
  |true =>simp[hb] at hp;subst hp;exact⟨_,by simp[part,qY w hu,hg,hs],(h.MA off (P.cellsOf t)).agg⟩
 |false =>
  simp only[hg,cond_false] at hp;have hl:=h.1;have hj:off<us.size:=by have:=(abL.1 hp).1;simpa[hl] using this
  have hx:us[off]? = some us[off]:=acn hj;exact⟨us[off],by simp[part,qY w hu,hg,hx],(h.2 off p us[off] hp (by simp[hj])).2⟩
def Ga(op:BinOp)(k:IntKind)(a b:Int):Option PV :=
 match op with
 |.add=>some (.int k (k.wrap (a+b)))
 |.sub=>some (.int k (k.wrap (a-b)))
 |.mul=>some (.int k (k.wrap (a*b)))
 |.quo=>bif decide (b=0) then none else some (.int k (k.wrap (a.tdiv b)))
 |.rem=>bif decide (b=0) then none else some (.int k (a.tmod b))
 |.and=>some (.int k (k.wrap (BitVec.ofInt k.bits a &&& BitVec.ofInt k.bits b).toNat))
 |.or=>some (.int k (k.wrap (BitVec.ofInt k.bits a ||| BitVec.ofInt k.bits b).toNat))
 |.xor=>some (.int k (k.wrap (BitVec.ofInt k.bits a ^^^ BitVec.ofInt k.bits b).toNat))
 |.eql=>some (.bool (a==b))
 |.neq=>some (.bool (a != b))
 |.lss=>some (.bool (decide (a<b)))
 |.leq=>some (.bool (decide (a≤b)))
 |.gtr=>some (.bool (decide (a>b)))
 |.geq=>some (.bool (decide (a≥b)))
 |_=>none
def HK(op:BinOp)(k:IntKind)(a b:Int):Option PV :=
 match op with
 |.shl=>bif decide (b<0) then none else some (.int k (k.wrap (a*2^(min b.toNat k.bits))))
 |.shr=>bif decide (b<0) then none else some (.int k (a.fdiv (2^(min b.toNat k.bits))))
 |_=>none
def JL:BinOp→Bool
 |.shl=>true
 |.shr=>true
 |_=>false
def zK(op:BinOp)(b:Bool):Option PV :=
 match op with
 |.eql=>some (.bool b)
 |.neq=>some (.bool (!b))
 |_=>none
def strLt(a b:ByteArray):Bool:=Op.bytesLess a.toList b.toList
def Dk(op:BinOp)(a b:ByteArray):Option PV :=
 match op with
 |.add=>bif decide (a.size+b.size<9223372036854775808) then some (.str (a++b)) else none
 |.eql=>some (.bool (decide (a=b)))
 |.neq=>some (.bool (!decide (a=b)))
 |.lss=>some (.bool (strLt a b))
 |.leq=>some (.bool (strLt a b||decide (a=b)))
 |.gtr=>some (.bool (!(strLt a b||decide (a=b))))
 |.geq=>some (.bool (!strLt a b))
 |_=>none
def kindOk:TK→PV→Bool
 |.int k,.int k' _=>decide (k=k')
 |.bool,.bool _=>true
 |.str,.str _=>true
 |_,_=>false
def kC:List TK→List PV→Bool
 |[],[]=>true
 |k::ks,c::cs=>kindOk k c&&kC ks cs
 |_,_=>false
def fC:List PV→List PV→Option Bool
 |[],[]=>some true
 |.str a::r,.str b::r'=>(fC r r').map (decide (a=b)&&·)
 |.int k a::r,.int k' b::r'=>bif decide (k=k') then (fC r r').map (decide (a=b)&&·) else none
 |.bool a::r,.bool b::r'=>(fC r r').map ((a==b)&&·)
 |_,_=>none
def cu(c:Bool)(op:BinOp)(p q:PV):Option PV :=
 match p,q with
 |.int k a,.int k' b=>bif JL op then HK op k a b else bif decide (k=k') then Ga op k a b else none
 |.ar,.ar=>bif c then zK op true else none
 |.ar,.iface _ _=>zK op false
 |.iface _ _,.ar=>zK op false
 |.bool a,.bool b=>zK op (a==b)
 |.str a,.str b=>Dk op a b
 |.agg cs,.agg ds=>match fC cs ds with
  |some b=>zK op b
  |none=>none
 |_,_=>none
def JM:Operand→Bool
 |.const _=>true
 |_=>false
theorem yL{P:Program}(w:World){op:BinOp}{t:TypeId}{x y:Operand}(h:(JM x||JM y)=true):(eqGuard op t x y .nilIface .nilIface).run P w = .ok () w:=by unfold eqGuard;cases op<;>simp<;>(cases x<;>cases y<;>first|(simp [JM] at h;done)|simp)
theorem yM{P:Program}(w:World){op:BinOp}{t:TypeId}{x y:Operand}{k:IntKind}{n:Int}{b:Value} : (eqGuard op t x y (.int k n) b).run P w = .ok () w:=by unfold eqGuard;cases op<;>simp
theorem xk{P:Program}(w:World){op:BinOp}{t:TypeId}{x y:Operand}{k:Bool}{b:Value} : (eqGuard op t x y (.bool k) b).run P w = .ok () w:=by unfold eqGuard;cases op<;>simp
theorem yN{P:Program}(w:World){op:BinOp}{t:TypeId}{x y:Operand}{u:TypeId}{v b:Value} : (eqGuard op t x y (.iface u v) b).run P w = .ok () w:=by unfold eqGuard;cases op<;>simp
theorem yO{P:Program}(w:World){op:BinOp}{t:TypeId}{x y:Operand}{u:TypeId}{v:Value} : (eqGuard op t x y .nilIface (.iface u v)).run P w = .ok () w:=by unfold eqGuard;cases op<;>simp
theorem yP{P:Program}(w:World){op:BinOp}{t:TypeId}{x y:Operand}{k:ByteArray}{b:Value} : (eqGuard op t x y (.string k) b).run P w = .ok () w:=by unfold eqGuard;cases op<;>simp
theorem zL(a b:ByteArray):(a.toList==b.toList)=decide (a=b):=by
 rw[Bool.eq_iff_iff,ad6,decide_eq_true_iff,ByteArray.toList_eq,ByteArray.toList_eq];constructor
 ·intro h;cases a;cases b;simpa using h
 ·rintro rfl;rfl
theorem MB {P : Program} (w : World) {I : Nat → Prop} {op : BinOp} {t : TypeId} {a b : ByteArray} {r : PV} (hs : Dk op a b = some r) :
    ∃ v, (binOp op t (.string a) (.string b)).run P w = .ok v w ∧ Rd I w r v := by
  cases op
  case add =>
    simp only [Dk] at hs;by_cases h : a.size + b.size < 9223372036854775808
    · simp only [h, decide_true, cond_true, Option.some.injEq] at hs;subst hs;have hm : ¬ (((a.size + b.size : Nat) : Int) > IntKind.i64.max) := by
        have : IntKind.i64.max = 9223372036854775807 := by decide
        omega
      exact ⟨_, by simp only [binOp, Op.stringOp, hm, if_false]; rfl, .str _⟩
    · simp [h] at hs
  all_goals
    simp only [Dk] at hs
    first
      | (cases hs; done)
      | (injection hs with hs; subst hs
         exact ⟨_, by simp only [binOp, Op.stringOp, zL]; rfl, .bool _⟩)
theorem MC {P : Program} (w : World) {I : Nat → Prop} {op : BinOp} {t : TypeId} {k k' : IntKind} {m n : Int} {r : PV}
    (hs : (bif JL op then HK op k m n else bif decide (k = k') then Ga op k m n else none) = some r) :
    ∃ v, (binOp op t (.int k m) (.int k' n)).run P w = .ok v w ∧ Rd I w r v := by
  cases op
  case shl =>
    simp only [JL, cond_true, HK] at hs;by_cases hn : n < 0
    · simp [hn] at hs
    · simp only [hn, decide_false, cond_false, Option.some.injEq] at hs;subst hs;exact ⟨_, by simp only [binOp, Op.shift, hn, if_false]; rfl, .int _ _⟩
  case shr =>
    simp only [JL, cond_true, HK] at hs;by_cases hn : n < 0
    · simp [hn] at hs
    · simp only [hn, decide_false, cond_false, Option.some.injEq] at hs;subst hs;exact ⟨_, by simp only [binOp, Op.shift, hn, if_false]; rfl, .int _ _⟩
  all_goals
    simp only [JL, cond_false] at hs;by_cases hk : k = k'
    case neg => simp [hk] at hs
    subst hk;simp only [decide_true, cond_true, Ga] at hs
    first
      | (cases hs; done)
      | (injection hs with hs; subst hs
         first
          | exact ⟨_, by simp only [binOp, ne_eq, not_true_eq_false, if_false, Op.intArith]; rfl, .int _ _⟩
          | exact ⟨_, by simp only [binOp, ne_eq, not_true_eq_false, if_false]; rfl, .int _ _⟩
          | exact ⟨_, by simp only [binOp, ne_eq, not_true_eq_false, if_false, Op.intCmp]; rfl, .bool _⟩)
      | (by_cases hn : n = 0
         · simp [hn] at hs
         · simp only [hn, decide_false, cond_false, Option.some.injEq] at hs;subst hs;exact ⟨_, by simp only [binOp, ne_eq, not_true_eq_false, if_false, Op.intDiv, hn]; rfl, .int _ _⟩)
theorem run_equal_bool{P:Program}(w:World){t:TypeId}(ht:P.underlying t=some .bool)(a b:Bool):(Op.equal t (.bool a) (.bool b)).run P w = .ok (a==b) w:=by show(Op.equalIn (9999+1) t _ _).run P w=_;rw[Op.equalIn];simp[run_underlying ht]
theorem qZ{P:Program}(w:World){t:TypeId}{ms:Array (String×TypeId)}(ht:P.underlying t=some (.interface ms)) :
  (Op.equal t .nilIface .nilIface).run P w = .ok true w∧(∀u v,(Op.equal t .nilIface (.iface u v)).run P w = .ok false w)∧∀u v,(Op.equal t (.iface u v) .nilIface).run P w = .ok false w:=by
 refine⟨?_,fun u v => ?_,fun u v => ?_⟩ <;>
 ·show(Op.equalIn (9999+1) t _ _).run P w=_;rw[Op.equalIn];simp[run_underlying ht]
theorem oE{op:BinOp}{b:Bool}{r:PV}(h:zK op b=some r):(op = .eql∧r = .bool b)∨(op = .neq∧r = .bool (!b)):=by
 unfold zK at h;split at h
 ·injection h with h;exact .inl ⟨rfl,h.symm⟩
 ·injection h with h;exact .inr ⟨rfl,h.symm⟩
 ·cases h
def O4(P:Program)(t:TypeId)(p:PV):Prop :=
 match p with
 |.bool _=>P.underlying t=some .bool
 |.ar=>∃ms,P.underlying t=some (.interface ms)
 |.iface _ _=>∃ms,P.underlying t=some (.interface ms)
 |.agg cs=>∃ks,vR P t ks=true∧kC ks cs=true
 |_=>True
theorem Cm{P:Program}(w:World){q:TK}{t:TypeId}(ht:Dj P q t=true){us:Array Value}{k:Nat}{u:Value}(hu:us[k]? = some u):(part t us k).run P w = .ok u w:=by
 have hd:∃d,P.underlying t=some d∧ve d=false:=by unfold Dj at ht;split at ht<;>first|exact⟨_,by assumption,rfl⟩|cases ht
 obtain⟨d,h1,h2⟩:=hd;have hi:(isAgg t).run P w = .ok false w:=by unfold isAgg;rw[abU,run_underlying h1,abN];cases d<;>first|rfl|cases h2
 unfold part;rw[abU,hi,abN];simp[hu]
theorem vS{P:Program}(w:World){I:Nat→Prop}{us vs:Array Value}(n:Nat):∀(fs:List Field) (k:Nat) (ks:List TK) (cs ds:List PV) (b:Bool),qg P k ks fs=true→kC ks cs=true→fC cs ds=some b →
  (∀(j:Nat) c u,cs[j]? = some c→us[k+j]? = some u→Rd I w c u)→(∀(j:Nat) c u,ds[j]? = some c→vs[k+j]? = some u→Rd I w c u)→k+fs.length=us.size→k+fs.length=vs.size→(Op.eqFields (n+1) us vs fs).run P w = .ok b w
 |[],k,ks,cs,ds,b,hf,hk,he,_,_,_,_=>by
  cases ks with
  |cons q r=>simp[qg] at hf
  |nil =>
   cases cs with
   |cons c r=>simp[kC] at hk
   |nil =>
    cases ds with
    |nil=>injection he with he;subst he;rfl
    |cons d r=>simp[fC] at he
 |f::fs,k,[],cs,ds,b,hf,_,_,_,_,_,_=>by simp[qg] at hf
 |f::fs,k,q::ks,[],ds,b,hf,hk,_,_,_,_,_=>by simp[kC] at hk
 |f::fs,k,q::ks,c::cs,[],b,hf,hk,he,_,_,_,_=>by cases c<;>simp[fC] at he
 |f::fs,k,q::ks,c::cs,d::ds,b,hf,hk,he,hc,hd,hu,hv=>by
  simp only[qg,Bool.and_eq_true,decide_eq_true_eq] at hf;obtain⟨⟨f1,f2⟩,f3,f4⟩:=hf;have f2:=abO f2;simp only[kC,Bool.and_eq_true] at hk;obtain⟨k1,k2⟩:=hk;simp only[List.length_cons] at hu hv;have ku:us[k]? = some us[k]:=acn (by omega);have kv:vs[k]? = some vs[k]:=acn (by omega);have rc:=hc 0 c _ rfl ku;have rd:=hd 0 d _ rfl kv;generalize us[k]=u at ku rc;generalize vs[k]=v at kv rd;have key:∀(x b':Bool),fC cs ds=some b'→(Op.equalIn (n+1) f.type u v).run P w = .ok x w→b=(x&&b')→(Op.eqFields (n+1) us vs (f::fs)).run P w = .ok b w:=by
   intro x b' h1 h2 h3;have ih:=vS w n fs (k+1) ks cs ds b' f4 k2 h1 (fun j c u hj Dl=>hc (j+1) c u (by simpa using hj) (by rw[show k+(j+1)=k+1+j from by omega];exact Dl)) (fun j c u hj Dl=>hd (j+1) c u (by simpa using hj) (by rw[show k+(j+1)=k+1+j from by omega];exact Dl)) (by omega) (by omega);unfold Op.eqFields;rw[ac7 f1,f2,abU,Cm w f3 ku,abN,abU,Cm w f3 kv,abN,abU,h2,abN,h3];cases x with
   |true=>simpa using ih
   |false=>simp
  unfold Dj at f3;split at f3
  ·rename_i Ob;cases c<;>first|(simp [kindOk] at k1;done)|skip
   cases d<;>first|(simp [fC] at he;done)|skip
   obtain⟨b',h1,h2⟩:=acP.1 (show (fC cs ds).map _=some b from he);cases rc;cases rd;exact key _ b' h1 (by rw[Op.equalIn];simp[run_underlying Ob]) h2.symm
  ·rename_i Ob;cases c<;>first|(simp [kindOk] at k1;done)|skip
   cases d<;>first|(simp [fC] at he;done)|skip
   obtain⟨b',h1,h2⟩:=acP.1 (show (fC cs ds).map _=some b from he);cases rc;cases rd;refine key _ b' h1 (by rw[Op.equalIn];simp[run_underlying Ob];rfl) ?_;rw[←h2]
   congr 1
   rw[Bool.eq_iff_iff];simp[beq_toListBytes,zL]
  ·rename_i k' k0 Ob;have f3:k0=k':=by simpa using f3
   subst f3;cases c<;>first|(simp [kindOk] at k1;done)|skip
   cases d<;>first|(simp [fC] at he;done)|skip
   rename_i ka na kb nb;have Ri:(bif decide (ka=kb) then (fC cs ds).map (decide (na=nb)&&·) else none)=some b:=he;cases BY:decide (ka=kb) with
   |false=>rw[BY] at Ri;cases Ri
   |true =>
    rw[BY,abQ] at Ri;have BY:=adM BY;have k1:=adM (show decide (k0=ka)=true from k1);subst BY;subst k1;obtain⟨b',h1,h2⟩:=acP.1 Ri;cases rc;cases rd;refine key _ b' h1 (by rw[Op.equalIn];simp[run_underlying Ob];rfl) ?_;rw[←h2]
    congr 1
  ·cases f3
theorem BZ{P:Program}(w:World){I:Nat→Prop}{t:TypeId}{cs ds:List PV}{us vs:Array Value}{ks:List TK}{b:Bool}(hf:vR P t ks=true)(hk:kC ks cs=true)(he:fC cs ds=some b)
  (hp:Rd I w (.agg cs) (.agg us)) (hq:Rd I w (.agg ds) (.agg vs)):(Op.equal t (.agg us) (.agg vs)).run P w = .ok b w∧P.eqGuardType P.depth t=false:=by
 unfold vR at hf;rw[abK,abK,acz,acz] at hf;obtain⟨h1,h2,h3⟩:=hf;refine⟨?_,h1⟩;split at h3
 ·rename_i fs Rj;have Ug:P.fieldsOf t=fs:=by unfold Program.fieldsOf;rw[Rj]
  show(Op.equalIn (9999+1) t _ _).run P w=_;rw[run_equalIn_struct w 9999 t us vs (by rw[Ug];exact Rj) h2,Ug];cases hp with
  |agg _ _ IC ho1 zM =>
   cases hq with
   |agg _ _ Rk ho2 FX =>
    have hlen:∀(k:Nat) (ks:List TK) (l:List Field) (cs:List PV),qg P k ks l=true→kC ks cs=true→cs.length=l.length:=by
     intro k ks
     induction ks generalizing k with
     |nil =>
      intro l cs h1 h2;cases l with
      |cons _ _=>simp[qg] at h1
      |nil=>cases cs with
       |nil=>rfl
       |cons _ _=>simp[kC] at h2
     |cons q r ih =>
      intro l cs h1 h2;cases l with
      |nil=>simp[qg] at h1
      |cons f fs =>
       cases cs with
       |nil=>simp[kC] at h2
       |cons c cs =>simp only[qg,kC,Bool.and_eq_true] at h1 h2;simp[ih (k+1) fs cs h1.2.2 h2.2]
    have U7:∀(cs ds:List PV) (b:Bool),fC cs ds=some b→cs.length=ds.length:=by
     intro cs
     induction cs with
     |nil=>intro ds b h;cases ds with
      |nil=>rfl
      |cons _ _=>simp[fC] at h
     |cons c r ih =>
      intro ds b h;cases ds with
      |nil=>cases c<;>simp[fC] at h
      |cons d ds =>
       cases c<;>cases d<;>first|(simp [fC] at h;done)|skip
       case int.int ka na kb nb =>
        have h2:(bif decide (ka=kb) then (fC r ds).map (decide (na=nb)&&·) else none)=some b:=h;cases BY:decide (ka=kb) with
        |false=>rw[BY] at h2;cases h2
        |true =>rw[BY,abQ] at h2;obtain⟨b',h1,_⟩:=acP.1 h2;simp[ih ds b' h1]
       all_goals
        obtain⟨b',h1,_⟩:=acP.1 (show (fC r ds).map _=some b from h);simp[ih ds b' h1]
    have e1:=hlen 0 ks fs.toList cs h3 hk;have e2:=U7 cs ds b he;exact vS w 9998 fs.toList 0 ks cs ds b h3 hk he (fun j c u hj hu=>zM j c u hj (by simpa using hu)) (fun j c u hj hu=>FX j c u hj (by simpa using hu)) (by omega) (by omega)
 ·cases h3
theorem Cn{P:Program}(w:World){I:Nat→Prop}{op:BinOp}{t:TypeId}{x y:Operand}{p q r:PV}{a b:Value}(hp:Rd I w p a)(hq:Rd I w q b)
  (hs:cu (JM x||JM y) op p q=some r) (ht:O4 P t p) :
  ∃v,(do eqGuard op t x y a b;binOp op t a b:Sem Value).run P w = .ok v w∧Rd I w r v:=by
 unfold cu at hs;split at hs
 ·cases hp;cases hq;obtain⟨v,h1,h2⟩:=MC (P:=P) (t:=t) w hs;exact⟨v,by rw[abU,yM,abN,h1],h2⟩
 ·cases hp;cases hq;obtain⟨ms,O5⟩:=ht;cases hc:(JM x||JM y) with
  |false=>rw[hc] at hs;cases hs
  |true =>
   rw[hc,abQ] at hs;rcases oE hs with ⟨rfl,rfl⟩|⟨rfl,rfl⟩ <;>
    exact⟨_,by rw[abU,yL w hc,abN];simp only[binOp,Sem.run_bind,(qZ w O5).1,Result.andThen_ok];rfl,.bool _⟩
 ·cases hp;cases hq;obtain⟨ms,O5⟩:=ht;rcases oE hs with ⟨rfl,rfl⟩|⟨rfl,rfl⟩ <;>
   exact⟨_,by rw[abU,yO,abN];simp only[binOp,Sem.run_bind,(qZ w O5).2.1,Result.andThen_ok];rfl,.bool _⟩
 ·cases hp;cases hq;obtain⟨ms,O5⟩:=ht;rcases oE hs with ⟨rfl,rfl⟩|⟨rfl,rfl⟩ <;>
   exact⟨_,by rw[abU,yN,abN];simp only[binOp,Sem.run_bind,(qZ w O5).2.2,Result.andThen_ok];rfl,.bool _⟩
 ·cases hp;cases hq;have O5:P.underlying t=some .bool:=ht;rcases oE hs with ⟨rfl,rfl⟩|⟨rfl,rfl⟩ <;>
   exact⟨_,by rw[abU,xk,abN];simp only[binOp,Sem.run_bind,run_equal_bool w O5,Result.andThen_ok];rfl,.bool _⟩
 ·cases hp;cases hq;obtain⟨v,h1,h2⟩:=MB (P:=P) (t:=t) w hs;exact⟨v,by rw[abU,yP,abN,h1],h2⟩
 ·rename_i cs ds;split at hs
  ·rename_i b hb;obtain⟨ks,k1,k2⟩:=ht;cases hp with
   |agg _ us IC ho1 zM =>
    cases hq with
    |agg _ vs Rk ho2 FX =>
     obtain⟨e1,e2⟩:=BZ (P:=P) w k1 k2 hb (.agg cs us IC ho1 zM) (.agg ds vs Rk ho2 FX);rcases oE hs with ⟨rfl,rfl⟩|⟨rfl,rfl⟩ <;>
      exact⟨_,by rw[abU,run_eqGuard_agg w _ t x y us vs e2,abN];simp only[binOp,Sem.run_bind,e1,Result.andThen_ok];rfl,.bool _⟩
  ·cases hs
 ·cases hs
def Co:UnOp→PV→Option PV
 |.not,.bool b=>some (.bool (!b))
 |.neg,.int k n=>some (.int k (k.wrap (0-n)))
 |_,_=>none
theorem Ev{P:Program}(w:World){I:Nat→Prop}{op:UnOp}{p r:PV}{a:Value}(hp:Rd I w p a)(hs:Co op p=some r) :
  ∃v,(Op.unary op a).run P w = .ok v w∧Rd I w r v:=by
 unfold Co at hs;split at hs
 ·cases hp;injection hs with hs;subst hs;exact⟨_,rfl,.bool _⟩
 ·cases hp;injection hs with hs;subst hs;exact⟨_,rfl,.int _ _⟩
 ·cases hs
end Go.Proofs.YtneklnlpgfeplaaGreat.Sym
