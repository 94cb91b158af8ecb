/- Comparisons and signs at algebraic numbers are those of the reference: AlgebraicCompares returns true for every input, with the tables of numerals of the Go library as the row lists them. -/
import Derived.Test.YtllmkadmohkbfaaGreatDoorCards
import Derived.Test.YtllmkadmohkbfaaGreatDoorTie
import Derived.Deep.DeepHandedRow
import Derived.SevenTiedAt
import Derived.LaidLaws
import Derived.Test.YtllmkadmohkbfaaGreatDoorC1
import Derived.JoinedCond
namespace Go.Proofs.YtllmkadmohkbfaaGreatDoor.Sym
open Go Go.RowKit Go.ChangeShapes Go.WideShapes Go.ChangeAt
set_option linter.unusedVariables false
namespace RowAlgebraicCompares
theorem own:ownKnob Tryz.prog.godebug=none:=by kernel_rfl
theorem laid:laidOutB bT=true:=by kernel_rfl
theorem vY{P:Program}{W:World}{base:Nat}{ps:Array TypeId}{args:Array Value}(mI:∀(j:Nat) t v,ps[j]? = some t→args[j]? = some v→Value.okWide P W .any base t v)(j:Nat){t:TypeId}{v:Value}(h1:ps[j]? = some t)(h2:args[j]? = some v):Value.okWide P W .any base t v:=mI j t v h1 h2
set_option maxRecDepth 100000 in
theorem vZ(H:Type)(enc:TypeId×Value→H)(W:World)(base:Nat)(args:Array Value)(ds gs:List (DataW H))(before:List MemPlace)
  (mI:∀(j:Nat) t v,Tryz.f9.params[j]? = some t→args[j]? = some v→Value.okWide Tryz.prog W .any base t v)
  (hW:DataW.Whole enc Tryz.prog Tryz.f9.params.toList Rows.algebraicComparesSpec.vars false W args.toList ds gs before)
  (hz:(DataW.weightsEach Tryz.prog (Tryz.f9.params.toList++Rows.algebraicComparesSpec.plain.varTypes Tryz.prog) (ds++gs)).all (·≤reachBytes)=true) :
  Calls Tryz.prog 9 args W fun e W'=>∃v,e = .returned v∧Rows.algebraicComparesSpec.post enc Tryz.prog Tryz.f9 false true false false W args v W':=by
 have VW:=hW
 obtain⟨p,q,hA,hV,rfl,hfz,DY⟩:=hW
 have hp:Tryz.f9.params = #[30,30,23]:=by kernel_rfl
 rw[hp] at hA mI hz
 obtain⟨v0,vs0,d0,ds0,p0,q0,oc,rfl,rfl,h0,r0⟩:=trodAll_cons hA
 obtain⟨v1,vs1,d1,ds1,p1,q1,rfl,rfl,rfl,h1,r1⟩:=trodAll_cons r0
 obtain⟨v2,vs2,d2,ds2,p2,q2,rfl,rfl,rfl,h2,r2⟩:=trodAll_cons r1
 obtain⟨rfl,rfl,rfl⟩:=trodAll_nil r2
 obtain rfl:args = #[v0,v1,v2]:=by cases args;simp_all
 obtain⟨rfl,rfl⟩:=trodVars_none hV
 obtain⟨n0,Tm⟩:=h0
 have yf:∀k∈d0.weights bT 30,k≤reachBytes:=by
  intro k hk
  have:=List.all_eq_true.1 hz k (DataW.weights_mem_each (j:=0) rfl rfl k hk)
  simpa using this
 obtain⟨x0,N4,b0⟩:=tg enc W 0 (fun _=>true) true n0 _ _ Tm yf
 obtain⟨fs0,O3,_⟩:=oz (show ux (bT.underlying 30)=some [(23,0),(28,1)] by kernel_rfl)
 have Vr:Value.okWide Tryz.prog W .any base 30 v0:=vY mI 0 (by simp) (by simp)
 have NI:Rd (Old W) W x0.pv v0:=tf (P:=Tryz.prog) (cs:=x0.cells) O3 Vr N4
 obtain⟨n1,QE⟩:=h1
 have FM:∀k∈d1.weights bT 30,k≤reachBytes:=by
  intro k hk
  have:=List.all_eq_true.1 hz k (DataW.weights_mem_each (j:=1) rfl rfl k hk)
  simpa using this
 obtain⟨x1,IC,b1⟩:=tg enc W 0 (fun _=>true) true n1 _ _ QE FM
 obtain⟨fs1,hu1,_⟩:=oz (show ux (bT.underlying 30)=some [(23,0),(28,1)] by kernel_rfl)
 have B0:Value.okWide Tryz.prog W .any base 30 v1:=vY mI 1 (by simp) (by simp)
 have NJ:Rd (Old W) W x1.pv v1:=tf (P:=Tryz.prog) (cs:=x1.cells) hu1 B0 IC
 obtain⟨n2,Fw⟩:=h2
 have Cx:∀k∈d2.weights bT 23,k≤reachBytes:=by
  intro k hk
  have:=List.all_eq_true.1 hz k (DataW.weights_mem_each (j:=2) rfl rfl k hk)
  simpa using this
 obtain⟨x2,Fu,b2⟩:=vA enc W 0 (fun _=>true) true n2 _ _ Fw Cx
 obtain⟨ra2,rl2,rc2,rfl⟩:=okWide_slice (show Tryz.prog.underlying 23=some (.slice 26) by kernel_rfl) (vY mI 2 (t:=23) (v:=v2) (by simp) (by simp))
 have NK:Rd (Old W) W (ae x2) (.slice ra2 rl2 rc2):=(Fu.2 0 _ _ rfl rfl).2
 have hc := zI.DE x0 x1 x2   b2
 refine(hc.2 (Old W) W (fun _=>none) #[v0,v1,.slice ra2 rl2 rc2] (fun b hb=>hb) (sW _ _ _) rfl ?_).mono ?_
 ·intro j e v he hv
  cases j with
  |zero=>simp at he hv;subst he hv;exact NI
  |succ j =>
   cases j with
   |zero=>simp at he hv;subst he hv;exact NJ
   |succ j =>
    cases j with
    |zero=>simp at he hv;subst he hv;exact NK
    |succ j=>simp at he
 ·intro e W' ⟨v,β',he,_,hk,_,hv,_⟩
  subst he
  have hv:Rd _ W' (vB true) v:=hv
  cases hv
  have JB:o8 (fun _=>False) W W':=⟨hk.os,hk.tape,hk.output,hk.size,fun k h1 _=>hk.block k h1 (fun ⟨y,hy,_⟩=>absurd hy tE),hk.shape,hk.drawn⟩
  refine⟨_,rfl,AT (tb:=4) VW JB rfl (by kernel_rfl) (by kernel_rfl) rfl rfl rfl laid ?_⟩
  rw[hp]
  intro t ht
  have:t=30∨t=30∨t=23:=by simpa using ht
  rcases this with rfl|rfl|rfl
  all_goals exact⟨by kernel_rfl,of_decide_eq_true (by kernel_rfl)⟩
def v7:DataW Unit→Array Value
 |.agg l=>(l.map fun d=>match d with
  |.lit (.int k n)=>Value.int k n
  |_=>Value.nilIface).toArray
 |_ => #[]
def rr(b:Nat)(d:DataW Unit)(h:Array Obj):Array Obj:=h.modify b fun
 |.cells _ t fr => .cells (v7 d) t fr
 |o=>o
noncomputable def kv(os:Os):World:=
 { World.holding Tryz.prog os ⟨#[],#[],[]⟩ with heap:=rr 0 Rows.laid_internal_strconv_uint64pow10 (rr 2 Rows.laid_math_bits_deBruijn32tab (rr 3 Rows.laid_math_bits_deBruijn64tab (World.holding Tryz.prog os ⟨#[],#[],[]⟩).heap)) }
theorem v8(os:Os):laidMet Tryz.prog Rows.algebraicComparesRow.laid ((kv os).forCall (fun _ _=>0) ⟨#[],#[.agg #[.slice none 0 0,.bool false,.slice none 0 0,.slice none 0 0,.bool false,.slice none 0 0,.slice none 0 0],.agg #[.slice none 0 0,.bool false,.slice none 0 0,.slice none 0 0,.bool false,.slice none 0 0,.slice none 0 0],.slice none 0 0],[]⟩).memory:=
 laidMet_of_run' 8 (by kernel_rfl) (by kernel_rfl)
theorem reads(os:Os){H:Type}(enc:TypeId×Value→H):(DataW.whole enc Tryz.prog ((kv os).forCall (fun _ _=>0) ⟨#[],#[.agg #[.slice none 0 0,.bool false,.slice none 0 0,.slice none 0 0,.bool false,.slice none 0 0,.slice none 0 0],.agg #[.slice none 0 0,.bool false,.slice none 0 0,.slice none 0 0,.bool false,.slice none 0 0,.slice none 0 0],.slice none 0 0],[]⟩).memory Tryz.f9.params.toList Rows.algebraicComparesSpec.vars false (#[.agg #[.slice none 0 0,.bool false,.slice none 0 0,.slice none 0 0,.bool false,.slice none 0 0,.slice none 0 0],.agg #[.slice none 0 0,.bool false,.slice none 0 0,.slice none 0 0,.bool false,.slice none 0 0,.slice none 0 0],.slice none 0 0]:Array Value).toList 8).isSome=true:=by kernel_rfl
set_option maxRecDepth 100000 in
theorem lifted(os:Os)(started:os.Started)(H:Type)(enc:TypeId×Value→H)(F:Stop.Interp) :
  ReturnsInHanded {} Tryz.checked os 9 .any ((OpenSpec.ofChange Rows.algebraicComparesSpec).preRow enc Tryz.prog Tryz.f9 Rows.algebraicComparesRow.domain false Rows.algebraicComparesRow.laid) (((OpenSpec.ofChange Rows.algebraicComparesSpec).at F).post enc Tryz.prog Tryz.f9 false true false false):=by
 obtain⟨x,hx⟩:=Option.isSome_iff_exists.1 (reads os enc)
 refine returnsInHanded_of_row (C:=Tryz.checked) (s:=OpenSpec.ofChange Rows.algebraicComparesSpec) own started (by kernel_rfl) Tryz.func9
  (witness_row_at (enc:=enc) (C:=Tryz.checked) false (kv os) #[.agg #[.slice none 0 0,.bool false,.slice none 0 0,.slice none 0 0,.bool false,.slice none 0 0,.slice none 0 0],.agg #[.slice none 0 0,.bool false,.slice none 0 0,.slice none 0 0,.bool false,.slice none 0 0,.slice none 0 0],.slice none 0 0] rfl (by kernel_rfl) (by kernel_rfl) (by kernel_rfl)
   (OpenSpec.preRow_of_cond 8 hx (by kernel_rfl) (fun k hk=>by cases hk) (by kernel_rfl) (v8 os))) ?_
 intro W base args ds gs before mI hW _ _ hz hL _ _
 exact vZ H enc W base args ds gs before mI hW hz
theorem j1:(Rows.algebraicComparesRow.inPlace==Tryz.prog.inPlace 9)=true:=by kernel_rfl
theorem j2:(Rows.algebraicComparesRow.unfollowed==Tryz.prog.unfollowed 9)=true:=by kernel_rfl
theorem j3:(Rows.algebraicComparesRow.recurses==Tryz.prog.recurses 9)=true:=by kernel_rfl
theorem j4:(Rows.algebraicComparesRow.named==Tryz.prog.varsNamed 9)=true:=by kernel_rfl
theorem closed:joinedFacts Tryz.prog 9 Tryz.f9 Rows.algebraicComparesSpec Rows.algebraicComparesRow=true:=by
 unfold joinedFacts
 rw[j1,j2,j3,j4]
 kernel_rfl
set_option maxRecDepth 100000 in
theorem said:Rows.AlgebraicComparesSaid:=
 OpenClaim.holds_of_cond 9 Tryz.f9 rfl rfl rfl rfl rfl rfl rfl ⟨rfl,rfl,rfl,rfl,rfl⟩ rfl rfl rfl rfl rfl (by kernel_rfl) Tryz.func9 closed
  (of_decide_eq_true (by kernel_rfl)) (by unfold Func.isWrapper;first|(rw [if_pos (by decide +kernel)];kernel_rfl)|(rw [if_neg (by decide +kernel)];exact⟨rfl,rfl⟩))
  (fun os started H enc _ F=>by rw[OpenClaim.pre_eq_preRow];exact lifted os started H enc F)
theorem Ct(f:FuncId)(fn:Func)(hf:Tryz.pinned.checked.prog.funcNamed Rows.algebraicComparesRow.func=some f)(VX:Tryz.pinned.checked.prog.funcs[f]? = some fn) :
  true=Tryz.pinned.checked.prog.looks []∧∀(j:Nat) t,fn.params[j]? = some t→Tryz.pinned.checked.prog.wantsStandIn t=false:=by
 obtain rfl:f=9:=Option.some.inj ((show Tryz.prog.funcNamed Rows.algebraicComparesRow.func=some 9 by kernel_rfl).symm.trans hf) |>.symm
 obtain rfl:fn=Tryz.f9:=(Option.some.inj (Tryz.func9.symm.trans VX)).symm
 refine⟨by kernel_rfl,fun j t ht=>?_⟩
 have hp:Tryz.f9.params = #[30,30,23]:=by kernel_rfl
 rw[hp] at ht
 have:t=30∨t=30∨t=23:=by simpa using Array.mem_of_getElem? ht
 rcases this with rfl|rfl|rfl
 all_goals exact(show Tryz.prog.wantsStandIn _=false by kernel_rfl)
theorem proved:Rows.AlgebraicComparesCardSaid:=
 Claim7.holds_tied_plain_at .later [] _ _ _ _ said (fun _ h=>by cases h) (by kernel_rfl) (fun _ h=>by cases h) algebraicCompares_row_tie rfl ⟨rfl,rfl⟩ (by kernel_rfl) rfl Ct (by kernel_rfl)
end RowAlgebraicCompares
end Go.Proofs.YtllmkadmohkbfaaGreatDoor.Sym
