/- tower numbers: the least polynomial has the number as a root, and the numbers compare as in the tower -/
import Derived.Test.YtcpnocgollpbhaaGreatDoorRows
import Derived.Test.YtcpnocgollpbhaaGreatDoorCards
import Derived.Test.YtcpnocgollpbhaaGreatDoorTie
import Derived.Deep.DeepHandedRow
import Derived.SevenTiedAt
import Derived.LaidLaws
import Derived.Test.YtcpnocgollpbhaaGreatDoorG0
import Derived.Test.YtcpnocgollpbhaaGreatDoorG6
import Derived.JoinedCond
namespace Go.Proofs.YtcpnocgollpbhaaGreatDoor.Sym
open Go Go.RowKit Go.ChangeShapes Go.WideShapes Go.ChangeAt
set_option linter.unusedVariables false
namespace RowAlgebraicConjugates
theorem own:ownKnob Tryz.prog.godebug=none:=by kernel_rfl
theorem laid:laidOutB bp=true:=by kernel_rfl
theorem QA{P:Program}{W:World}{base:Nat}{ps:Array TypeId}{args:Array Value}(DT:∀(j:Nat) t v,ps[j]? = some t→args[j]? = some v→Value.okWide P W .any base t v)(j:Nat){t:TypeId}{v:Value}(h1:ps[j]? = some t)(h2:args[j]? = some v):Value.okWide P W .any base t v:=DT j t v h1 h2
set_option maxRecDepth 100000 in
theorem QB(H:Type)(enc:TypeId×Value→H)(W:World)(base:Nat)(args:Array Value)(ds gs:List (DataW H))(before:List MemPlace)
  (DT:∀(j:Nat) t v,Tryz.f4.params[j]? = some t→args[j]? = some v→Value.okWide Tryz.prog W .any base t v)
  (hW:DataW.Whole enc Tryz.prog Tryz.f4.params.toList Rows.algebraicConjugatesSpec.vars false W args.toList ds gs before)
  (hz:(DataW.weightsEach Tryz.prog (Tryz.f4.params.toList++Rows.algebraicConjugatesSpec.plain.varTypes Tryz.prog) (ds++gs)).all (·≤reachBytes)=true) :
  Calls Tryz.prog 4 args W fun e W'=>∃v,e = .returned v∧Rows.algebraicConjugatesSpec.post enc Tryz.prog Tryz.f4 false true false false W args v W':=by
 have hW':=hW;obtain⟨p,q,hA,hV,rfl,hfz,Ay⟩:=hW;have hp:Tryz.f4.params = #[24,26,26]:=by kernel_rfl
 rw[hp] at hA DT hz;obtain⟨v0,vs0,d0,ds0,p0,q0,ky,rfl,rfl,h0,r0⟩:=trodAll_cons hA;obtain⟨v1,vs1,d1,ds1,p1,q1,rfl,rfl,rfl,h1,r1⟩:=trodAll_cons r0;obtain⟨v2,vs2,d2,ds2,p2,q2,rfl,rfl,rfl,h2,r2⟩:=trodAll_cons r1;obtain⟨rfl,rfl,rfl⟩:=trodAll_nil r2;obtain rfl:args = #[v0,v1,v2]:=by cases args;simp_all
 obtain⟨rfl,rfl⟩:=trodVars_none hV;obtain⟨n0,Wh⟩:=h0;have QJ:∀k∈d0.weights bp 24,k≤reachBytes:=by intro k hk;have:=agy.1 hz k (DataW.weights_mem_each (j:=0) rfl rfl k hk);simpa using this
 obtain⟨x0,Ou,b0⟩:=FY enc W 0 (fun _=>true) true n0 _ _ Wh QJ;obtain⟨fs0,Q5,_⟩:=yI (show Cj (bp.underlying 24)=some [(22,0)] by kernel_rfl);have RJ:Value.okWide Tryz.prog W .any base 24 v0:=QA DT 0 (by simp) (by simp);have abx:Rd (Old W) W x0.pv v0:=MP (P:=Tryz.prog) (cs:=x0.cells) Q5 RJ Ou;obtain⟨n1,WU⟩:=h1;have KY:∀k∈d1.weights bp 26,k≤reachBytes:=by intro k hk;have:=agy.1 hz k (DataW.weights_mem_each (j:=1) rfl rfl k hk);simpa using this
 obtain⟨x1,Vr,b1⟩:=yJ enc W 0 (fun _=>true) true n1 _ _ WU KY;obtain⟨ra1,rl1,rc1,rfl⟩:=okWide_slice (show Tryz.prog.underlying 26=some (.slice 36) by kernel_rfl) (QA DT 1 (t:=26) (v:=v1) (by simp) (by simp));have aby:Rd (Old W) W (ae x1) (.slice ra1 rl1 rc1):=(Vr.2 0 _ _ rfl rfl).2;obtain⟨n2,Ej⟩:=h2;have BH:∀k∈d2.weights bp 26,k≤reachBytes:=by intro k hk;have:=agy.1 hz k (DataW.weights_mem_each (j:=2) rfl rfl k hk);simpa using this
 obtain⟨x2,Ov,b2⟩:=yJ enc W 0 (fun _=>true) true n2 _ _ Ej BH;obtain⟨ra2,rl2,rc2,rfl⟩:=okWide_slice (show Tryz.prog.underlying 26=some (.slice 36) by kernel_rfl) (QA DT 2 (t:=26) (v:=v2) (by simp) (by simp));have abz:Rd (Old W) W (ae x2) (.slice ra2 rl2 rc2):=(Ov.2 0 _ _ rfl rfl).2;have hc:=Jf.u5 x0 x1 x2 b0 b1 b2;refine(hc.2 (Old W) W (fun _=>none) #[v0,.slice ra1 rl1 rc1,.slice ra2 rl2 rc2] (fun b hb=>hb) (uo _ _ _) rfl ?_ tn.Zl).mono ?_
 ·intro j e v he hv;cases j with
  |zero=>simp at he hv;subst he hv;exact abx
  |succ j =>
   cases j with
   |zero=>simp at he hv;subst he hv;exact aby
   |succ j =>
    cases j with
    |zero=>simp at he hv;subst he hv;exact abz
    |succ j=>simp at he
 ·intro e W' ⟨v,β',he,_,hk,_,hv,_⟩;subst he;have hv:Rd _ W' (vB true) v:=hv;cases hv;have My:lJ (fun _=>False) W W':=⟨hk.os,hk.tape,hk.output,hk.size,fun k h1 _=>hk.block k h1 (fun ⟨y,hy,_⟩=>absurd hy pQ),hk.shape,hk.drawn⟩;refine⟨_,rfl,MQ (tb:=4) hW' My rfl (by kernel_rfl) (by kernel_rfl) rfl rfl rfl laid ?_⟩;rw[hp];intro t ht;have:t=24∨t=26∨t=26:=by simpa using ht
  rcases this with rfl|rfl|rfl
  all_goals exact⟨by kernel_rfl,ahI (by kernel_rfl)⟩
def QC:DataW Unit→Array Value
 |.agg l=>(l.map fun d=>match d with
  |.lit (.int k n)=>Value.int k n
  |_=>Value.nilIface).toArray
 |_ => #[]
def KK(b:Nat)(d:DataW Unit)(h:Array Obj):Array Obj:=h.modify b fun
 |.cells _ t fr => .cells (QC d) t fr
 |o=>o
noncomputable def zk(os:Os):World :=
 { World.holding Tryz.prog os ⟨#[],#[],[]⟩ with heap:=KK 0 Rows.laid_internal_strconv_uint64pow10 (KK 2 Rows.laid_math_bits_deBruijn32tab (KK 3 Rows.laid_math_bits_deBruijn64tab (World.holding Tryz.prog os ⟨#[],#[],[]⟩).heap)) }
theorem QD(os:Os):laidMet Tryz.prog Rows.algebraicConjugatesRow.laid ((zk os).forCall (fun _ _=>0) ⟨#[],#[.agg #[.slice none 0 0],.slice none 0 0,.slice none 0 0],[]⟩).memory :=
 laidMet_of_run' 8 (by kernel_rfl) (by kernel_rfl)
theorem reads(os:Os){H:Type}(enc:TypeId×Value→H):(DataW.whole enc Tryz.prog ((zk os).forCall (fun _ _=>0) ⟨#[],#[.agg #[.slice none 0 0],.slice none 0 0,.slice none 0 0],[]⟩).memory Tryz.f4.params.toList Rows.algebraicConjugatesSpec.vars false (#[.agg #[.slice none 0 0],.slice none 0 0,.slice none 0 0]:Array Value).toList 8).isSome=true:=by kernel_rfl
set_option maxRecDepth 100000 in
theorem lifted(os:Os)(started:os.Started)(H:Type)(enc:TypeId×Value→H)(F:Stop.Interp) :
  ReturnsInHanded {} Tryz.checked os 4 .any ((OpenSpec.ofChange Rows.algebraicConjugatesSpec).preRow enc Tryz.prog Tryz.f4 Rows.algebraicConjugatesRow.domain false Rows.algebraicConjugatesRow.laid) (((OpenSpec.ofChange Rows.algebraicConjugatesSpec).at F).post enc Tryz.prog Tryz.f4 false true false false):=by
 obtain⟨x,hx⟩:=agk.1 (reads os enc);refine returnsInHanded_of_row (C:=Tryz.checked) (s:=OpenSpec.ofChange Rows.algebraicConjugatesSpec) own started (by kernel_rfl) Tryz.func4
  (witness_row_at (enc:=enc) (C:=Tryz.checked) false (zk os) #[.agg #[.slice none 0 0],.slice none 0 0,.slice none 0 0] rfl (by kernel_rfl) (by kernel_rfl) (by kernel_rfl)
   (OpenSpec.preRow_of_cond 8 hx (by kernel_rfl) (fun k hk=>by cases hk) (by kernel_rfl) (QD os))) ?_
 intro W base args ds gs before DT hW _ _ hz hL _ _;exact QB H enc W base args ds gs before DT hW hz
theorem j1:(Rows.algebraicConjugatesRow.inPlace==Tryz.prog.inPlace 4)=true:=by kernel_rfl
theorem j2:(Rows.algebraicConjugatesRow.unfollowed==Tryz.prog.unfollowed 4)=true:=by kernel_rfl
theorem j3:(Rows.algebraicConjugatesRow.recurses==Tryz.prog.recurses 4)=true:=by kernel_rfl
theorem j4:(Rows.algebraicConjugatesRow.named==Tryz.prog.varsNamed 4)=true:=by kernel_rfl
theorem closed:joinedFacts Tryz.prog 4 Tryz.f4 Rows.algebraicConjugatesSpec Rows.algebraicConjugatesRow=true:=by unfold joinedFacts;rw[j1,j2,j3,j4];kernel_rfl
set_option maxRecDepth 100000 in
theorem said:Rows.AlgebraicConjugatesSaid :=
 OpenClaim.holds_of_cond 4 Tryz.f4 rfl rfl rfl rfl rfl rfl rfl ⟨rfl,rfl,rfl,rfl,rfl⟩ rfl rfl rfl rfl rfl (by kernel_rfl) Tryz.func4 closed
  (ahI (by kernel_rfl)) (by unfold Func.isWrapper;first|(rw [ag9 (by decide +kernel)];kernel_rfl)|(rw [ag7 (by decide +kernel)];exact⟨rfl,rfl⟩))
  (fun os started H enc _ F=>by rw[OpenClaim.pre_eq_preRow];exact lifted os started H enc F)
theorem V6(f:FuncId)(fn:Func)(hf:Tryz.pinned.checked.prog.funcNamed Rows.algebraicConjugatesRow.func=some f)(hfn:Tryz.pinned.checked.prog.funcs[f]? = some fn) :
  true=Tryz.pinned.checked.prog.looks []∧∀(j:Nat) t,fn.params[j]? = some t→Tryz.pinned.checked.prog.wantsStandIn t=false:=by
 obtain rfl:f=4:=ajo ((show Tryz.prog.funcNamed Rows.algebraicConjugatesRow.func=some 4 by kernel_rfl).symm.trans hf) |>.symm
 obtain rfl:fn=Tryz.f4:=(ajo (Tryz.func4.symm.trans hfn)).symm;refine⟨by kernel_rfl,fun j t ht => ?_⟩;have hp:Tryz.f4.params = #[24,26,26]:=by kernel_rfl
 rw[hp] at ht;have:t=24∨t=26∨t=26:=by simpa using Array.mem_of_getElem? ht
 rcases this with rfl|rfl|rfl
 all_goals exact(show Tryz.prog.wantsStandIn _=false by kernel_rfl)
theorem proved:Rows.AlgebraicConjugatesCardSaid :=
 Claim7.holds_tied_plain_at .later [] _ _ _ _ said (fun _ h=>by cases h) (by kernel_rfl) (fun _ h=>by cases h) algebraicConjugates_row_tie rfl ⟨rfl,rfl⟩ (by kernel_rfl) rfl V6 (by kernel_rfl)
end RowAlgebraicConjugates
end Go.Proofs.YtcpnocgollpbhaaGreatDoor.Sym
