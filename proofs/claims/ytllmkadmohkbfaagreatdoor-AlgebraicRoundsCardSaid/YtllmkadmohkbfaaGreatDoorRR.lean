/- The interval of a grid around an algebraic number and the fraction between two of them are those of the reference: the law AlgebraicRounds returns true for every input, with the tables of numerals of the Go library that the row lists as they are laid. -/
import Derived.Test.YtllmkadmohkbfaaGreatDoorRows
import Derived.Test.YtllmkadmohkbfaaGreatDoorCards
import Derived.Test.YtllmkadmohkbfaaGreatDoorTie
import Derived.Deep.DeepHandedRow
import Derived.SevenTiedAt
import Derived.LaidLaws
import Derived.Test.YtllmkadmohkbfaaGreatDoorH0
import Derived.Test.YtllmkadmohkbfaaGreatDoorH9
import Derived.JoinedCond
namespace Go.Proofs.YtllmkadmohkbfaaGreatDoor.Sym
open Go Go.RowKit Go.ChangeShapes Go.WideShapes Go.ChangeAt
set_option linter.unusedVariables false
namespace RowAlgebraicRounds
theorem own:ownKnob Tryz.prog.godebug=none:=by kernel_rfl
theorem laid:laidOutB bp=true:=by kernel_rfl
theorem NS{P:Program}{W:World}{base:Nat}{ps:Array TypeId}{args:Array Value}(CV:∀(j:Nat) t v,ps[j]? = some t→args[j]? = some v→Value.okWide P W .any base t v)(j:Nat){t:TypeId}{v:Value}(h1:ps[j]? = some t)(h2:args[j]? = some v):Value.okWide P W .any base t v:=CV j t v h1 h2
set_option maxRecDepth 100000 in
theorem NT(H:Type)(enc:TypeId×Value→H)(W:World)(base:Nat)(args:Array Value)(ds gs:List (DataW H))(before:List MemPlace)
  (CV:∀(j:Nat) t v,Tryz.f3.params[j]? = some t→args[j]? = some v→Value.okWide Tryz.prog W .any base t v)
  (hW:DataW.Whole enc Tryz.prog Tryz.f3.params.toList Rows.algebraicRoundsSpec.vars false W args.toList ds gs before)
  (hz:(DataW.weightsEach Tryz.prog (Tryz.f3.params.toList++Rows.algebraicRoundsSpec.plain.varTypes Tryz.prog) (ds++gs)).all (·≤reachBytes)=true) :
  Calls Tryz.prog 3 args W fun e W'=>∃v,e = .returned v∧Rows.algebraicRoundsSpec.post enc Tryz.prog Tryz.f3 false true false false W args v W':=by
 have hW':=hW
 obtain⟨p,q,hA,hV,rfl,hfz,zZ⟩:=hW
 have hp:Tryz.f3.params = #[30,30,3]:=by kernel_rfl
 rw[hp] at hA CV hz
 obtain⟨v0,vs0,d0,ds0,p0,q0,kg,rfl,rfl,h0,r0⟩:=trodAll_cons hA
 obtain⟨v1,vs1,d1,ds1,p1,q1,rfl,rfl,rfl,h1,r1⟩:=trodAll_cons r0
 obtain⟨v2,vs2,d2,ds2,p2,q2,rfl,rfl,rfl,h2,r2⟩:=trodAll_cons r1
 obtain⟨rfl,rfl,rfl⟩:=trodAll_nil r2
 obtain rfl:args = #[v0,v1,v2]:=by cases args;simp_all
 obtain⟨rfl,rfl⟩:=trodVars_none hV
 obtain⟨n0,Xe⟩:=h0
 have Hm:∀k∈d0.weights bp 30,k≤reachBytes:=by
  intro k hk
  have:=List.all_eq_true.1 hz k (DataW.weights_mem_each (j:=0) rfl rfl k hk)
  simpa using this
 obtain⟨x0,PT,b0⟩:=BI enc W 0 (fun _=>true) true n0 _ _ Xe Hm
 obtain⟨fs0,Ol,_⟩:=rb (show vG (bp.underlying 30)=some [(23,0),(28,1)] by kernel_rfl)
 have WS:Value.okWide Tryz.prog W .any base 30 v0:=NS CV 0 (by simp) (by simp)
 have XV:Rd (Old W) W x0.pv v0:=Ds (P:=Tryz.prog) (cs:=x0.cells) Ol WS PT
 obtain⟨n1,Tt⟩:=h1
 have Lh:∀k∈d1.weights bp 30,k≤reachBytes:=by
  intro k hk
  have:=List.all_eq_true.1 hz k (DataW.weights_mem_each (j:=1) rfl rfl k hk)
  simpa using this
 obtain⟨x1,Sa,b1⟩:=BI enc W 0 (fun _=>true) true n1 _ _ Tt Lh
 obtain⟨fs1,hu1,_⟩:=rb (show vG (bp.underlying 30)=some [(23,0),(28,1)] by kernel_rfl)
 have BM:Value.okWide Tryz.prog W .any base 30 v1:=NS CV 1 (by simp) (by simp)
 have XW:Rd (Old W) W x1.pv v1:=Ds (P:=Tryz.prog) (cs:=x1.cells) hu1 BM Sa
 obtain⟨n2,KA⟩:=h2
 have z8:∀k∈d2.weights bp 3,k≤reachBytes:=by
  intro k hk
  have:=List.all_eq_true.1 hz k (DataW.weights_mem_each (j:=2) rfl rfl k hk)
  simpa using this
 obtain⟨x2,LW,b2⟩:=(Dp (k := .i64) (show bp.underlying 3=some (.int .i64) by kernel_rfl)) enc W 0 (fun _=>true) true n2 _ _ KA z8
 obtain⟨m2,rfl,_,_,_⟩:=open_int (show Tryz.prog.underlying 3=some (.int .i64) by kernel_rfl) (NS CV 2 (t:=3) (v:=v2) (by simp) (by simp)) (⟨n2,KA⟩:DataW.Trod enc Tryz.prog W 0 (fun _=>true) true 3 v2 d2 p2)
 have XX:Rd (Old W) W (.int .i64 x2) (.int .i64 m2):=by
  have:=(LW.2 0 _ _ rfl rfl).2
  exact this
 have hc := Qu.zW x0 x1 x2   (OX b2)
 refine(hc.2 (Old W) W (fun _=>none) #[v0,v1,.int .i64 m2] (fun b hb=>hb) (tW _ _ _) rfl ?_).mono ?_
 ·intro j e v he hv
  cases j with
  |zero=>simp at he hv;subst he hv;exact XV
  |succ j =>
   cases j with
   |zero=>simp at he hv;subst he hv;exact XW
   |succ j =>
    cases j with
    |zero=>simp at he hv;subst he hv;exact XX
    |succ j=>simp at he
 ·intro e W' ⟨v,β',he,_,hk,_,hv,_⟩
  subst he
  have hv:Rd _ W' (vB true) v:=hv
  cases hv
  have Kq:ll (fun _=>False) W W':=⟨hk.os,hk.tape,hk.output,hk.size,fun k h1 _=>hk.block k h1 (fun ⟨y,hy,_⟩=>absurd hy rG),hk.shape,hk.drawn⟩
  refine⟨_,rfl,KN (tb:=4) hW' Kq rfl (by kernel_rfl) (by kernel_rfl) rfl rfl rfl laid ?_⟩
  rw[hp]
  intro t ht
  have:t=30∨t=30∨t=3:=by simpa using ht
  rcases this with rfl|rfl|rfl
  all_goals exact⟨by kernel_rfl,of_decide_eq_true (by kernel_rfl)⟩
def NU:DataW Unit→Array Value
 |.agg l=>(l.map fun d=>match d with
  |.lit (.int k n)=>Value.int k n
  |_=>Value.nilIface).toArray
 |_ => #[]
def IY(b:Nat)(d:DataW Unit)(h:Array Obj):Array Obj:=h.modify b fun
 |.cells _ t fr => .cells (NU d) t fr
 |o=>o
noncomputable def yB(os:Os):World :=
 { World.holding Tryz.prog os ⟨#[],#[],[]⟩ with heap:=IY 0 Rows.laid_internal_strconv_uint64pow10 (IY 2 Rows.laid_math_bits_deBruijn32tab (IY 3 Rows.laid_math_bits_deBruijn64tab (World.holding Tryz.prog os ⟨#[],#[],[]⟩).heap)) }
theorem NV(os:Os):laidMet Tryz.prog Rows.algebraicRoundsRow.laid ((yB os).forCall (fun _ _=>0) ⟨#[],#[.agg #[.slice none 0 0,.bool false,.slice none 0 0,.slice none 0 0,.bool false,.slice none 0 0,.slice none 0 0],.agg #[.slice none 0 0,.bool false,.slice none 0 0,.slice none 0 0,.bool false,.slice none 0 0,.slice none 0 0],.int .i64 0],[]⟩).memory :=
 laidMet_of_run' 8 (by kernel_rfl) (by kernel_rfl)
theorem reads(os:Os){H:Type}(enc:TypeId×Value→H):(DataW.whole enc Tryz.prog ((yB os).forCall (fun _ _=>0) ⟨#[],#[.agg #[.slice none 0 0,.bool false,.slice none 0 0,.slice none 0 0,.bool false,.slice none 0 0,.slice none 0 0],.agg #[.slice none 0 0,.bool false,.slice none 0 0,.slice none 0 0,.bool false,.slice none 0 0,.slice none 0 0],.int .i64 0],[]⟩).memory Tryz.f3.params.toList Rows.algebraicRoundsSpec.vars false (#[.agg #[.slice none 0 0,.bool false,.slice none 0 0,.slice none 0 0,.bool false,.slice none 0 0,.slice none 0 0],.agg #[.slice none 0 0,.bool false,.slice none 0 0,.slice none 0 0,.bool false,.slice none 0 0,.slice none 0 0],.int .i64 0]:Array Value).toList 8).isSome=true:=by kernel_rfl
set_option maxRecDepth 100000 in
theorem lifted(os:Os)(started:os.Started)(H:Type)(enc:TypeId×Value→H)(F:Stop.Interp) :
  ReturnsInHanded {} Tryz.checked os 3 .any ((OpenSpec.ofChange Rows.algebraicRoundsSpec).preRow enc Tryz.prog Tryz.f3 Rows.algebraicRoundsRow.domain false Rows.algebraicRoundsRow.laid) (((OpenSpec.ofChange Rows.algebraicRoundsSpec).at F).post enc Tryz.prog Tryz.f3 false true false false):=by
 obtain⟨x,hx⟩:=Option.isSome_iff_exists.1 (reads os enc)
 refine returnsInHanded_of_row (C:=Tryz.checked) (s:=OpenSpec.ofChange Rows.algebraicRoundsSpec) own started (by kernel_rfl) Tryz.func3
  (witness_row_at (enc:=enc) (C:=Tryz.checked) false (yB os) #[.agg #[.slice none 0 0,.bool false,.slice none 0 0,.slice none 0 0,.bool false,.slice none 0 0,.slice none 0 0],.agg #[.slice none 0 0,.bool false,.slice none 0 0,.slice none 0 0,.bool false,.slice none 0 0,.slice none 0 0],.int .i64 0] rfl (by kernel_rfl) (by kernel_rfl) (by kernel_rfl)
   (OpenSpec.preRow_of_cond 8 hx (by kernel_rfl) (fun k hk=>by cases hk) (by kernel_rfl) (NV os))) ?_
 intro W base args ds gs before CV hW _ _ hz hL _ _
 exact NT H enc W base args ds gs before CV hW hz
theorem j1:(Rows.algebraicRoundsRow.inPlace==Tryz.prog.inPlace 3)=true:=by kernel_rfl
theorem j2:(Rows.algebraicRoundsRow.unfollowed==Tryz.prog.unfollowed 3)=true:=by kernel_rfl
theorem j3:(Rows.algebraicRoundsRow.recurses==Tryz.prog.recurses 3)=true:=by kernel_rfl
theorem j4:(Rows.algebraicRoundsRow.named==Tryz.prog.varsNamed 3)=true:=by kernel_rfl
theorem closed:joinedFacts Tryz.prog 3 Tryz.f3 Rows.algebraicRoundsSpec Rows.algebraicRoundsRow=true:=by
 unfold joinedFacts
 rw[j1,j2,j3,j4]
 kernel_rfl
set_option maxRecDepth 100000 in
theorem said:Rows.AlgebraicRoundsSaid :=
 OpenClaim.holds_of_cond 3 Tryz.f3 rfl rfl rfl rfl rfl rfl rfl ⟨rfl,rfl,rfl,rfl,rfl⟩ rfl rfl rfl rfl rfl (by kernel_rfl) Tryz.func3 closed
  (of_decide_eq_true (by kernel_rfl)) (by unfold Func.isWrapper;first|(rw [if_pos (by decide +kernel)];kernel_rfl)|(rw [if_neg (by decide +kernel)];exact⟨rfl,rfl⟩))
  (fun os started H enc _ F=>by rw[OpenClaim.pre_eq_preRow];exact lifted os started H enc F)
theorem SH(f:FuncId)(fn:Func)(hf:Tryz.pinned.checked.prog.funcNamed Rows.algebraicRoundsRow.func=some f)(hfn:Tryz.pinned.checked.prog.funcs[f]? = some fn) :
  true=Tryz.pinned.checked.prog.looks []∧∀(j:Nat) t,fn.params[j]? = some t→Tryz.pinned.checked.prog.wantsStandIn t=false:=by
 obtain rfl:f=3:=Option.some.inj ((show Tryz.prog.funcNamed Rows.algebraicRoundsRow.func=some 3 by kernel_rfl).symm.trans hf) |>.symm
 obtain rfl:fn=Tryz.f3:=(Option.some.inj (Tryz.func3.symm.trans hfn)).symm
 refine⟨by kernel_rfl,fun j t ht => ?_⟩
 have hp:Tryz.f3.params = #[30,30,3]:=by kernel_rfl
 rw[hp] at ht
 have:t=30∨t=30∨t=3:=by simpa using Array.mem_of_getElem? ht
 rcases this with rfl|rfl|rfl
 all_goals exact(show Tryz.prog.wantsStandIn _=false by kernel_rfl)
theorem proved:Rows.AlgebraicRoundsCardSaid :=
 Claim7.holds_tied_plain_at .later [] _ _ _ _ said (fun _ h=>by cases h) (by kernel_rfl) (fun _ h=>by cases h) algebraicRounds_row_tie rfl ⟨rfl,rfl⟩ (by kernel_rfl) rfl SH (by kernel_rfl)
end RowAlgebraicRounds
end Go.Proofs.YtllmkadmohkbfaaGreatDoor.Sym
