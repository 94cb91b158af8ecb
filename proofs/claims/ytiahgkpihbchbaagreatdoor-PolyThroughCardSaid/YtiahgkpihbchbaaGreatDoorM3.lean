/- The statement PolyThrough is proved, its tables tied: the polynomial through points is what is specified, and passes through them; no condition. -/
import Derived.Test.YtiahgkpihbchbaaGreatDoorRows
import Derived.Test.YtiahgkpihbchbaaGreatDoorCards
import Derived.Test.YtiahgkpihbchbaaGreatDoorTie
import Derived.Deep.DeepHandedRow
import Derived.SevenTiedAt
import Derived.LaidLaws
import Derived.Test.YtiahgkpihbchbaaGreatDoorM0
import Derived.Test.YtiahgkpihbchbaaGreatDoorM2
import Derived.JoinedCond
namespace Go.Proofs.YtiahgkpihbchbaaGreatDoor.Sym
open Go Go.RowKit Go.ChangeShapes Go.WideShapes Go.ChangeAt
set_option linter.unusedVariables false
namespace RowPolyThrough
theorem own:ownKnob Tryz.prog.godebug=none:=by kernel_rfl
theorem laid:laidOutB prg=true:=by kernel_rfl
theorem okArg{P:Program}{W:World}{base:Nat}{ps:Array TypeId}{args:Array Value}(hval:∀(j:Nat) t v,ps[j]? = some t→args[j]? = some v→Value.okWide P W .any base t v)(j:Nat){t:TypeId}{v:Value}(h1:ps[j]? = some t)(h2:args[j]? = some v):Value.okWide P W .any base t v:=hval j t v h1 h2
set_option maxRecDepth 100000 in
theorem contract(H:Type)(enc:TypeId×Value→H)(W:World)(base:Nat)(args:Array Value)(ds gs:List (DataW H))(before:List MemPlace)
  (hval:∀(j:Nat) t v,Tryz.f3.params[j]? = some t→args[j]? = some v→Value.okWide Tryz.prog W .any base t v)
  (hW:DataW.Whole enc Tryz.prog Tryz.f3.params.toList Rows.polyThroughSpec.vars false W args.toList ds gs before)
  (hz:(DataW.weightsEach Tryz.prog (Tryz.f3.params.toList++Rows.polyThroughSpec.plain.varTypes Tryz.prog) (ds++gs)).all (·≤reachBytes)=true) :
  Calls Tryz.prog 3 args W fun e W'=>∃v,e = .returned v∧Rows.polyThroughSpec.post enc Tryz.prog Tryz.f3 false true false false W args v W':=by
 have hW':=hW
 obtain⟨p,q,hA,hV,rfl,hfz,hnd⟩:=hW
 have hp:Tryz.f3.params = #[22,22]:=by kernel_rfl
 rw[hp] at hA hval hz
 obtain⟨v0,vs0,d0,ds0,p0,q0,hargs,rfl,rfl,h0,r0⟩:=trodAll_cons hA
 obtain⟨v1,vs1,d1,ds1,p1,q1,rfl,rfl,rfl,h1,r1⟩:=trodAll_cons r0
 obtain⟨rfl,rfl,rfl⟩:=trodAll_nil r1
 obtain rfl:args = #[v0,v1]:=by cases args;simp_all
 obtain⟨rfl,rfl⟩:=trodVars_none hV
 obtain⟨n0,hn0⟩:=h0
 have hw0:∀k∈d0.weights prg 22,k≤reachBytes:=by
  intro k hk
  have:=List.all_eq_true.1 hz k (DataW.weights_mem_each (j:=0) rfl rfl k hk)
  simpa using this
 obtain⟨x0,hx0,b0⟩:=opens_rats enc W 0 (fun _=>true) true n0 _ _ hn0 hw0
 obtain⟨ra0,rl0,rc0,rfl⟩:=okWide_slice (show Tryz.prog.underlying 22=some (.slice 36) by kernel_rfl) (okArg hval 0 (t:=22) (v:=v0) (by simp) (by simp))
 have hrd0:Rd (Old W) W (polyPV x0) (.slice ra0 rl0 rc0):=(hx0.2 0 _ _ rfl rfl).2
 obtain⟨n1,hn1⟩:=h1
 have hw1:∀k∈d1.weights prg 22,k≤reachBytes:=by
  intro k hk
  have:=List.all_eq_true.1 hz k (DataW.weights_mem_each (j:=1) rfl rfl k hk)
  simpa using this
 obtain⟨x1,hx1,b1⟩:=opens_rats enc W 0 (fun _=>true) true n1 _ _ hn1 hw1
 obtain⟨ra1,rl1,rc1,rfl⟩:=okWide_slice (show Tryz.prog.underlying 22=some (.slice 36) by kernel_rfl) (okArg hval 1 (t:=22) (v:=v1) (by simp) (by simp))
 have hrd1:Rd (Old W) W (polyPV x1) (.slice ra1 rl1 rc1):=(hx1.2 0 _ _ rfl rfl).2
 have hc:=C05.PolyThrough x0 x1 b0 b1
 refine(hc.2 (Old W) W (fun _=>none) #[.slice ra0 rl0 rc0,.slice ra1 rl1 rc1] (fun b hb=>hb) ⟨(fun r sc h=>by cases h),(fun r r' b h=>by obtain⟨_,h⟩:=h)⟩ rfl ?_).mono ?_
 ·intro j e v he hv
  cases j with
  |zero=>simp at he hv;subst he hv;exact hrd0
  |succ j =>
   cases j with
   |zero=>simp at he hv;subst he hv;exact hrd1
   |succ j=>simp at he
 ·intro e W' ⟨v,β',he,_,hk,_,hv,_⟩
  subst he
  have hv:Rd _ W' (vB true) v:=hv
  cases hv
  have hk':Keeps (fun _=>False) W W':=⟨hk.os,hk.tape,hk.output,hk.size,fun k h1 _=>hk.block k h1 (fun ⟨y,hy,_⟩=>by obtain⟨_,hy⟩:=hy),hk.shape⟩
  refine⟨_,rfl,post_true (tb:=4) hW' hk' rfl (by kernel_rfl) (by kernel_rfl) rfl rfl rfl laid ?_⟩
  rw[hp]
  intro t ht
  have:t=22∨t=22:=by simpa using ht
  rcases this with rfl|rfl
  all_goals exact⟨by kernel_rfl,of_decide_eq_true (by kernel_rfl)⟩
def tabCells:DataW Unit→Array Value
 |.agg l=>(l.map fun d=>match d with
  |.lit (.int k n)=>Value.int k n
  |_=>Value.nilIface).toArray
 |_ => #[]
def setTab(b:Nat)(d:DataW Unit)(h:Array Obj):Array Obj:=h.modify b fun
 |.cells _ t fr => .cells (tabCells d) t fr
 |o=>o
noncomputable def laidWorld(os:Os):World :=
 { World.holding Tryz.prog os ⟨#[],#[],[]⟩ with heap:=setTab 0 Rows.laid_internal_strconv_uint64pow10 (setTab 2 Rows.laid_math_bits_deBruijn32tab (setTab 3 Rows.laid_math_bits_deBruijn64tab (World.holding Tryz.prog os ⟨#[],#[],[]⟩).heap)) }
theorem laid_met(os:Os):laidMet Tryz.prog Rows.polyThroughRow.laid ((laidWorld os).forCall (fun _ _=>0) ⟨#[],#[.slice none 0 0,.slice none 0 0],[]⟩).memory :=
 laidMet_of_run' 8 (by kernel_rfl) (by kernel_rfl)
theorem reads(os:Os){H:Type}(enc:TypeId×Value→H):(DataW.whole enc Tryz.prog ((laidWorld os).forCall (fun _ _=>0) ⟨#[],#[.slice none 0 0,.slice none 0 0],[]⟩).memory Tryz.f3.params.toList Rows.polyThroughSpec.vars false (#[.slice none 0 0,.slice none 0 0]:Array Value).toList 8).isSome=true:=by kernel_rfl
set_option maxRecDepth 100000 in
theorem lifted(os:Os)(started:os.Started)(H:Type)(enc:TypeId×Value→H)(F:Stop.Interp) :
  ReturnsInHanded {} Tryz.checked os 3 .any ((OpenSpec.ofChange Rows.polyThroughSpec).preRow enc Tryz.prog Tryz.f3 Rows.polyThroughRow.domain false Rows.polyThroughRow.laid) (((OpenSpec.ofChange Rows.polyThroughSpec).at F).post enc Tryz.prog Tryz.f3 false true false false):=by
 obtain⟨x,hx⟩:=Option.isSome_iff_exists.1 (reads os enc)
 refine returnsInHanded_of_row (C:=Tryz.checked) (s:=OpenSpec.ofChange Rows.polyThroughSpec) own started (by kernel_rfl) Tryz.func3
  (witness_row_at (enc:=enc) (C:=Tryz.checked) false (laidWorld os) #[.slice none 0 0,.slice none 0 0] rfl (by kernel_rfl) (by kernel_rfl) (by kernel_rfl)
   (OpenSpec.preRow_of_cond 8 hx (by kernel_rfl) (fun k hk=>by cases hk) (by kernel_rfl) (laid_met os))) ?_
 intro W base args ds gs before hval hW _ _ hz hL _ _
 exact contract H enc W base args ds gs before hval hW hz
theorem j1:(Rows.polyThroughRow.inPlace==Tryz.prog.inPlace 3)=true:=by kernel_rfl
theorem j2:(Rows.polyThroughRow.unfollowed==Tryz.prog.unfollowed 3)=true:=by kernel_rfl
theorem j3:(Rows.polyThroughRow.recurses==Tryz.prog.recurses 3)=true:=by kernel_rfl
theorem j4:(Rows.polyThroughRow.named==Tryz.prog.varsNamed 3)=true:=by kernel_rfl
theorem closed:joinedFacts Tryz.prog 3 Tryz.f3 Rows.polyThroughSpec Rows.polyThroughRow=true:=by
 unfold joinedFacts
 rw[j1,j2,j3,j4]
 kernel_rfl
set_option maxRecDepth 100000 in
theorem said:Rows.PolyThroughSaid :=
 OpenClaim.holds_of_cond 3 Tryz.f3 rfl rfl rfl rfl rfl rfl rfl ⟨rfl,rfl,rfl,rfl,rfl⟩ rfl rfl rfl rfl rfl (by kernel_rfl) Tryz.func3 closed
  (of_decide_eq_true (by kernel_rfl)) (by unfold Func.isWrapper;first|(rw [if_pos (by decide +kernel)];kernel_rfl)|(rw [if_neg (by decide +kernel)];exact⟨rfl,rfl⟩))
  (fun os started H enc _ F=>by rw[OpenClaim.pre_eq_preRow];exact lifted os started H enc F)
theorem plainL(f:FuncId)(fn:Func)(hf:Tryz.pinned.checked.prog.funcNamed Rows.polyThroughRow.func=some f)(hfn:Tryz.pinned.checked.prog.funcs[f]? = some fn) :
  true=Tryz.pinned.checked.prog.looks []∧∀(j:Nat) t,fn.params[j]? = some t→Tryz.pinned.checked.prog.wantsStandIn t=false:=by
 obtain rfl:f=3:=Option.some.inj ((show Tryz.prog.funcNamed Rows.polyThroughRow.func=some 3 by kernel_rfl).symm.trans hf) |>.symm
 obtain rfl:fn=Tryz.f3:=(Option.some.inj (Tryz.func3.symm.trans hfn)).symm
 refine⟨by kernel_rfl,fun j t ht => ?_⟩
 have hp:Tryz.f3.params = #[22,22]:=by kernel_rfl
 rw[hp] at ht
 have:t=22∨t=22:=by simpa using Array.mem_of_getElem? ht
 rcases this with rfl|rfl
 all_goals exact(show Tryz.prog.wantsStandIn _=false by kernel_rfl)
theorem proved:Rows.PolyThroughCardSaid :=
 Claim7.holds_tied_plain_at .later [] _ _ _ _ said (fun _ h=>by cases h) (by kernel_rfl) (fun _ h=>by cases h) polyThrough_row_tie rfl ⟨rfl,rfl⟩ (by kernel_rfl) rfl plainL (by kernel_rfl)
end RowPolyThrough
end Go.Proofs.YtiahgkpihbchbaaGreatDoor.Sym
