/- The statement PolyChecks holds: Check, Trim, Degree and Text answer as the reference does, with the same errors; no condition. -/
import Derived.Test.YtnjhplhbmapclaaGreatDoorRows
import Derived.Test.YtnjhplhbmapclaaGreatDoorCards
import Derived.Test.YtnjhplhbmapclaaGreatDoorTie
import Derived.Deep.DeepHandedRow
import Derived.SevenTiedAt
import Derived.LaidLaws
import Derived.Lib.LaidTab
import Derived.Stop.LaidErr
import Derived.Test.YtnjhplhbmapclaaGreatDoorG0
import Derived.Test.YtnjhplhbmapclaaGreatDoorG4
import Derived.JoinedCond
namespace Go.Proofs.YtnjhplhbmapclaaGreatDoor.Sym
open Go Go.RowKit Go.ChangeShapes Go.WideShapes Go.ChangeAt
set_option linter.unusedVariables false
namespace RowPolyChecks
theorem own:ownKnob Tryz.prog.godebug=none:=by kernel_rfl
theorem laid:laidOutB bh=true:=by kernel_rfl
theorem JR{P:Program}{W:World}{base:Nat}{ps:Array TypeId}{args:Array Value}(B1:∀(j:Nat) t v,ps[j]? = some t→args[j]? = some v→Value.okWide P W .any base t v)(j:Nat){t:TypeId}{v:Value}(h1:ps[j]? = some t)(h2:args[j]? = some v):Value.okWide P W .any base t v:=B1 j t v h1 h2
theorem JS:(Rows.laid_internal_strconv_uint64pow10:DataW Unit)=Lib.tabData .u64 Lib.pow10Tab:=by kernel_rfl
theorem Ik {W : World} (h : laidMet Tryz.prog Rows.polyChecksRow.laid W) : mM [] (fun _ => none) W := by
  have h3 : laidMet Tryz.prog [("internal/strconv.uint64pow10", Rows.laid_internal_strconv_uint64pow10)] W := laidMet.tail (laidMet.tail h)
  rw [JS] at h3
  have ht := Lib.tabIs_of_head (g := 0) (t := 141) (e := 106) (n := 20) (by kernel_rfl) (by kernel_rfl) (by kernel_rfl) (by kernel_rfl) (by kernel_rfl) (by kernel_rfl) h3
  unfold Lib.TabIs World.var? at ht
  rw [show Tryz.prog.globalNamed "internal/strconv.uint64pow10" = some 0 by kernel_rfl] at ht
  simp only [Option.bind_some] at ht
  split at ht
  · rename_i cs el sh hg
    injection ht with ht
    refine ⟨⟨el, sh, ?_⟩, fun x hx => absurd hx jH⟩
    rw [hg, ht]
    simp [yY, Lib.pow10Tab, Function.comp_def]
  · cases ht
set_option maxRecDepth 100000 in
theorem Eh(H:Type)(enc:TypeId×Value→H)(W:World)(base:Nat)(args:Array Value)(ds gs:List (DataW H))(before:List MemPlace)
  (B1:∀(j:Nat) t v,Tryz.f3.params[j]? = some t→args[j]? = some v→Value.okWide Tryz.prog W .any base t v)
  (hW:DataW.Whole enc Tryz.prog Tryz.f3.params.toList Rows.polyChecksSpec.vars false W args.toList ds gs before)
  (hz:(DataW.weightsEach Tryz.prog (Tryz.f3.params.toList++Rows.polyChecksSpec.plain.varTypes Tryz.prog) (ds++gs)).all (·≤reachBytes)=true) (hy:mM [] (fun _=>none) W) :
  Calls Tryz.prog 3 args W fun e W'=>∃v,e = .returned v∧Rows.polyChecksSpec.post enc Tryz.prog Tryz.f3 false true false false W args v W':=by
 have O9:=hW
 obtain⟨p,q,hA,hV,rfl,PE,sr⟩:=hW
 have hp:Tryz.f3.params = #[23]:=by kernel_rfl
 rw[hp] at hA B1 hz
 obtain⟨v0,PF,d0,PG,p0,q0,fM,rfl,rfl,h0,r0⟩:=trodAll_cons hA
 obtain⟨rfl,rfl,rfl⟩:=trodAll_nil r0
 obtain rfl:args = #[v0]:=by cases args;simp_all
 obtain⟨rfl,rfl⟩:=trodVars_none hV
 obtain⟨n0,Ma⟩:=h0
 have GO:∀k∈d0.weights bh 23,k≤reachBytes:=by
  intro k hk
  have:=List.all_eq_true.1 hz k (DataW.weights_mem_each (j:=0) rfl rfl k hk)
  simpa using this
 obtain⟨x0,F5,b0⟩:=z6 enc W 0 (fun _=>true) true n0 _ _ Ma GO
 obtain⟨Nq,Nr,Ns,rfl⟩:=okWide_slice (show Tryz.prog.underlying 23=some (.slice 41) by kernel_rfl) (JR B1 0 (t:=23) (v:=v0) (by simp) (by simp))
 have Mo:Rd (Old W) W (ah x0) (.slice Nq Nr Ns):=(F5.2 0 _ _ rfl rfl).2
 have hc:=Ia.Aq x0 b0
 refine(hc.2 (Old W) W (fun _=>none) #[.slice Nq Nr Ns] (fun b hb=>hb) (nE _ _ _) rfl ?_ hy).mono ?_
 ·intro j e v he hv
  cases j with
  |zero=>simp at he hv;subst he hv;exact Mo
  |succ j=>simp at he
 ·intro e W' ⟨v,β',he,_,hk,_,hv,_⟩
  subst he
  have hv:Rd _ W' (vB true) v:=hv
  cases hv
  have CH:gF (fun _=>False) W W':=⟨hk.os,hk.tape,hk.output,hk.size,fun k h1 _=>hk.block k h1 (fun ⟨y,hy,_⟩=>absurd hy jH),hk.shape,hk.drawn⟩
  refine⟨_,rfl,BL (tb:=4) O9 CH rfl (by kernel_rfl) (by kernel_rfl) rfl rfl rfl laid ?_⟩
  rw[hp]
  intro t ht
  have:t=23:=by simpa using ht
  rcases this with rfl
  all_goals exact⟨by kernel_rfl,of_decide_eq_true (by kernel_rfl)⟩
def Ei:DataW Unit→Array Value
 |.agg l=>(l.map fun d=>match d with
  |.lit (.int k n)=>Value.int k n
  |_=>Value.nilIface).toArray
 |_ => #[]
def Ar(b:Nat)(d:DataW Unit)(h:Array Obj):Array Obj:=h.modify b fun
 |.cells _ t fr => .cells (Ei d) t fr
 |o=>o
noncomputable def ri(os:Os):World :=
 { World.holding Tryz.prog os ⟨#[],#[],[]⟩ with heap:=Ar 0 Rows.laid_internal_strconv_uint64pow10 (Ar 2 Rows.laid_math_bits_deBruijn32tab (Ar 3 Rows.laid_math_bits_deBruijn64tab (World.holding Tryz.prog os ⟨#[],#[],[]⟩).heap)) }
theorem Ej(os:Os):laidMet Tryz.prog Rows.polyChecksRow.laid ((ri os).forCall (fun _ _=>0) ⟨#[],#[.slice none 0 0],[]⟩).memory :=
 laidMet_of_run' 8 (by kernel_rfl) (by kernel_rfl)
theorem reads(os:Os){H:Type}(enc:TypeId×Value→H):(DataW.whole enc Tryz.prog ((ri os).forCall (fun _ _=>0) ⟨#[],#[.slice none 0 0],[]⟩).memory Tryz.f3.params.toList Rows.polyChecksSpec.vars false (#[.slice none 0 0]:Array Value).toList 8).isSome=true:=by kernel_rfl
set_option maxRecDepth 100000 in
theorem lifted(os:Os)(started:os.Started)(H:Type)(enc:TypeId×Value→H)(F:Stop.Interp) :
  ReturnsInHanded {} Tryz.checked os 3 .any ((OpenSpec.ofChange Rows.polyChecksSpec).preRow enc Tryz.prog Tryz.f3 Rows.polyChecksRow.domain false Rows.polyChecksRow.laid) (((OpenSpec.ofChange Rows.polyChecksSpec).at F).post enc Tryz.prog Tryz.f3 false true false false):=by
 obtain⟨x,hx⟩:=Option.isSome_iff_exists.1 (reads os enc)
 refine returnsInHanded_of_row (C:=Tryz.checked) (s:=OpenSpec.ofChange Rows.polyChecksSpec) own started (by kernel_rfl) Tryz.func3
  (witness_row_at (enc:=enc) (C:=Tryz.checked) false (ri os) #[.slice none 0 0] rfl (by kernel_rfl) (by kernel_rfl) (by kernel_rfl)
   (OpenSpec.preRow_of_cond 8 hx (by kernel_rfl) (fun k hk=>by cases hk) (by kernel_rfl) (Ej os))) ?_
 intro W base args ds gs before B1 hW _ _ hz hL _ _
 exact Eh H enc W base args ds gs before B1 hW hz (Ik hL)
theorem j1:(Rows.polyChecksRow.inPlace==Tryz.prog.inPlace 3)=true:=by kernel_rfl
theorem j2:(Rows.polyChecksRow.unfollowed==Tryz.prog.unfollowed 3)=true:=by kernel_rfl
theorem j3:(Rows.polyChecksRow.recurses==Tryz.prog.recurses 3)=true:=by kernel_rfl
theorem j4:(Rows.polyChecksRow.named==Tryz.prog.varsNamed 3)=true:=by kernel_rfl
theorem closed:joinedFacts Tryz.prog 3 Tryz.f3 Rows.polyChecksSpec Rows.polyChecksRow=true:=by
 unfold joinedFacts
 rw[j1,j2,j3,j4]
 kernel_rfl
set_option maxRecDepth 100000 in
theorem said:Rows.PolyChecksSaid :=
 OpenClaim.holds_of_cond 3 Tryz.f3 rfl rfl rfl rfl rfl rfl rfl ⟨rfl,rfl,rfl,rfl,rfl⟩ rfl rfl rfl rfl rfl (by kernel_rfl) Tryz.func3 closed
  (of_decide_eq_true (by kernel_rfl)) (by unfold Func.isWrapper;first|(rw [if_pos (by decide +kernel)];kernel_rfl)|(rw [if_neg (by decide +kernel)];exact⟨rfl,rfl⟩))
  (fun os started H enc _ F=>by rw[OpenClaim.pre_eq_preRow];exact lifted os started H enc F)
theorem Il(f:FuncId)(fn:Func)(hf:Tryz.pinned.checked.prog.funcNamed Rows.polyChecksRow.func=some f)(Pa:Tryz.pinned.checked.prog.funcs[f]? = some fn) :
  true=Tryz.pinned.checked.prog.looks []∧∀(j:Nat) t,fn.params[j]? = some t→Tryz.pinned.checked.prog.wantsStandIn t=false:=by
 obtain rfl:f=3:=Option.some.inj ((show Tryz.prog.funcNamed Rows.polyChecksRow.func=some 3 by kernel_rfl).symm.trans hf) |>.symm
 obtain rfl:fn=Tryz.f3:=(Option.some.inj (Tryz.func3.symm.trans Pa)).symm
 refine⟨by kernel_rfl,fun j t ht => ?_⟩
 have hp:Tryz.f3.params = #[23]:=by kernel_rfl
 rw[hp] at ht
 have:t=23:=by simpa using Array.mem_of_getElem? ht
 rcases this with rfl
 all_goals exact(show Tryz.prog.wantsStandIn _=false by kernel_rfl)
theorem proved:Rows.PolyChecksCardSaid :=
 Claim7.holds_tied_plain_at .later [] _ _ _ _ said (fun _ h=>by cases h) (by kernel_rfl) (fun _ h=>by cases h) polyChecks_row_tie rfl ⟨rfl,rfl⟩ (by kernel_rfl) rfl Il (by kernel_rfl)
end RowPolyChecks
end Go.Proofs.YtnjhplhbmapclaaGreatDoor.Sym
