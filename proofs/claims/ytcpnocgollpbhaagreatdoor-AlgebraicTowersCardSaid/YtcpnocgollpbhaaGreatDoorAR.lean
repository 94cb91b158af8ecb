/- tower numbers: Minimal and Number agree with the reference -/
import Derived.Test.YtcpnocgollpbhaaGreatDoorRows
import Derived.Test.YtcpnocgollpbhaaGreatDoorCards
import Derived.Test.YtcpnocgollpbhaaGreatDoorTie
import Derived.Deep.DeepHandedRow
import Derived.SevenTiedAt
import Derived.LaidLaws
import Derived.Test.YtcpnocgollpbhaaGreatDoorG0
import Derived.Test.YtcpnocgollpbhaaGreatDoorG6
import Derived.JoinedCond
namespace Go.Proofs.YtcpnocgollpbhaaGreatDoor.Sym
open Go Go.RowKit Go.ChangeShapes Go.WideShapes Go.ChangeAt
set_option linter.unusedVariables false
namespace RowAlgebraicTowers
theorem own:ownKnob Tryz.prog.godebug=none:=by kernel_rfl
theorem laid:laidOutB bu=true:=by kernel_rfl
theorem Ug{P:Program}{W:World}{base:Nat}{ps:Array TypeId}{args:Array Value}(Hj:∀(j:Nat) t v,ps[j]? = some t→args[j]? = some v→Value.okWide P W .any base t v)(j:Nat){t:TypeId}{v:Value}(h1:ps[j]? = some t)(h2:args[j]? = some v):Value.okWide P W .any base t v:=Hj j t v h1 h2
set_option maxRecDepth 100000 in
theorem Rc(H:Type)(enc:TypeId×Value→H)(W:World)(base:Nat)(args:Array Value)(ds gs:List (DataW H))(before:List MemPlace)
  (Hj:∀(j:Nat) t v,Tryz.f3.params[j]? = some t→args[j]? = some v→Value.okWide Tryz.prog W .any base t v)
  (hW:DataW.Whole enc Tryz.prog Tryz.f3.params.toList Rows.algebraicTowersSpec.vars false W args.toList ds gs before)
  (hz:(DataW.weightsEach Tryz.prog (Tryz.f3.params.toList++Rows.algebraicTowersSpec.plain.varTypes Tryz.prog) (ds++gs)).all (·≤reachBytes)=true) :
  Calls Tryz.prog 3 args W fun e W'=>∃v,e = .returned v∧Rows.algebraicTowersSpec.post enc Tryz.prog Tryz.f3 false true false false W args v W':=by
 have hW':=hW;obtain⟨p,q,hA,hV,rfl,hfz,BL⟩:=hW;have hp:Tryz.f3.params = #[24,26]:=by kernel_rfl
 rw[hp] at hA Hj hz;obtain⟨v0,vs0,d0,ds0,p0,q0,kO,rfl,rfl,h0,r0⟩:=trodAll_cons hA;obtain⟨v1,vs1,d1,ds1,p1,q1,rfl,rfl,rfl,h1,r1⟩:=trodAll_cons r0;obtain⟨rfl,rfl,rfl⟩:=trodAll_nil r1;obtain rfl:args = #[v0,v1]:=by cases args;simp_all
 obtain⟨rfl,rfl⟩:=trodVars_none hV;obtain⟨n0,VE⟩:=h0;have Rl:∀k∈d0.weights bu 24,k≤reachBytes:=by intro k hk;have:=agb.1 hz k (DataW.weights_mem_each (j:=0) rfl rfl k hk);simpa using this
 obtain⟨x0,O3,b0⟩:=GR enc W 0 (fun _=>true) true n0 _ _ VE Rl;obtain⟨fs0,RH,_⟩:=Ab (show DD (bu.underlying 24)=some [(22,0)] by kernel_rfl);have Se:Value.okWide Tryz.prog W .any base 24 v0:=Ug Hj 0 (by simp) (by simp);have abC:Rd (Old W) W x0.pv v0:=ND (P:=Tryz.prog) (cs:=x0.cells) RH Se O3;obtain⟨n1,Xg⟩:=h1;have LI:∀k∈d1.weights bu 26,k≤reachBytes:=by intro k hk;have:=agb.1 hz k (DataW.weights_mem_each (j:=1) rfl rfl k hk);simpa using this
 obtain⟨x1,hx1,b1⟩:=Fw enc W 0 (fun _=>true) true n1 _ _ Xg LI;obtain⟨ra1,rl1,rc1,rfl⟩:=okWide_slice (show Tryz.prog.underlying 26=some (.slice 36) by kernel_rfl) (Ug Hj 1 (t:=26) (v:=v1) (by simp) (by simp));have abD:Rd (Old W) W (ae x1) (.slice ra1 rl1 rc1):=(hx1.2 0 _ _ rfl rfl).2;have hc:=JW.BH x0 x1 b0 b1;refine(hc.2 (Old W) W (fun _=>none) #[v0,.slice ra1 rl1 rc1] (fun b hb=>hb) (vk _ _ _) rfl ?_ ue.Zo).mono ?_
 ·intro j e v he hv;cases j with
  |zero=>simp at he hv;subst he hv;exact abC
  |succ j =>
   cases j with
   |zero=>simp at he hv;subst he hv;exact abD
   |succ j=>simp at he
 ·intro e W' ⟨v,β',he,_,hk,_,hv,_⟩;subst he;have hv:Rd _ W' (vB true) v:=hv;cases hv;have Nc:l6 (fun _=>False) W W':=⟨hk.os,hk.tape,hk.output,hk.size,fun k h1 _=>hk.block k h1 (fun ⟨y,hy,_⟩=>absurd hy qK),hk.shape,hk.drawn⟩;refine⟨_,rfl,NG (tb:=4) hW' Nc rfl (by kernel_rfl) (by kernel_rfl) rfl rfl rfl laid ?_⟩;rw[hp];intro t ht;have:t=24∨t=26:=by simpa using ht
  rcases this with rfl|rfl
  all_goals exact⟨by kernel_rfl,ahm (by kernel_rfl)⟩
def Re:DataW Unit→Array Value
 |.agg l=>(l.map fun d=>match d with
  |.lit (.int k n)=>Value.int k n
  |_=>Value.nilIface).toArray
 |_ => #[]
def Lr(b:Nat)(d:DataW Unit)(h:Array Obj):Array Obj:=h.modify b fun
 |.cells _ t fr => .cells (Re d) t fr
 |o=>o
noncomputable def AF(os:Os):World :=
 { World.holding Tryz.prog os ⟨#[],#[],[]⟩ with heap:=Lr 0 Rows.laid_internal_strconv_uint64pow10 (Lr 2 Rows.laid_math_bits_deBruijn32tab (Lr 3 Rows.laid_math_bits_deBruijn64tab (World.holding Tryz.prog os ⟨#[],#[],[]⟩).heap)) }
theorem Rf(os:Os):laidMet Tryz.prog Rows.algebraicTowersRow.laid ((AF os).forCall (fun _ _=>0) ⟨#[],#[.agg #[.slice none 0 0],.slice none 0 0],[]⟩).memory :=
 laidMet_of_run' 8 (by kernel_rfl) (by kernel_rfl)
theorem reads(os:Os){H:Type}(enc:TypeId×Value→H):(DataW.whole enc Tryz.prog ((AF os).forCall (fun _ _=>0) ⟨#[],#[.agg #[.slice none 0 0],.slice none 0 0],[]⟩).memory Tryz.f3.params.toList Rows.algebraicTowersSpec.vars false (#[.agg #[.slice none 0 0],.slice none 0 0]:Array Value).toList 8).isSome=true:=by kernel_rfl
set_option maxRecDepth 100000 in
theorem lifted(os:Os)(started:os.Started)(H:Type)(enc:TypeId×Value→H)(F:Stop.Interp) :
  ReturnsInHanded {} Tryz.checked os 3 .any ((OpenSpec.ofChange Rows.algebraicTowersSpec).preRow enc Tryz.prog Tryz.f3 Rows.algebraicTowersRow.domain false Rows.algebraicTowersRow.laid) (((OpenSpec.ofChange Rows.algebraicTowersSpec).at F).post enc Tryz.prog Tryz.f3 false true false false):=by
 obtain⟨x,hx⟩:=afS.1 (reads os enc);refine returnsInHanded_of_row (C:=Tryz.checked) (s:=OpenSpec.ofChange Rows.algebraicTowersSpec) own started (by kernel_rfl) Tryz.func3
  (witness_row_at (enc:=enc) (C:=Tryz.checked) false (AF os) #[.agg #[.slice none 0 0],.slice none 0 0] rfl (by kernel_rfl) (by kernel_rfl) (by kernel_rfl)
   (OpenSpec.preRow_of_cond 8 hx (by kernel_rfl) (fun k hk=>by cases hk) (by kernel_rfl) (Rf os))) ?_
 intro W base args ds gs before Hj hW _ _ hz hL _ _;exact Rc H enc W base args ds gs before Hj hW hz
theorem j1:(Rows.algebraicTowersRow.inPlace==Tryz.prog.inPlace 3)=true:=by kernel_rfl
theorem j2:(Rows.algebraicTowersRow.unfollowed==Tryz.prog.unfollowed 3)=true:=by kernel_rfl
theorem j3:(Rows.algebraicTowersRow.recurses==Tryz.prog.recurses 3)=true:=by kernel_rfl
theorem j4:(Rows.algebraicTowersRow.named==Tryz.prog.varsNamed 3)=true:=by kernel_rfl
theorem closed:joinedFacts Tryz.prog 3 Tryz.f3 Rows.algebraicTowersSpec Rows.algebraicTowersRow=true:=by unfold joinedFacts;rw[j1,j2,j3,j4];kernel_rfl
set_option maxRecDepth 100000 in
theorem said:Rows.AlgebraicTowersSaid :=
 OpenClaim.holds_of_cond 3 Tryz.f3 rfl rfl rfl rfl rfl rfl rfl ⟨rfl,rfl,rfl,rfl,rfl⟩ rfl rfl rfl rfl rfl (by kernel_rfl) Tryz.func3 closed
  (ahm (by kernel_rfl)) (by unfold Func.isWrapper;first|(rw [afI (by decide +kernel)];kernel_rfl)|(rw [afG (by decide +kernel)];exact⟨rfl,rfl⟩))
  (fun os started H enc _ F=>by rw[OpenClaim.pre_eq_preRow];exact lifted os started H enc F)
theorem Wv(f:FuncId)(fn:Func)(hf:Tryz.pinned.checked.prog.funcNamed Rows.algebraicTowersRow.func=some f)(hfn:Tryz.pinned.checked.prog.funcs[f]? = some fn) :
  true=Tryz.pinned.checked.prog.looks []∧∀(j:Nat) t,fn.params[j]? = some t→Tryz.pinned.checked.prog.wantsStandIn t=false:=by
 obtain rfl:f=3:=Option.some.inj ((show Tryz.prog.funcNamed Rows.algebraicTowersRow.func=some 3 by kernel_rfl).symm.trans hf) |>.symm
 obtain rfl:fn=Tryz.f3:=(Option.some.inj (Tryz.func3.symm.trans hfn)).symm;refine⟨by kernel_rfl,fun j t ht => ?_⟩;have hp:Tryz.f3.params = #[24,26]:=by kernel_rfl
 rw[hp] at ht;have:t=24∨t=26:=by simpa using Array.mem_of_getElem? ht
 rcases this with rfl|rfl
 all_goals exact(show Tryz.prog.wantsStandIn _=false by kernel_rfl)
theorem proved:Rows.AlgebraicTowersCardSaid :=
 Claim7.holds_tied_plain_at .later [] _ _ _ _ said (fun _ h=>by cases h) (by kernel_rfl) (fun _ h=>by cases h) algebraicTowers_row_tie rfl ⟨rfl,rfl⟩ (by kernel_rfl) rfl Wv (by kernel_rfl)
end RowAlgebraicTowers
end Go.Proofs.YtcpnocgollpbhaaGreatDoor.Sym
