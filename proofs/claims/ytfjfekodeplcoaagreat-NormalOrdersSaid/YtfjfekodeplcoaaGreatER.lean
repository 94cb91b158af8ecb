/- The statement NormalOrders holds: a linkage with its bodies, joints and drivers in another order is the same; no condition. -/
import Derived.Test.YtfjfekodeplcoaaGreatRows
import Derived.Test.YtfjfekodeplcoaaGreatG6
import Derived.Test.YtfjfekodeplcoaaGreatE0
import Derived.JoinedCond
namespace Go.Proofs.YtfjfekodeplcoaaGreat.Sym
open Go Go.RowKit Go.ChangeShapes Go.WideShapes Go.ChangeAt
set_option linter.unusedVariables false
namespace RowNormalOrders
theorem own:ownKnob Tryz.prog.godebug=none:=by kernel_rfl
theorem laid:laidOutB a7=true:=by kernel_rfl
theorem ow{P:Program}{W:World}{base:Nat}{ps:Array TypeId}{args:Array Value}(gS:∀(j:Nat) t v,ps[j]? = some t→args[j]? = some v→Value.okWide P W .any base t v)(j:Nat){t:TypeId}{v:Value}(h1:ps[j]? = some t)(h2:args[j]? = some v):Value.okWide P W .any base t v:=gS j t v h1 h2
set_option maxRecDepth 100000 in
theorem lL(H:Type)(enc:TypeId×Value→H)(W:World)(base:Nat)(args:Array Value)(ds gs:List (DataW H))(before:List MemPlace)
  (gS:∀(j:Nat) t v,Tryz.f8.params[j]? = some t→args[j]? = some v→Value.okWide Tryz.prog W .any base t v)
  (hW:DataW.Whole enc Tryz.prog Tryz.f8.params.toList Rows.normalOrdersSpec.vars false W args.toList ds gs before)
  (hz:(DataW.weightsEach Tryz.prog (Tryz.f8.params.toList++Rows.normalOrdersSpec.plain.varTypes Tryz.prog) (ds++gs)).all (·≤reachBytes)=true) :
  Calls Tryz.prog 8 args W fun e W'=>∃v,e = .returned v∧Rows.normalOrdersSpec.post enc Tryz.prog Tryz.f8 false true false false W args v W':=by
 have KN:=hW
 obtain⟨p,q,hA,hV,rfl,PN,sN⟩:=hW
 have hp:Tryz.f8.params = #[26,5]:=by kernel_rfl
 rw[hp] at hA gS hz
 obtain⟨v0,PO,d0,PQ,p0,q0,gT,rfl,rfl,h0,r0⟩:=trodAll_cons hA
 obtain⟨v1,R3,d1,R4,p1,q1,rfl,rfl,rfl,h1,r1⟩:=trodAll_cons r0
 obtain⟨rfl,rfl,rfl⟩:=trodAll_nil r1
 obtain rfl:args = #[v0,v1]:=by cases args;simp_all
 obtain⟨rfl,rfl⟩:=trodVars_none hV
 obtain⟨n0,Gg⟩:=h0
 have DX:∀k∈d0.weights a7 26,k≤reachBytes:=by
  intro k hk
  have:=List.all_eq_true.1 hz k (DataW.weights_mem_each (j:=0) rfl rfl k hk)
  simpa using this
 obtain⟨x0,AR,b0⟩:=gM enc W 0 (fun _=>true) true n0 _ _ Gg DX
 obtain⟨PR,DO,_⟩:=gg (show lI (a7.underlying 26)=some [(9,0),(22,1),(23,2),(24,3)] by kernel_rfl)
 have Ib:Value.okWide Tryz.prog W .any base 26 v0:=ow gS 0 (by simp) (by simp)
 have BT:Rd (Old W) W x0.pv v0:=nM (P:=Tryz.prog) (cs:=x0.cells) DO Ib AR
 obtain⟨n1,Dx⟩:=h1
 have Dw:∀k∈d1.weights a7 5,k≤reachBytes:=by
  intro k hk
  have:=List.all_eq_true.1 hz k (DataW.weights_mem_each (j:=1) rfl rfl k hk)
  simpa using this
 obtain⟨x1,Ni,b1⟩:=(pY (k := .u8) (show a7.underlying 5=some (.int .u8) by kernel_rfl)) enc W 0 (fun _=>true) true n1 _ _ Dx Dw
 obtain⟨m1,rfl,_,_,_⟩:=open_int (show Tryz.prog.underlying 5=some (.int .u8) by kernel_rfl) (ow gS 1 (t:=5) (v:=v1) (by simp) (by simp)) (⟨n1,Dx⟩:DataW.Trod enc Tryz.prog W 0 (fun _=>true) true 5 v1 d1 p1)
 have EN:Rd (Old W) W (.int .u8 x1) (.int .u8 m1):=by
  have:=(Ni.2 0 _ _ rfl rfl).2
  exact this
 have hc:=Ls.BU x0 x1 b0 (Ii b1)
 refine(hc.2 (Old W) W (fun _=>none) #[v0,.int .u8 m1] (fun b hb=>hb) (iw _ _ _) rfl ?_).mono ?_
 ·intro j e v he hv
  cases j with
  |zero=>simp at he hv;subst he hv;exact BT
  |succ j =>
   cases j with
   |zero=>simp at he hv;subst he hv;exact EN
   |succ j=>simp at he
 ·intro e W' ⟨v,β',he,_,hk,_,hv,_⟩
  subst he
  have hv:Rd _ W' (vB true) v:=hv
  cases hv
  have wZ:gD (fun _=>False) W W':=⟨hk.os,hk.tape,hk.output,hk.size,fun k h1 _=>hk.block k h1 (fun ⟨y,hy,_⟩=>absurd hy fY),hk.shape,hk.drawn⟩
  refine⟨_,rfl,pZ (tb:=4) KN wZ rfl (by kernel_rfl) (by kernel_rfl) rfl rfl rfl laid ?_⟩
  rw[hp]
  intro t ht
  have:t=26∨t=5:=by simpa using ht
  rcases this with rfl|rfl
  all_goals exact⟨by kernel_rfl,of_decide_eq_true (by kernel_rfl)⟩
set_option maxRecDepth 100000 in
theorem lifted(os:Os)(started:os.Started)(H:Type)(enc:TypeId×Value→H) :
  ReturnsInHanded {} Tryz.checked os 8 .any (Rows.normalOrdersSpec.pre6 enc Tryz.prog Tryz.f8 Rows.normalOrdersRow.domain false) (Rows.normalOrdersSpec.post enc Tryz.prog Tryz.f8 false true false false):=by
 refine returnsInHanded_of_change_sized (C:=Tryz.checked) own started (by kernel_rfl) Tryz.func8
  (ChangeSpec.witness6 (enc:=enc) (C:=Tryz.checked) false ⟨#[],#[.agg #[.string ⟨#[]⟩,.slice none 0 0,.slice none 0 0,.slice none 0 0],.int .u8 0],[]⟩ 8 (by kernel_rfl) (by kernel_rfl) (by kernel_rfl) (by kernel_rfl)) ?_
 intro W base args ds gs before gS hW _ hz _
 exact lL H enc W base args ds gs before gS hW hz
theorem j1:(Rows.normalOrdersRow.inPlace==Tryz.prog.inPlace 8)=true:=by kernel_rfl
theorem j2:(Rows.normalOrdersRow.unfollowed==Tryz.prog.unfollowed 8)=true:=by kernel_rfl
theorem j3:(Rows.normalOrdersRow.recurses==Tryz.prog.recurses 8)=true:=by kernel_rfl
theorem j4:(Rows.normalOrdersRow.named==Tryz.prog.varsNamed 8)=true:=by kernel_rfl
theorem closed:joinedFacts Tryz.prog 8 Tryz.f8 Rows.normalOrdersSpec Rows.normalOrdersRow=true:=by
 unfold joinedFacts
 rw[j1,j2,j3,j4]
 kernel_rfl
theorem proved:Rows.NormalOrdersSaid :=
 OpenClaim.holds_of_wide 8 Tryz.f8 rfl rfl rfl rfl rfl rfl rfl ⟨rfl,rfl,rfl,rfl,rfl⟩ rfl rfl rfl rfl rfl (by kernel_rfl) Tryz.func8 closed
  (of_decide_eq_true (by kernel_rfl)) (by unfold Func.isWrapper;first|(rw [if_pos (by decide +kernel)];kernel_rfl)|(rw [if_neg (by decide +kernel)];exact⟨rfl,rfl⟩))
  (fun os started H enc _=>lifted os started H enc)
end RowNormalOrders
end Go.Proofs.YtfjfekodeplcoaaGreat.Sym
