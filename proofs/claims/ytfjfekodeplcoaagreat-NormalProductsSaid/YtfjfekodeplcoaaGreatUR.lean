/- The statement NormalProducts holds: scaled twice a linkage is scaled by the product, and the squares of its distances are multiplied by the square; no condition. -/
import Derived.Test.YtfjfekodeplcoaaGreatRows
import Derived.Test.YtfjfekodeplcoaaGreatG5
import Derived.Test.YtfjfekodeplcoaaGreatG6
import Derived.JoinedCond
namespace Go.Proofs.YtfjfekodeplcoaaGreat.Sym
open Go Go.RowKit Go.ChangeShapes Go.WideShapes Go.ChangeAt
set_option linter.unusedVariables false
namespace RowNormalProducts
theorem own:ownKnob Tryz.prog.godebug=none:=by kernel_rfl
theorem laid:laidOutB bp=true:=by kernel_rfl
theorem Ao{P:Program}{W:World}{base:Nat}{ps:Array TypeId}{args:Array Value}(sl:∀(j:Nat) t v,ps[j]? = some t→args[j]? = some v→Value.okWide P W .any base t v)(j:Nat){t:TypeId}{v:Value}(h1:ps[j]? = some t)(h2:args[j]? = some v):Value.okWide P W .any base t v:=sl j t v h1 h2
set_option maxRecDepth 100000 in
theorem Ap(H:Type)(enc:TypeId×Value→H)(W:World)(base:Nat)(args:Array Value)(ds gs:List (DataW H))(before:List MemPlace)
  (sl:∀(j:Nat) t v,Tryz.f4.params[j]? = some t→args[j]? = some v→Value.okWide Tryz.prog W .any base t v)
  (hW:DataW.Whole enc Tryz.prog Tryz.f4.params.toList Rows.normalProductsSpec.vars false W args.toList ds gs before)
  (hz:(DataW.weightsEach Tryz.prog (Tryz.f4.params.toList++Rows.normalProductsSpec.plain.varTypes Tryz.prog) (ds++gs)).all (·≤reachBytes)=true) :
  Calls Tryz.prog 4 args W fun e W'=>∃v,e = .returned v∧Rows.normalProductsSpec.post enc Tryz.prog Tryz.f4 false true false false W args v W':=by
 have Tu:=hW
 obtain⟨p,q,hA,hV,rfl,WY,rb⟩:=hW
 have hp:Tryz.f4.params = #[26,29,29]:=by kernel_rfl
 rw[hp] at hA sl hz
 obtain⟨v0,WZ,d0,W0,p0,q0,fZ,rfl,rfl,h0,r0⟩:=trodAll_cons hA
 obtain⟨v1,W1,d1,W2,p1,q1,rfl,rfl,rfl,h1,r1⟩:=trodAll_cons r0
 obtain⟨v2,W3,d2,W4,p2,q2,rfl,rfl,rfl,h2,r2⟩:=trodAll_cons r1
 obtain⟨rfl,rfl,rfl⟩:=trodAll_nil r2
 obtain rfl:args = #[v0,v1,v2]:=by cases args;simp_all
 obtain⟨rfl,rfl⟩:=trodVars_none hV
 obtain⟨n0,NZ⟩:=h0
 have GR:∀k∈d0.weights bp 26,k≤reachBytes:=by
  intro k hk
  have:=List.all_eq_true.1 hz k (DataW.weights_mem_each (j:=0) rfl rfl k hk)
  simpa using this
 obtain⟨x0,G1,b0⟩:=sk enc W 0 (fun _=>true) true n0 _ _ NZ GR
 obtain⟨W5,HP,_⟩:=gJ (show l5 (bp.underlying 26)=some [(9,0),(22,1),(23,2),(24,3)] by kernel_rfl)
 have PU:Value.okWide Tryz.prog W .any base 26 v0:=Ao sl 0 (by simp) (by simp)
 have Oo:Rd (Old W) W x0.pv v0:=qa (P:=Tryz.prog) (cs:=x0.cells) HP PU G1
 obtain⟨n1,Kg⟩:=h1
 have Hw:∀k∈d1.weights bp 29,k≤reachBytes:=by
  intro k hk
  have:=List.all_eq_true.1 hz k (DataW.weights_mem_each (j:=1) rfl rfl k hk)
  simpa using this
 obtain⟨x1,OF,b1⟩:=oh enc W 0 (fun _=>true) true n1 _ _ Kg Hw
 obtain⟨W6,GX,_⟩:=gJ (show l5 (bp.underlying 29)=some [(4,0),(27,1),(27,2)] by kernel_rfl)
 have vm:Value.okWide Tryz.prog W .any base 29 v1:=Ao sl 1 (by simp) (by simp)
 have Oq:Rd (Old W) W x1.pv v1:=qa (P:=Tryz.prog) (cs:=x1.cells) GX vm OF
 obtain⟨n2,Dj⟩:=h2
 have x5:∀k∈d2.weights bp 29,k≤reachBytes:=by
  intro k hk
  have:=List.all_eq_true.1 hz k (DataW.weights_mem_each (j:=2) rfl rfl k hk)
  simpa using this
 obtain⟨x2,CL,b2⟩:=oh enc W 0 (fun _=>true) true n2 _ _ Dj x5
 obtain⟨Xz,wN,_⟩:=gJ (show l5 (bp.underlying 29)=some [(4,0),(27,1),(27,2)] by kernel_rfl)
 have Jg:Value.okWide Tryz.prog W .any base 29 v2:=Ao sl 2 (by simp) (by simp)
 have Ot:Rd (Old W) W x2.pv v2:=qa (P:=Tryz.prog) (cs:=x2.cells) wN Jg CL
 have hc:=Oh.An x0 x1 x2 b0 (Gz b1) (Gz b2)
 refine(hc.2 (Old W) W (fun _=>none) #[v0,v1,v2] (fun b hb=>hb) (jF _ _ _) rfl ?_ ra.Mz).mono ?_
 ·intro j e v he hv
  cases j with
  |zero=>simp at he hv;subst he hv;exact Oo
  |succ j =>
   cases j with
   |zero=>simp at he hv;subst he hv;exact Oq
   |succ j =>
    cases j with
    |zero=>simp at he hv;subst he hv;exact Ot
    |succ j=>simp at he
 ·intro e W' ⟨v,β',he,_,hk,_,hv,_⟩
  subst he
  have hv:Rd _ W' (vB true) v:=hv
  cases hv
  have wT:gS (fun _=>False) W W':=⟨hk.os,hk.tape,hk.output,hk.size,fun k h1 _=>hk.block k h1 (fun ⟨y,hy,_⟩=>absurd hy ez),hk.shape,hk.drawn⟩
  refine⟨_,rfl,Bh (tb:=4) Tu wT rfl (by kernel_rfl) (by kernel_rfl) rfl rfl rfl laid ?_⟩
  rw[hp]
  intro t ht
  have:t=26∨t=29∨t=29:=by simpa using ht
  rcases this with rfl|rfl|rfl
  all_goals exact⟨by kernel_rfl,of_decide_eq_true (by kernel_rfl)⟩
set_option maxRecDepth 100000 in
theorem lifted(os:Os)(started:os.Started)(H:Type)(enc:TypeId×Value→H) :
  ReturnsInHanded {} Tryz.checked os 4 .any (Rows.normalProductsSpec.pre6 enc Tryz.prog Tryz.f4 Rows.normalProductsRow.domain false) (Rows.normalProductsSpec.post enc Tryz.prog Tryz.f4 false true false false):=by
 refine returnsInHanded_of_change_sized (C:=Tryz.checked) own started (by kernel_rfl) Tryz.func4
  (ChangeSpec.witness6 (enc:=enc) (C:=Tryz.checked) false ⟨#[],#[.agg #[.string ⟨#[]⟩,.slice none 0 0,.slice none 0 0,.slice none 0 0],.agg #[.bool false,.slice none 0 0,.slice none 0 0],.agg #[.bool false,.slice none 0 0,.slice none 0 0]],[]⟩ 8 (by kernel_rfl) (by kernel_rfl) (by kernel_rfl) (by kernel_rfl)) ?_
 intro W base args ds gs before sl hW _ hz _
 exact Ap H enc W base args ds gs before sl hW hz
theorem j1:(Rows.normalProductsRow.inPlace==Tryz.prog.inPlace 4)=true:=by kernel_rfl
theorem j2:(Rows.normalProductsRow.unfollowed==Tryz.prog.unfollowed 4)=true:=by kernel_rfl
theorem j3:(Rows.normalProductsRow.recurses==Tryz.prog.recurses 4)=true:=by kernel_rfl
theorem j4:(Rows.normalProductsRow.named==Tryz.prog.varsNamed 4)=true:=by kernel_rfl
theorem closed:joinedFacts Tryz.prog 4 Tryz.f4 Rows.normalProductsSpec Rows.normalProductsRow=true:=by
 unfold joinedFacts
 rw[j1,j2,j3,j4]
 kernel_rfl
theorem proved:Rows.NormalProductsSaid :=
 OpenClaim.holds_of_wide 4 Tryz.f4 rfl rfl rfl rfl rfl rfl rfl ⟨rfl,rfl,rfl,rfl,rfl⟩ rfl rfl rfl rfl rfl (by kernel_rfl) Tryz.func4 closed
  (of_decide_eq_true (by kernel_rfl)) (by unfold Func.isWrapper;first|(rw [if_pos (by decide +kernel)];kernel_rfl)|(rw [if_neg (by decide +kernel)];exact⟨rfl,rfl⟩))
  (fun os started H enc _=>lifted os started H enc)
end RowNormalProducts
end Go.Proofs.YtfjfekodeplcoaaGreat.Sym
