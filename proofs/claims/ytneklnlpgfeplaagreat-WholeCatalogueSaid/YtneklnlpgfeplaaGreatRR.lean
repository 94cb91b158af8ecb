/- WholeCatalogue returns true at every input that is handed, and what it was handed reads as before. -/
import Derived.Test.YtneklnlpgfeplaaGreatRows
import Derived.Test.YtneklnlpgfeplaaGreatG4
import Derived.JoinedCond
namespace Go.Proofs.YtneklnlpgfeplaaGreat.Sym
open Go Go.RowKit Go.ChangeShapes Go.WideShapes Go.ChangeAt
set_option linter.unusedVariables false
namespace RowWholeCatalogue
theorem own:ownKnob Tryz.prog.godebug=none:=by kernel_rfl
theorem laid:laidOutB aV=true:=by kernel_rfl
theorem Mi{P:Program}{W:World}{base:Nat}{ps:Array TypeId}{args:Array Value}(FW:∀(j:Nat) t v,ps[j]? = some t→args[j]? = some v→Value.okWide P W .any base t v)(j:Nat){t:TypeId}{v:Value}(h1:ps[j]? = some t)(h2:args[j]? = some v):Value.okWide P W .any base t v:=FW j t v h1 h2
set_option maxRecDepth 100000 in
theorem Mj(H:Type)(enc:TypeId×Value→H)(W:World)(base:Nat)(args:Array Value)(ds gs:List (DataW H))(before:List MemPlace)
  (FW:∀(j:Nat) t v,Tryz.f3.params[j]? = some t→args[j]? = some v→Value.okWide Tryz.prog W .any base t v)
  (hW:DataW.Whole enc Tryz.prog Tryz.f3.params.toList Rows.wholeCatalogueSpec.vars false W args.toList ds gs before)
  (hz:(DataW.weightsEach Tryz.prog (Tryz.f3.params.toList++Rows.wholeCatalogueSpec.plain.varTypes Tryz.prog) (ds++gs)).all (·≤reachBytes)=true) :
  Calls Tryz.prog 3 args W fun e W'=>∃v,e = .returned v∧Rows.wholeCatalogueSpec.post enc Tryz.prog Tryz.f3 false true false false W args v W':=by
 have hW':=hW;obtain⟨p,q,hA,hV,rfl,hfz,zk⟩:=hW;have hp:Tryz.f3.params = #[25,31,34]:=by kernel_rfl
 rw[hp] at hA FW hz;obtain⟨v0,vs0,d0,ds0,p0,q0,il,rfl,rfl,h0,r0⟩:=trodAll_cons hA;obtain⟨v1,vs1,d1,ds1,p1,q1,rfl,rfl,rfl,h1,r1⟩:=trodAll_cons r0;obtain⟨v2,vs2,d2,ds2,p2,q2,rfl,rfl,rfl,h2,r2⟩:=trodAll_cons r1;obtain⟨rfl,rfl,rfl⟩:=trodAll_nil r2;obtain rfl:args = #[v0,v1,v2]:=by cases args;simp_all
 obtain⟨rfl,rfl⟩:=trodVars_none hV;obtain⟨n0,Xq⟩:=h0;have Ph:∀k∈d0.weights aV 25,k≤reachBytes:=by intro k hk;have:=abX.1 hz k (DataW.weights_mem_each (j:=0) rfl rfl k hk);simpa using this
 obtain⟨x0,Kq,b0⟩:=xX enc W 0 (fun _=>true) true n0 _ _ Xq Ph;obtain⟨fs0,MK,_⟩:=kc (show ph (aV.underlying 25)=some [(22,0),(22,1),(22,2),(22,3),(23,4)] by kernel_rfl);have SY:Value.okWide Tryz.prog W .any base 25 v0:=Mi FW 0 (by simp) (by simp);have X8:Rd (Old W) W x0.pv v0:=xK (P:=Tryz.prog) (cs:=x0.cells) MK SY Kq;obtain⟨n1,Ox⟩:=h1;have Mt:∀k∈d1.weights aV 31,k≤reachBytes:=by intro k hk;have:=abX.1 hz k (DataW.weights_mem_each (j:=1) rfl rfl k hk);simpa using this
 obtain⟨x1,Kl,b1⟩:=Cj enc W 0 (fun _=>true) true n1 _ _ Ox Mt;obtain⟨fs1,hu1,_⟩:=kc (show ph (aV.underlying 31)=some [(26,0),(29,4)] by kernel_rfl);have Ho:Value.okWide Tryz.prog W .any base 31 v1:=Mi FW 1 (by simp) (by simp);have X9:Rd (Old W) W x1.pv v1:=xK (P:=Tryz.prog) (cs:=x1.cells) hu1 Ho Kl;obtain⟨n2,M9⟩:=h2;have GD:∀k∈d2.weights aV 34,k≤reachBytes:=by intro k hk;have:=abX.1 hz k (DataW.weights_mem_each (j:=2) rfl rfl k hk);simpa using this
 obtain⟨x2,EX,b2⟩:=BT enc W 0 (fun _=>true) true n2 _ _ M9 GD;obtain⟨fs2,Ds,_⟩:=kc (show ph (aV.underlying 34)=some [(3,0),(3,1),(32,2)] by kernel_rfl);have Hp:Value.okWide Tryz.prog W .any base 34 v2:=Mi FW 2 (by simp) (by simp);have Ya:Rd (Old W) W x2.pv v2:=xK (P:=Tryz.prog) (cs:=x2.cells) Ds Hp EX;have hc:=@Ct.BR x0 x1 x2 b0 b1 b2;refine(hc.2 (Old W) W (fun _=>none) #[v0,v1,v2] (fun b hb=>hb) (tZ _ _ _) rfl ?_ kh.uy).mono ?_
 ·intro j e v he hv;cases j with
  |zero=>simp at he hv;subst he hv;exact X8
  |succ j =>
   cases j with
   |zero=>simp at he hv;subst he hv;exact X9
   |succ j =>
    cases j with
    |zero=>simp at he hv;subst he hv;exact Ya
    |succ j=>simp at he
 ·intro e W' ⟨v,β',he,_,hk,_,hv,_⟩;subst he;have hv:Rd _ W' (vB true) v:=hv;cases hv;have Eo:gV (fun _=>False) W W':=⟨hk.os,hk.tape,hk.output,hk.size,fun k h1 _=>hk.block k h1 (fun ⟨y,hy,_⟩=>absurd hy jU),hk.shape,hk.drawn⟩;refine⟨_,rfl,Jd (tb:=4) hW' Eo rfl (by kernel_rfl) (by kernel_rfl) rfl rfl rfl laid ?_⟩;rw[hp];intro t ht;have:t=25∨t=31∨t=34:=by simpa using ht
  rcases this with rfl|rfl|rfl
  all_goals exact⟨by kernel_rfl,adM (by kernel_rfl)⟩
set_option maxRecDepth 100000 in
theorem lifted(os:Os)(started:os.Started)(H:Type)(enc:TypeId×Value→H) :
  ReturnsInHanded {} Tryz.checked os 3 .any (Rows.wholeCatalogueSpec.pre6 enc Tryz.prog Tryz.f3 Rows.wholeCatalogueRow.domain false) (Rows.wholeCatalogueSpec.post enc Tryz.prog Tryz.f3 false true false false):=by
 refine returnsInHanded_of_change_sized (C:=Tryz.checked) own started (by kernel_rfl) Tryz.func3
  (ChangeSpec.witness6 (enc:=enc) (C:=Tryz.checked) false ⟨#[],#[.agg #[.slice none 0 0,.slice none 0 0,.slice none 0 0,.slice none 0 0,.slice none 0 0],.agg #[.int .i64 0,.int .i64 0,.int .i64 0,.int .i64 0,.bool false,.slice none 0 0,.slice none 0 0],.agg #[.int .i64 0,.int .i64 0,.slice none 0 0]],[]⟩ 8 (by kernel_rfl) (by kernel_rfl) (by kernel_rfl) (by kernel_rfl)) ?_
 intro W base args ds gs before FW hW _ hz _;exact Mj H enc W base args ds gs before FW hW hz
theorem j1:(Rows.wholeCatalogueRow.inPlace==Tryz.prog.inPlace 3)=true:=by kernel_rfl
theorem j2:(Rows.wholeCatalogueRow.unfollowed==Tryz.prog.unfollowed 3)=true:=by kernel_rfl
theorem j3:(Rows.wholeCatalogueRow.recurses==Tryz.prog.recurses 3)=true:=by kernel_rfl
theorem j4:(Rows.wholeCatalogueRow.named==Tryz.prog.varsNamed 3)=true:=by kernel_rfl
theorem closed:joinedFacts Tryz.prog 3 Tryz.f3 Rows.wholeCatalogueSpec Rows.wholeCatalogueRow=true:=by unfold joinedFacts;rw[j1,j2,j3,j4];kernel_rfl
theorem proved:Rows.WholeCatalogueSaid :=
 OpenClaim.holds_of_wide 3 Tryz.f3 rfl rfl rfl rfl rfl rfl rfl ⟨rfl,rfl,rfl,rfl,rfl⟩ rfl rfl rfl rfl rfl (by kernel_rfl) Tryz.func3 closed
  (adM (by kernel_rfl)) (by unfold Func.isWrapper;first|(rw [ac7 (by decide +kernel)];kernel_rfl)|(rw [ac3 (by decide +kernel)];exact⟨rfl,rfl⟩))
  (fun os started H enc _=>lifted os started H enc)
end RowWholeCatalogue
end Go.Proofs.YtneklnlpgfeplaaGreat.Sym
