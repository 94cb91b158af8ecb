/- The statement PolyDerives is proved, its tables tied: the product rule; the same roots once; no condition. -/
import Derived.Test.YtiahgkpihbchbaaGreatDoorM2
import Derived.Test.YtiahgkpihbchbaaGreatDoorRows
import Derived.Test.YtiahgkpihbchbaaGreatDoorCards
import Derived.Test.YtiahgkpihbchbaaGreatDoorTie
import Derived.Deep.DeepHandedRow
import Derived.SevenTiedAt
import Derived.LaidLaws
import Derived.Test.YtiahgkpihbchbaaGreatDoorM0
import Derived.JoinedCond
namespace Go.Proofs.YtiahgkpihbchbaaGreatDoor.Sym
open Go Path CInt
set_option linter.unusedVariables false
def pwL(f:List Rat):Nat→List Rat
 |0=>[1]
 |t+1=>trimL (mulL (pwL f t) f)
theorem pwL_trim(f:List Rat)(t:Nat):lastZ (pwL f t)=false:=by
 cases t with
 |zero=>show lastZ [1]=false;decide +kernel
 |succ t=>exact lastZ_trimL _
theorem pwL_len(f:List Rat)(h:f.length≤6):∀t,(pwL f t).length≤1+t*5
 |0=>Nat.le_refl _
 |t+1=>by
  have ih:=pwL_len f h t
  have:=len_trim_mul (pwL f t) f
  rw[pwL];omega
theorem pwL_ch{H:Nat}{f:List Rat}(hf:Ch H f)(h:f.length≤6):∀t,t≤6→Ch (2+t*(H+1)) (pwL f t)
 |0,_=>(Ch.of_fl (k:=1) (p:=[1]) (by intro x hx;rw[List.mem_singleton.1 hx];decide)).mono (by simp)
 |t+1,ht=>by
  have ih:=pwL_ch hf h t (by omega)
  have l:=pwL_len f h t
  have m:t*5≤6*5:=Nat.mul_le_mul_right _ (by omega)
  have e:(t+1)*(H+1)=t*(H+1)+(H+1):=by rw[Nat.add_mul,Nat.one_mul]
  exact(ih.mul hf (by omega)).trim.mono (by omega)
theorem pwL_eval(f:List Rat)(x:Rat):∀t,evalL (pwL f t) x=evalL f x^t
 |0=>by rw[pwL,eval_c,Rat.pow_zero]
 |t+1=>by rw[pwL,evalL_trimL,evalL_mulL,pwL_eval f x t,Rat.pow_succ]
theorem pow_split(a:Rat)(m:Nat):∀k,a^(m+k)=a^m*a^k
 |0=>by rw[Rat.pow_zero,Rat.mul_one,Nat.add_zero]
 |k+1=>by rw[←Nat.add_assoc,Rat.pow_succ,pow_split a m k,Rat.pow_succ,Rat.mul_assoc]
theorem dv_pw{p f:List Rat}{k n:Nat}(hk:k≤n)(h:Dv p (powL f k)):Dv p (pwL f n):=by
 obtain⟨u,hu⟩:=h
 refine⟨mulL (powL f (n-k)) u,fun x => ?_⟩
 have e:=pow_split (evalL f x) (n-k) k
 rw[show n-k+k=n from by omega] at e
 rw[pwL_eval,e,evalL_mulL,evalL_powL,←evalL_powL f x k,hu x,Rat.mul_assoc]
namespace C05
theorem fB76:fB 7 6≤100000:=by decide
theorem xBf:4*xB 100001 800014 (6+2)+10≤68719476736:=by decide
theorem PolyDerives(p q:List ARat){A B:Prop}(_:A)(_:B):Contract prg 7 [polyPV p,polyPV q] (vB true):=by
 obtain⟨b1,h1,g1⟩:=valid [p,q] (by simp)
 cases b1 with
 |false=>exact linkworklaw05_PolyDerives.e0 p q _ _ h1 rfl awake
 |true =>
  by_cases k1:6<p.length
  ·exact linkworklaw05_PolyDerives.e1 p q _ _ h1 rfl k1 awake
  by_cases k2:6<q.length
  ·exact linkworklaw05_PolyDerives.e2 p q _ _ h1 rfl (by omega) k2 awake
  obtain⟨hp,hcp⟩:=g1 rfl p (by simp)
  obtain⟨hq,hcq⟩:=g1 rfl q (by simp)
  have s:=hp.s5 hcp
  have u:=hq.s5 hcq
  have spl:=s.pl
  have upl:=u.pl
  have hpv:=s.pv
  have hqv:=u.pv
  have hep:=s.ep
  have zp:=s.zp
  have zq:=u.zp
  have fp:=s.fl
  have fq:=u.fl
  generalize vals p=P at *
  generalize vals q=Q at *
  have lm:=len_trim_mul P Q
  have fm:Fl 19 (trimL (mulL P Q)):=fl_trimL (fl_mul_min (n:=6) fp fq (by omega) (by omega) (Or.inl (by omega)))
  have c1:=PQ.Mul 6 P Q zp zq (by omega) (by omega) fp fq (by omega) (by omega) (Or.inl (by omega)) (by omega) (by omega)
  have c2:=PQ.Derive (trimL (mulL P Q)) (lastZ_trimL _) (by omega) fm (by omega)
  have c3:=PQ.Derive P zp (by omega) fp (by omega)
  have c4:=PQ.Derive Q zq (by omega) fq (by omega)
  have fdp:Fl 3 (deriveL P):=fl_deriveL (by omega) fp
  have fdq:Fl 3 (deriveL Q):=fl_deriveL (by omega) fq
  have ldp:=len_deriveL P
  have ldq:=len_deriveL Q
  have c5:=PQ.Mul 6 (deriveL P) Q (lastZ_deriveL P) zq (by omega) (by omega) fdp fq (by omega) (by omega) (Or.inl (by omega)) (by omega) (by omega)
  have c6:=PQ.Mul 6 P (deriveL Q) zp (lastZ_deriveL Q) (by omega) (by omega) fp fdq (by omega) (by omega) (Or.inl (by omega)) (by omega) (by omega)
  have f5:Fl 31 (trimL (mulL (deriveL P) Q)):=fl_trimL (fl_mul_min (n:=6) fdp fq (by omega) (by omega) (Or.inl (by omega)))
  have f6:Fl 31 (trimL (mulL P (deriveL Q))):=fl_trimL (fl_mul_min (n:=6) fp fdq (by omega) (by omega) (Or.inl (by omega)))
  have l5:=len_trim_mul (deriveL P) Q
  have l6:=len_trim_mul P (deriveL Q)
  have c7:=PQ.Add (trimL (mulL (deriveL P) Q)) (trimL (mulL P (deriveL Q))) (lastZ_trimL _) (lastZ_trimL _) (by omega) (by omega) f5 f6 (by omega) (by omega) (by omega)
  have e7:trimL (addL (trimL (mulL (deriveL P) Q)) (trimL (mulL P (deriveL Q))))=deriveL (trimL (mulL P Q)):=by
   rw[←trimL_of (lastZ_deriveL (trimL (mulL P Q)))]
   refine eval_ext (fun x => ?_)
   have h:dEv (trimL (mulL P Q)) x=dEv (mulL P Q) x:=dEv_congr (fun y=>evalL_trimL y _) x
   rw[dEv_derive,h,dEv_mul,evalL_addL,evalL_trimL,evalL_trimL,evalL_mulL,evalL_mulL,dEv_derive,dEv_derive]
  rw[e7] at c7
  rw[hpv,hqv] at c1
  rw[hpv] at c3 c6
  rw[hqv] at c4 c5
  refine linkworklaw05_PolyDerives.e4 p q _ _ _ none _ none _ none _ none _ none _ none _ none h1 rfl (by omega) (by omega) awake rfl c1 c2 c3 c4 c5 c6 c7 ?_
  have go:∀(D:List ARat) (r:PV),linkworklaw05_PolyDerives.Loop1 p D D 7 none none none none none none none r→linkworklaw05_PolyDerives.Loop1 p D D 0 none none none none none none none r:=by
   intro D r h
   have step:∀t,t<7→linkworklaw05_PolyDerives.Loop1 p D D (t+1) none none none none none none none r→linkworklaw05_PolyDerives.Loop1 p D D t none none none none none none none r:=by
    intro t ht h
    refine linkworklaw05_PolyDerives.l10 _ _ _ t _ _ _ _ _ _ _ ht ?_ (by omega) h
    match t,ht with
    |0,_=>rfl
    |1,_=>rfl
    |2,_=>rfl
    |3,_=>rfl
    |4,_=>rfl
    |5,_=>rfl
    |6,_=>rfl
   exact step 0 (by omega) (step 1 (by omega) (step 2 (by omega) (step 3 (by omega) (step 4 (by omega) (step 5 (by omega) (step 6 (by omega) h))))))
  apply go
  have fd:Fl 21 (deriveL (trimL (mulL P Q))):=fl_deriveL (by omega) fm
  have ld:=len_deriveL (trimL (mulL P Q))
  have sD:=same (deriveL (trimL (mulL P Q))) (by omega) (fl_mono fd (by omega))
  have k0:=CPo.Check p (hp.fit (by omega))
  rw[hcp] at k0
  by_cases h0:P=[]
  ·have pl:p.length=0:=by rw[spl,h0];rfl
   exact linkworklaw05_PolyDerives.l11 _ _ _ _ _ _ _ _ _ _ _ _ [] (Nat.le_refl _) sD rfl (poly_Free.e0 _ k0 pl) pl
  ·have hpl0:=List.length_pos_iff.2 h0
   have f:FFine 7 6 P:=⟨zp,h0,by omega,(Ch.of_fl fp).mono (by omega),by omega,by omega,by decide⟩
   have hFr:=PQ.Free f
   rw[hpv] at hFr
   obtain⟨w1,w2,w3,w4,k,w5,w6⟩:=free_spec zp h0
   have fch:=f.free_ch.mono fB76
   have fln:=f.free_len
   generalize freeL P=F at *
   have lf:F.length≤6:=by omega
   have lF0:=List.length_pos_iff.2 w2
   have ldF:=len_deriveL F
   have chD:Ch 100001 (deriveL F):=fch.derive (by omega)
   have c8:=PQ.Derive F w1 (by omega) (fch.fl (by omega)) (by omega)
   have c9:=PQ.Gcd (L:=6) (h:=100000) (b:=100001) (c:=800014) (by omega) (by omega) (by omega) (by omega) (by omega) xBf F (deriveL F) w1 (lastZ_deriveL F) lf (by omega) fch chD
   rw[gcd_of_cop w1 (lastZ_deriveL F) w3] at c9
   have mF:(P.length+1-F.length)*(100000+1)≤6*100001:=Nat.mul_le_mul_right _ (by omega)
   have c10:=PQ.Div P F zp w1 w2 (by omega) (by omega) f.ch fch (by omega) (by omega) (by omega)
   rw[w4.rest w1 w2] at c10
   rw[hpv] at c10
   have o1:=of [1] (by unfold InI64;decide) (by decide)
   refine linkworklaw05_PolyDerives.l12 _ _ _ _ _ _ _ _ _ _ _ _ _ none _ none _ none _ _ none _ (Nat.le_refl _) sD rfl hFr (by omega) c8 c9 c10 o1 ?_
   have s1:=same [((1:Int):Rat)] (by decide) (by decide +kernel)
   have fin:∀d t:Nat,P.length-t=d→t≤P.length→linkworklaw05_PolyDerives.Loop2 p none none none none (F.map mkR) ([(1:Rat)].map mkR) (([]:List Rat).map mkR) ((pwL F t).map mkR) t (vB true):=by
    intro d
    induction d with
    |zero =>
     intro t hd ht
     have:t=P.length:=by omega
     subst this
     have lw:=pwL_len F lf P.length
     have m5:P.length*5≤6*5:=Nat.mul_le_mul_right _ (by omega)
     have m6:P.length*(100000+1)≤6*100001:=Nat.mul_le_mul_right _ (by omega)
     have chw:=(pwL_ch fch lf P.length (by omega)).mono (show _≤700000 by omega)
     have m7:((pwL F P.length).length+1-P.length)*(7+1)≤40*8:=Nat.mul_le_mul_right _ (by omega)
     have cd:=PQ.Div (pwL F P.length) P (pwL_trim F _) zp h0 (by omega) (by omega) chw f.ch (by omega) (by omega) (by omega)
     rw[(dv_pw w5 w6).rest zp h0] at cd
     rw[hpv] at cd
     exact linkworklaw05_PolyDerives.l21 _ _ _ _ _ _ _ _ _ _ (by omega) cd o1 s1 rfl rfl
    |succ d ih =>
     intro t hd ht
     have lw:=pwL_len F lf t
     have m5:t*5≤6*5:=Nat.mul_le_mul_right _ (by omega)
     have m6:t*(100000+1)≤6*100001:=Nat.mul_le_mul_right _ (by omega)
     have chw:=(pwL_ch fch lf t (by omega)).mono (show _≤700000 by omega)
     have fw:Fl 700000 (pwL F t):=chw.fl (Nat.le_of_ble_eq_true rfl)
     have ff1:Fl 100000 F:=fch.fl (Nat.le_of_ble_eq_true rfl)
     have hkk:(6+1)*(700000+100000+1)+1≤68719476736:=Nat.le_of_ble_eq_true rfl
     have cm:=PQ.Mul (a:=700000) (b:=100000) 6 (pwL F t) F (pwL_trim F t) w1 (by omega) (by omega) fw ff1 (Nat.le_of_ble_eq_true rfl) (Nat.le_of_ble_eq_true rfl) (Or.inr lf) (by omega) hkk
     exact linkworklaw05_PolyDerives.l20 _ _ _ _ _ _ _ _ _ _ _ (by omega) cm (by omega) (ih (t+1) (by omega) (by omega))
   exact fin _ 0 rfl (by omega)
end C05
end Go.Proofs.YtiahgkpihbchbaaGreatDoor.Sym
namespace Go.Proofs.YtiahgkpihbchbaaGreatDoor.Sym
open Go Go.RowKit Go.ChangeShapes Go.WideShapes Go.ChangeAt
set_option linter.unusedVariables false
namespace RowPolyDerives
theorem own:ownKnob Tryz.prog.godebug=none:=by kernel_rfl
theorem laid:laidOutB prg=true:=by kernel_rfl
theorem okArg{P:Program}{W:World}{base:Nat}{ps:Array TypeId}{args:Array Value}(hval:∀(j:Nat) t v,ps[j]? = some t→args[j]? = some v→Value.okWide P W .any base t v)(j:Nat){t:TypeId}{v:Value}(h1:ps[j]? = some t)(h2:args[j]? = some v):Value.okWide P W .any base t v:=hval j t v h1 h2
set_option maxRecDepth 100000 in
theorem contract(H:Type)(enc:TypeId×Value→H)(W:World)(base:Nat)(args:Array Value)(ds gs:List (DataW H))(before:List MemPlace)
  (hval:∀(j:Nat) t v,Tryz.f7.params[j]? = some t→args[j]? = some v→Value.okWide Tryz.prog W .any base t v)
  (hW:DataW.Whole enc Tryz.prog Tryz.f7.params.toList Rows.polyDerivesSpec.vars false W args.toList ds gs before)
  (hz:(DataW.weightsEach Tryz.prog (Tryz.f7.params.toList++Rows.polyDerivesSpec.plain.varTypes Tryz.prog) (ds++gs)).all (·≤reachBytes)=true) :
  Calls Tryz.prog 7 args W fun e W'=>∃v,e = .returned v∧Rows.polyDerivesSpec.post enc Tryz.prog Tryz.f7 false true false false W args v W':=by
 have hW':=hW
 obtain⟨p,q,hA,hV,rfl,hfz,hnd⟩:=hW
 have hp:Tryz.f7.params = #[25,25]:=by kernel_rfl
 rw[hp] at hA hval hz
 obtain⟨v0,vs0,d0,ds0,p0,q0,hargs,rfl,rfl,h0,r0⟩:=trodAll_cons hA
 obtain⟨v1,vs1,d1,ds1,p1,q1,rfl,rfl,rfl,h1,r1⟩:=trodAll_cons r0
 obtain⟨rfl,rfl,rfl⟩:=trodAll_nil r1
 obtain rfl:args = #[v0,v1]:=by cases args;simp_all
 obtain⟨rfl,rfl⟩:=trodVars_none hV
 obtain⟨n0,hn0⟩:=h0
 have hw0:∀k∈d0.weights prg 25,k≤reachBytes:=by
  intro k hk
  have:=List.all_eq_true.1 hz k (DataW.weights_mem_each (j:=0) rfl rfl k hk)
  simpa using this
 obtain⟨x0,hx0,b0⟩:=opens_poly enc W 0 (fun _=>true) true n0 _ _ hn0 hw0
 obtain⟨ra0,rl0,rc0,rfl⟩:=okWide_slice (show Tryz.prog.underlying 25=some (.slice 36) by kernel_rfl) (okArg hval 0 (t:=25) (v:=v0) (by simp) (by simp))
 have hrd0:Rd (Old W) W (polyPV x0) (.slice ra0 rl0 rc0):=(hx0.2 0 _ _ rfl rfl).2
 obtain⟨n1,hn1⟩:=h1
 have hw1:∀k∈d1.weights prg 25,k≤reachBytes:=by
  intro k hk
  have:=List.all_eq_true.1 hz k (DataW.weights_mem_each (j:=1) rfl rfl k hk)
  simpa using this
 obtain⟨x1,hx1,b1⟩:=opens_poly enc W 0 (fun _=>true) true n1 _ _ hn1 hw1
 obtain⟨ra1,rl1,rc1,rfl⟩:=okWide_slice (show Tryz.prog.underlying 25=some (.slice 36) by kernel_rfl) (okArg hval 1 (t:=25) (v:=v1) (by simp) (by simp))
 have hrd1:Rd (Old W) W (polyPV x1) (.slice ra1 rl1 rc1):=(hx1.2 0 _ _ rfl rfl).2
 have hc:=C05.PolyDerives x0 x1 b0 b1
 refine(hc.2 (Old W) W (fun _=>none) #[.slice ra0 rl0 rc0,.slice ra1 rl1 rc1] (fun b hb=>hb) ⟨(fun r sc h=>by cases h),(fun r r' b h=>by obtain⟨_,h⟩:=h)⟩ rfl ?_).mono ?_
 ·intro j e v he hv
  cases j with
  |zero=>simp at he hv;subst he hv;exact hrd0
  |succ j =>
   cases j with
   |zero=>simp at he hv;subst he hv;exact hrd1
   |succ j=>simp at he
 ·intro e W' ⟨v,β',he,_,hk,_,hv,_⟩
  subst he
  have hv:Rd _ W' (vB true) v:=hv
  cases hv
  have hk':Keeps (fun _=>False) W W':=⟨hk.os,hk.tape,hk.output,hk.size,fun k h1 _=>hk.block k h1 (fun ⟨y,hy,_⟩=>by obtain⟨_,hy⟩:=hy),hk.shape⟩
  refine⟨_,rfl,post_true (tb:=4) hW' hk' rfl (by kernel_rfl) (by kernel_rfl) rfl rfl rfl laid ?_⟩
  rw[hp]
  intro t ht
  have:t=25∨t=25:=by simpa using ht
  rcases this with rfl|rfl
  all_goals exact⟨by kernel_rfl,of_decide_eq_true (by kernel_rfl)⟩
def tabCells:DataW Unit→Array Value
 |.agg l=>(l.map fun d=>match d with
  |.lit (.int k n)=>Value.int k n
  |_=>Value.nilIface).toArray
 |_ => #[]
def setTab(b:Nat)(d:DataW Unit)(h:Array Obj):Array Obj:=h.modify b fun
 |.cells _ t fr => .cells (tabCells d) t fr
 |o=>o
noncomputable def laidWorld(os:Os):World :=
 { World.holding Tryz.prog os ⟨#[],#[],[]⟩ with heap:=setTab 0 Rows.laid_internal_strconv_uint64pow10 (setTab 2 Rows.laid_math_bits_deBruijn32tab (setTab 3 Rows.laid_math_bits_deBruijn64tab (World.holding Tryz.prog os ⟨#[],#[],[]⟩).heap)) }
theorem laid_met(os:Os):laidMet Tryz.prog Rows.polyDerivesRow.laid ((laidWorld os).forCall (fun _ _=>0) ⟨#[],#[.slice none 0 0,.slice none 0 0],[]⟩).memory :=
 laidMet_of_run' 8 (by kernel_rfl) (by kernel_rfl)
theorem reads(os:Os){H:Type}(enc:TypeId×Value→H):(DataW.whole enc Tryz.prog ((laidWorld os).forCall (fun _ _=>0) ⟨#[],#[.slice none 0 0,.slice none 0 0],[]⟩).memory Tryz.f7.params.toList Rows.polyDerivesSpec.vars false (#[.slice none 0 0,.slice none 0 0]:Array Value).toList 8).isSome=true:=by kernel_rfl
set_option maxRecDepth 100000 in
theorem lifted(os:Os)(started:os.Started)(H:Type)(enc:TypeId×Value→H)(F:Stop.Interp) :
  ReturnsInHanded {} Tryz.checked os 7 .any ((OpenSpec.ofChange Rows.polyDerivesSpec).preRow enc Tryz.prog Tryz.f7 Rows.polyDerivesRow.domain false Rows.polyDerivesRow.laid) (((OpenSpec.ofChange Rows.polyDerivesSpec).at F).post enc Tryz.prog Tryz.f7 false true false false):=by
 obtain⟨x,hx⟩:=Option.isSome_iff_exists.1 (reads os enc)
 refine returnsInHanded_of_row (C:=Tryz.checked) (s:=OpenSpec.ofChange Rows.polyDerivesSpec) own started (by kernel_rfl) Tryz.func7
  (witness_row_at (enc:=enc) (C:=Tryz.checked) false (laidWorld os) #[.slice none 0 0,.slice none 0 0] rfl (by kernel_rfl) (by kernel_rfl) (by kernel_rfl)
   (OpenSpec.preRow_of_cond 8 hx (by kernel_rfl) (fun k hk=>by cases hk) (by kernel_rfl) (laid_met os))) ?_
 intro W base args ds gs before hval hW _ _ hz hL _ _
 exact contract H enc W base args ds gs before hval hW hz
theorem j1:(Rows.polyDerivesRow.inPlace==Tryz.prog.inPlace 7)=true:=by kernel_rfl
theorem j2:(Rows.polyDerivesRow.unfollowed==Tryz.prog.unfollowed 7)=true:=by kernel_rfl
theorem j3:(Rows.polyDerivesRow.recurses==Tryz.prog.recurses 7)=true:=by kernel_rfl
theorem j4:(Rows.polyDerivesRow.named==Tryz.prog.varsNamed 7)=true:=by kernel_rfl
theorem closed:joinedFacts Tryz.prog 7 Tryz.f7 Rows.polyDerivesSpec Rows.polyDerivesRow=true:=by
 unfold joinedFacts
 rw[j1,j2,j3,j4]
 kernel_rfl
set_option maxRecDepth 100000 in
theorem said:Rows.PolyDerivesSaid :=
 OpenClaim.holds_of_cond 7 Tryz.f7 rfl rfl rfl rfl rfl rfl rfl ⟨rfl,rfl,rfl,rfl,rfl⟩ rfl rfl rfl rfl rfl (by kernel_rfl) Tryz.func7 closed
  (of_decide_eq_true (by kernel_rfl)) (by unfold Func.isWrapper;first|(rw [if_pos (by decide +kernel)];kernel_rfl)|(rw [if_neg (by decide +kernel)];exact⟨rfl,rfl⟩))
  (fun os started H enc _ F=>by rw[OpenClaim.pre_eq_preRow];exact lifted os started H enc F)
theorem plainL(f:FuncId)(fn:Func)(hf:Tryz.pinned.checked.prog.funcNamed Rows.polyDerivesRow.func=some f)(hfn:Tryz.pinned.checked.prog.funcs[f]? = some fn) :
  true=Tryz.pinned.checked.prog.looks []∧∀(j:Nat) t,fn.params[j]? = some t→Tryz.pinned.checked.prog.wantsStandIn t=false:=by
 obtain rfl:f=7:=Option.some.inj ((show Tryz.prog.funcNamed Rows.polyDerivesRow.func=some 7 by kernel_rfl).symm.trans hf) |>.symm
 obtain rfl:fn=Tryz.f7:=(Option.some.inj (Tryz.func7.symm.trans hfn)).symm
 refine⟨by kernel_rfl,fun j t ht => ?_⟩
 have hp:Tryz.f7.params = #[25,25]:=by kernel_rfl
 rw[hp] at ht
 have:t=25∨t=25:=by simpa using Array.mem_of_getElem? ht
 rcases this with rfl|rfl
 all_goals exact(show Tryz.prog.wantsStandIn _=false by kernel_rfl)
theorem proved:Rows.PolyDerivesCardSaid :=
 Claim7.holds_tied_plain_at .later [] _ _ _ _ said (fun _ h=>by cases h) (by kernel_rfl) (fun _ h=>by cases h) polyDerives_row_tie rfl ⟨rfl,rfl⟩ (by kernel_rfl) rfl plainL (by kernel_rfl)
end RowPolyDerives
end Go.Proofs.YtiahgkpihbchbaaGreatDoor.Sym
