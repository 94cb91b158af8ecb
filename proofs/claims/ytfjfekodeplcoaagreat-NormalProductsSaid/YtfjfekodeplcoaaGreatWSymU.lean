/- Lemmas for the statements of this seat. -/
import Derived.Test.YtfjfekodeplcoaaGreatWSymV
namespace Go.Proofs.YtfjfekodeplcoaaGreat.Sym
open Go Go.RowKit
inductive Out where
 |done (e:EV) (s:St)
 |loop (K:List eh) (s:St)
def R4:TE→Bool
 |.aN _=>true
 |.drop _=>true
 |.lK _ _=>true
 |.xM _ _ _=>true
 |.tj _ _ _=>true
 |.nQ _ _ _ _=>true
 |.cut _ _ _=>true
 |.EZ _ _=>true
 |.ord _=>true
 |.rel _ _ _=>true
 |.qp=>true
 |.Ij=>true
 |.yU _ _ _=>true
 |.Ik _ _ _ _=>true
 |.Il _ _ _=>true
 |.Im _ _=>true
 |_=>false
def R5:List TE→Option (TE×List TE)
 |[]=>none
 |te::r=>bif R4 te then some (te,r) else none
def Ba(ob:List Prop):Option (Out×List Prop)→Option (Out×List Prop)
 |some (o,ob2)=>some (o,ob++ob2)
 |none=>none
def finish(T:ja)(fn:Func)(s:St):Option (Out×List Prop) :=
 match zg T s fn.results.toList with
 |some es=>match FX es with
  |some e=>some (.done e s,[])
  |none=>none
 |none=>none
def run(P:Program)(T:ja)(fn:Func):Nat→List eh→St→List TE→Option (Out×List Prop)
 |0,_,_,_=>none
 |f+1,K,s,tr =>
  match R5 tr with
  |some (te,r)=>match kX fn.ntmps s te with
   |some (s',ob)=>Ba ob (run P T fn f K s' r)
   |none=>none
  |none=>match K with
   |[]=>finish T fn s
   |.zf _::K'=>run P T fn f K' s tr
   |.ri c::K'=>match tr with
    |[]=>some (.loop (.ri c::K') s,[])
    |.auto::r=>run P T fn f (.code c :: .ri c::K') s r
    |_=>none
   |.code c::K'=>match c with
    |.skip=>run P T fn f K' s tr
    |.label _=>run P T fn f K' s tr
    |.region _ ops draw=>match tr with
     |.aR hs::r=>bif draw then none else match ze P T fn.ntmps ops ops.toList hs s with
      |some (s',ob)=>Ba ob (run P T fn f K' s' r)
      |none=>none
     |.RJ fl hd tl hs::r=>bif draw then (match BV P T fn.ntmps ops fl hd tl hs s with
      |some (s',ob)=>Ba ob (run P T fn f K' s' r)
      |none=>none) else none
     |.any fl hs::r=>bif draw then (match BW P T fn.ntmps ops fl (lL ops fl) (jo ops fl) hs s with
      |some (s',ob)=>Ba ob (run P T fn f K' s' r)
      |none=>none) else none
     |_=>none
    |.seq a b=>run P T fn f (.code a :: .code b::K') s tr
    |.cond c x y=>match cA s.env c with
     |some (.pv (.bool b))=>match tr with
      |.dec d::r=>Ba [b=d] (run P T fn f (.code (bif d then x else y)::K') s r)
      |.auto::r=>run P T fn f (.code (bif b then x else y)::K') s r
      |_=>none
     |_=>none
    |.block id c=>run P T fn f (.code c :: .zf id::K') s tr
    |.loop c=>run P T fn f (.ri c::K') s tr
    |.exit id=>match unwind id K' with
     |some R6=>run P T fn f R6 s tr
     |none=>none
    |.ret=>finish T fn s
    |_=>none
section
variable {P:Program} {T:ja} {fn:Func} {Γ:Ctx} {R:Ending→World→Prop} {s s':St} {a:Act} {w:World}
theorem pV{c:List PanicEntry}{d:Option Tmp}{v:Value} : ∀(K:List eh),we P fn R K (.panic c) (a.put d v) w→we P fn R K (.panic c) a w
 |[],h=>⟨by rw[←put_defers a d v];exact h.1,h.2⟩
 |.code _::K,h=>pV K h
 |.zf _::K,h=>pV K h
 |.ri _::K,h=>pV K h
def w6(P:Program)(fn:Func)(Γ:Ctx)(R:Ending→World→Prop):Out→Prop
 |.done e s=>∀a w β I v,cq Γ s a w β I→RE β (aS s.sto) I w e v→R (.returned v) w
 |.loop K s=>Sat P fn Γ R K s
theorem uZ(hT:lH P T){out:Out}{ob:List Prop}(h:finish T fn s=some (out,ob))(ho:w6 P fn Γ R out)(hr:Rel Γ s a w):bodyPost P fn R .ret a w∧bodyPost P fn R .normal a w:=by
 unfold finish at h
 split at h
 ·rename_i es FN
  split at h
  ·rename_i e he
   injection h with h;injection h with h1 h2
   subst h1
   obtain⟨β,I,hr⟩:=hr
   obtain⟨v,h1,h2⟩:=AF hT hr FN he
   have:=ho a w β I v hr h2
   exact⟨⟨hr.defers,v,h1,this⟩,⟨hr.defers,v,h1,this⟩⟩
  ·cases h
 ·cases h
theorem nT{ob:List Prop}{x:Option (Out×List Prop)}{out:Out}{Qy:List Prop}(h:Ba ob x=some (out,Qy)):∃ob2,x=some (out,ob2)∧Qy=ob++ob2:=by
 cases x with
 |none=>cases h
 |some y =>
  obtain⟨o,ob2⟩:=y
  injection h with h;injection h with h1 h2
  subst h1
  exact⟨ob2,rfl,h2.symm⟩
theorem sA(hm:P.follows .mixedOrders=true)(hT:lH P T)(hs:∀r,aS Γ.sin r→Γ.n≤r)(hn:Γ.n=fn.ntmps):∀(f:Nat) (K:List eh) (s:St) (tr:List TE) (out:Out) (ob:List Prop),
  run P T fn f K s tr=some (out,ob)→cW ob→w6 P fn Γ R out→Sat P fn Γ R K s
 |0,_,_,_,_,_,h,_,_=>by cases h
 |f+1,K,s,tr,out,ob,h,bK,ho=>by
  intro a w hr
  have ih:=sA hm hT hs hn f
  unfold run at h
  split at h
  ·rename_i te r AK
   split at h
   ·rename_i s' Hu aD
    obtain⟨ob2,h2,rfl⟩:=nT h
    obtain⟨g1,g2⟩:=bK.app
    exact ih K s' r out ob2 h2 g2 ho a w (BN hs hr (by rw[hn];exact aD) g1)
   ·cases h
  ·split at h
   ·exact(uZ hT h ho hr).2
   ·rename_i id K'
    exact ih K' s tr out ob h bK ho a w hr
   ·rename_i c K'
    split at h
    ·injection h with h;injection h with h1 h2
     subst h1
     exact ho a w hr
    ·rename_i r _
     exact Sat.round (ih (.code c :: .ri c::K') s r out ob h bK ho) a w hr
    ·cases h
   ·rename_i c K'
    show c.wp P (we P fn R K') a w
    split at h
    ·exact wp_skip (ih K' s tr out ob h bK ho a w hr)
    ·exact wp_label (ih K' s tr out ob h bK ho a w hr)
    ·rename_i id ops draw
     split at h
     ·rename_i EB r _
      cases draw with
      |true=>cases h
      |false =>
       simp only[cond_false] at h
       split at h
       ·rename_i s' Hu aD
        obtain⟨ob2,h2,rfl⟩:=nT h
        obtain⟨g1,g2⟩:=bK.app
        exact EX hT hs hr (by rw[hn];exact aD) g1 (fun a' w' dy=>ih K' s' r out ob2 h2 g2 ho a' w' dy)
       ·cases h
     ·rename_i fl hd tl EB r _
      cases draw with
      |false=>cases h
      |true =>
       simp only[cond_true] at h
       split at h
       ·rename_i s' Hu aD
        obtain⟨ob2,h2,rfl⟩:=nT h
        obtain⟨g1,g2⟩:=bK.app
        exact E7 hm hT hs (fun c a w d v hq=>pV K' hq) hr (by rw[hn];exact aD) g1 (fun a' w' dy=>ih K' s' r out ob2 h2 g2 ho a' w' dy)
       ·cases h
     ·rename_i fl EB r _
      cases draw with
      |false=>cases h
      |true =>
       simp only[cond_true] at h
       split at h
       ·rename_i s' Hu aD
        obtain⟨ob2,h2,rfl⟩:=nT h
        obtain⟨g1,g2⟩:=bK.app
        exact AJ hm hT hs (fun c a w d v hq=>pV K' hq) hr (by rw[hn];exact aD) g1 (fun a' w' dy=>ih K' s' r out ob2 h2 g2 ho a' w' dy)
       ·cases h
     ·cases h
    ·rename_i x y
     refine wp_seq ?_
     rw[show Exit.then (y.wp P (we P fn R K')) (we P fn R K')=we P fn R (.code y::K') from then_eq]
     exact ih (.code x :: .code y::K') s tr out ob h bK ho a w hr
    ·rename_i c x y
     split at h
     ·rename_i b hb
      have hc:a.eval c = .bool b:=by
       obtain⟨β,I,dy⟩:=hr
       have hv:Rd I w (.bool b) (a.eval c):=dy.uD c _ hb
       generalize a.eval c=v at hv
       cases hv;rfl
      split at h
      ·rename_i d r _
       obtain⟨ob2,h2,rfl⟩:=nT h
       obtain⟨g1,g2⟩:=bK.app
       have g1:b=d:=g1
       subst g1
       have:=ih (.code (bif b then x else y)::K') s r out ob2 h2 g2 ho a w hr
       refine wp_cond hc ?_
       cases b<;>exact this
      ·rename_i r _
       have:=ih (.code (bif b then x else y)::K') s r out ob h bK ho a w hr
       refine wp_cond hc ?_
       cases b<;>exact this
      ·cases h
     ·cases h
    ·rename_i id c
     refine wp_block ?_
     rw[Ii]
     exact ih (.code c :: .zf id::K') s tr out ob h bK ho a w hr
    ·rename_i c
     exact Sat.loop (ih (.ri c::K') s tr out ob h bK ho) a w hr
    ·rename_i id
     split at h
     ·rename_i R6 hu
      exact wp_exit (qu hu (ih R6 s tr out ob h bK ho a w hr))
     ·cases h
    ·exact wp_ret (x4 K' (uZ hT h ho hr).1)
    ·cases h
def kZ:Nat→List EV→Env
 |_,[]=>[]
 |k,e::es=>(k,e)::kZ (k+1) es
theorem w7:∀(es:List EV) (k t:Nat) (e:EV),(kZ k es).get t=some e→k≤t∧es[t-k]? = some e
 |[],k,t,e,h=>by simp[kZ,Env.get] at h
 |x::es,k,t,e,h=>by
  simp only[kZ,Env.get] at h
  cases hb:Nat.beq k t with
  |true =>
   have:k=t:=Nat.eq_of_beq_eq_true hb
   subst this
   simp only[hb,cond_true] at h
   simpa using h
  |false =>
   simp only[hb,cond_false] at h
   obtain⟨h1,h2⟩:=w7 es (k+1) t e h
   refine⟨by omega,?_⟩
   rw[show t-k=(t-(k+1))+1 from by omega,List.getElem?_cons_succ]
   exact h2
theorem av.of {f : FuncId} {c : Code} {args : List EV} {sin sout : aG} {r : EV} (hf : P.funcs[f]? = some fn) (hb : fn.body = some c) (R7 : (fn.name == "runtime.NumGoroutine") = false) (jC : args.length ≤ fn.ntmps) (yQ : fn.ntmps ≤ 999999)
    (h : ∀ Γ : Ctx, Γ.sin = sin → Γ.n = fn.ntmps → (∀ b, Γ.I0 b → b < Γ.w0.heap.size) → tg Γ.β0 Γ.I0 Γ.w0 Γ.sin → Sat P fn Γ (pH sin sout r Γ.β0 Γ.I0 Γ.w0) [.code c] ⟨kZ 0 args, sin⟩) : av P f args sin r sout := by
  refine ⟨⟨fn, hf, by rw [hb]; rfl, R7⟩, fun I w β vs hI AD hl hv hy => ?_⟩
  have := h ⟨w, I, sin, β, fn.ntmps, yQ, hy⟩ rfl rfl hI AD { tmps := vs ++ Array.replicate (fn.ntmps - vs.size) undef, defers := [] } w ⟨β, I, ?_⟩
  · exact calls_of_wp hf hb this
  · refine ⟨fun t e he => ?_, AD, fun r _ _ _ => rfl, fun r b h1 h2 h3 => h2.elim (absurd h1) (fun h2 => .inr ⟨r, h2, h1, h3⟩), hI, fun b h => .inl h, gS.refl _ _, by simp; omega, rfl⟩
    obtain ⟨_, he⟩ := w7 _ 0 t e he
    simp only [Nat.sub_zero] at he
    have ht : t < vs.size := by
      have := (List.getElem?_eq_some_iff.1 he).1
      omega
    have fS : (vs ++ Array.replicate (fn.ntmps - vs.size) undef).getD t undef = vs[t] := by
      simp [Array.getD_eq_getD_getElem?, Array.getElem?_append, ht]
    show RE β (aS sin) I w e ((vs ++ Array.replicate (fn.ntmps - vs.size) undef).getD t undef)
    rw [fS]
    exact hv t e vs[t] he (Array.getElem?_eq_getElem ht)
theorem w6.pure{p r:PV}(hs:Γ.sin=[])(hp:p=r):w6 P fn Γ (pH [] [] (.pv r) Γ.β0 Γ.I0 Γ.w0) (.done (.pv p) s):=by
 subst hp
 intro a w β I v hr hv
 have rb:∀x,¬aS [] x:=fun x h=>ez h
 have hM:∀b,¬Γ.M b:=fun b ⟨x,hx,_⟩=>by rw[hs] at hx;exact rb x hx
 refine⟨v,β,rfl,fun x hx=>absurd hx (rb x),⟨hr.aN.os,hr.aN.tape,hr.aN.output,hr.aN.size,fun k hk _=>hr.aN.block k hk (hM k),hr.aN.shape,hr.aN.drawn⟩,jF _ _ _,?_,fun x b hx=>absurd hx (rb x)⟩
 exact Rd.mono hv (fun b hb=>(hr.ii b hb).imp id (fun h=>⟨by rw[←hs];exact h,fun x hx=>absurd hx (rb x)⟩)) (fun _ _ _=>rfl)
theorem w6.sites {r : EV} (hI : ∀ b, Γ.I0 b → b < Γ.w0.heap.size) (AD : tg Γ.β0 Γ.I0 Γ.w0 Γ.sin) (tD : ∀ x, aS Γ.sin x → ¬ gv x → aS s.sto x) : w6 P fn Γ (pH Γ.sin s.sto r Γ.β0 Γ.I0 Γ.w0) (.done r s) := by
  intro a w β I v hr hv
  have T6 : ∀ b, I b → Γ.I0 b ∨ ((fresh Γ.w0 w b ∨ xy Γ.sin Γ.β0 b) ∧ ∀ x, aS s.sto x → β x ≠ some b) := fun b hb => (hr.ii b hb).imp id (fun h => ⟨h, fun x hx GU => by
    obtain ⟨sc, gD⟩ := Option.isSome_iff_exists.1 hx
    exact ((hr.sto.1 x sc gD).2 b GU).2 hb⟩)
  refine ⟨v, β, rfl, fun x hx hg => hr.par x (tD x hx hg) hx hg, hr.aN, ⟨fun x sc hx => ?_, hr.sto.2⟩, hv.mono (fun _ _ => rfl) (fun _ h => h) T6 (fun _ _ _ => rfl) (fun _ _ _ _ => rfl), fun x b hx hn hb => (hr.new x b hx (.inl hn) hb).imp (fun h => ⟨h, hr.lb x b hx hb⟩) id⟩
  obtain ⟨g1, g2⟩ := hr.sto.1 x sc hx
  have ru : aS s.sto x := by unfold aS; rw [hx]; rfl
  refine ⟨g1.mono rfl (fun _ _ => rfl) (fun _ _ => rfl) (fun _ h => h) T6 (fun _ _ _ => rfl) (fun _ _ _ _ => rfl), fun b hb => ⟨(g2 b hb).1, fun nh => ?_⟩⟩
  rcases nh with nh | ⟨_, nh⟩
  · by_cases C8 : aS Γ.sin x ∧ ¬ gv x
    · obtain ⟨BJ, M8⟩ := Option.isSome_iff_exists.1 C8.1
      exact ((AD.1 x BJ M8).2 b (by rw [← hr.par x ru C8.1 C8.2]; exact hb)).2 nh
    · rcases hr.new x b ru (by by_cases h : aS Γ.sin x; · exact .inr (Classical.byContradiction fun h2 => C8 ⟨h, h2⟩)
                               · exact .inl h) hb with h | ⟨y, _, MX, LG⟩
      · have := hI b nh; omega
      · obtain ⟨BJ, M8⟩ := Option.isSome_iff_exists.1 MX
        exact ((AD.1 y BJ M8).2 b LG).2 nh
  · exact nh x ru hb
end
end Go.Proofs.YtfjfekodeplcoaaGreat.Sym
