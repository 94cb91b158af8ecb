/- Bezout and Accepts of the program answer as the reference does. -/
import Derived.Test.YtboilcfohmmpbaaGreatDoorYSymV
namespace Go.Proofs.YtboilcfohmmpbaaGreatDoor.Sym
open Go Go.RowKit
inductive Out where
 |done (e:EV) (s:St)
 |loop (K:List Itm) (s:St)
def isTE:TE→Bool
 |.keep _=>true
 |.drop _=>true
 |.frzT _ _=>true
 |.frzC _ _ _=>true
 |.adopt _ _ _=>true
 |.adoptC _ _ _ _=>true
 |.cut _ _ _=>true
 |.ren _ _=>true
 |.ord _=>true
 |.rel _ _ _=>true
 |.newheap=>true
 |.dropH=>true
 |.adoptM _ _ _=>true
 |_=>false
def teOf:List TE→Option (TE×List TE)
 |[]=>none
 |te::r=>bif isTE te then some (te,r) else none
def preOb(ob:List Prop):Option (Out×List Prop)→Option (Out×List Prop)
 |some (o,ob2)=>some (o,ob++ob2)
 |none=>none
def finish(T:Tab)(fn:Func)(s:St):Option (Out×List Prop) :=
 match resEV T s fn.results.toList with
 |some es=>match oneEV es with
  |some e=>some (.done e s,[])
  |none=>none
 |none=>none
def run(P:Program)(T:Tab)(fn:Func):Nat→List Itm→St→List TE→Option (Out×List Prop)
 |0,_,_,_=>none
 |f+1,K,s,tr =>
  match teOf tr with
  |some (te,r)=>match stepTE fn.ntmps s te with
   |some (s',ob)=>preOb ob (run P T fn f K s' r)
   |none=>none
  |none=>match K with
   |[]=>finish T fn s
   |.endB _::K'=>run P T fn f K' s tr
   |.endL c::K'=>match tr with
    |[]=>some (.loop (.endL c::K') s,[])
    |.auto::r=>run P T fn f (.code c :: .endL c::K') s r
    |_=>none
   |.code c::K'=>match c with
    |.skip=>run P T fn f K' s tr
    |.label _=>run P T fn f K' s tr
    |.region _ ops draw=>match tr with
     |.reg hs::r=>bif draw then none else match stepsL P T fn.ntmps ops ops.toList hs s with
      |some (s',ob)=>preOb ob (run P T fn f K' s' r)
      |none=>none
     |.drw fl hd tl hs::r=>bif draw then (match drwStep P T fn.ntmps ops fl hd tl hs s with
      |some (s',ob)=>preOb ob (run P T fn f K' s' r)
      |none=>none) else none
     |.any fl hs::r=>bif draw then (match anyStep P T fn.ntmps ops fl (allF ops fl) (downs ops fl) hs s with
      |some (s',ob)=>preOb ob (run P T fn f K' s' r)
      |none=>none) else none
     |_=>none
    |.seq a b=>run P T fn f (.code a :: .code b::K') s tr
    |.cond c x y=>match evalO s.env c with
     |some (.pv (.bool b))=>match tr with
      |.dec d::r=>preOb [b=d] (run P T fn f (.code (bif d then x else y)::K') s r)
      |.auto::r=>run P T fn f (.code (bif b then x else y)::K') s r
      |_=>none
     |_=>none
    |.block id c=>run P T fn f (.code c :: .endB id::K') s tr
    |.loop c=>run P T fn f (.endL c::K') s tr
    |.exit id=>match unwind id K' with
     |some K''=>run P T fn f K'' s tr
     |none=>none
    |.ret=>finish T fn s
    |_=>none
section
variable {P:Program} {T:Tab} {fn:Func} {Γ:Ctx} {R:Ending→World→Prop} {s s':St} {a:Act} {w:World}
theorem sem_panic{c:List PanicEntry}{d:Option Tmp}{v:Value} : ∀(K:List Itm),sem P fn R K (.panic c) (a.put d v) w→sem P fn R K (.panic c) a w
 |[],h=>⟨by rw[←put_defers a d v];exact h.1,h.2⟩
 |.code _::K,h=>sem_panic K h
 |.endB _::K,h=>sem_panic K h
 |.endL _::K,h=>sem_panic K h
def OutOk(P:Program)(fn:Func)(Γ:Ctx)(R:Ending→World→Prop):Out→Prop
 |.done e s=>∀a w β I v,RelB Γ s a w β I→RE β (dom s.sto) I w e v→R (.returned v) w
 |.loop K s=>Sat P fn Γ R K s
theorem finish_sound(hT:TOk P T){out:Out}{ob:List Prop}(h:finish T fn s=some (out,ob))(ho:OutOk P fn Γ R out)(hr:Rel Γ s a w):bodyPost P fn R .ret a w∧bodyPost P fn R .normal a w:=by
 unfold finish at h
 split at h
 ·rename_i es hes
  split at h
  ·rename_i e he
   injection h with h;injection h with h1 h2
   subst h1
   obtain⟨β,I,hr⟩:=hr
   obtain⟨v,h1,h2⟩:=results_sound hT hr hes he
   have:=ho a w β I v hr h2
   exact⟨⟨hr.defers,v,h1,this⟩,⟨hr.defers,v,h1,this⟩⟩
  ·cases h
 ·cases h
theorem preOb_some{ob:List Prop}{x:Option (Out×List Prop)}{out:Out}{ob':List Prop}(h:preOb ob x=some (out,ob')):∃ob2,x=some (out,ob2)∧ob'=ob++ob2:=by
 cases x with
 |none=>cases h
 |some y =>
  obtain⟨o,ob2⟩:=y
  injection h with h;injection h with h1 h2
  subst h1
  exact⟨ob2,rfl,h2.symm⟩
theorem run_sound(hm:P.follows .mixedOrders=true)(hT:TOk P T)(hs:∀r,dom Γ.sin r→Γ.n≤r)(hn:Γ.n=fn.ntmps):∀(f:Nat) (K:List Itm) (s:St) (tr:List TE) (out:Out) (ob:List Prop),
  run P T fn f K s tr=some (out,ob)→Alls ob→OutOk P fn Γ R out→Sat P fn Γ R K s
 |0,_,_,_,_,_,h,_,_=>by cases h
 |f+1,K,s,tr,out,ob,h,hob,ho=>by
  intro a w hr
  have ih:=run_sound hm hT hs hn f
  unfold run at h
  split at h
  ·rename_i te r hte
   split at h
   ·rename_i s' ob1 hst
    obtain⟨ob2,h2,rfl⟩:=preOb_some h
    obtain⟨g1,g2⟩:=hob.app
    exact ih K s' r out ob2 h2 g2 ho a w (stepTE_sound hs hr (by rw[hn];exact hst) g1)
   ·cases h
  ·split at h
   ·exact(finish_sound hT h ho hr).2
   ·rename_i id K'
    exact ih K' s tr out ob h hob ho a w hr
   ·rename_i c K'
    split at h
    ·injection h with h;injection h with h1 h2
     subst h1
     exact ho a w hr
    ·rename_i r _
     exact Sat.round (ih (.code c :: .endL c::K') s r out ob h hob ho) a w hr
    ·cases h
   ·rename_i c K'
    show c.wp P (sem P fn R K') a w
    split at h
    ·exact wp_skip (ih K' s tr out ob h hob ho a w hr)
    ·exact wp_label (ih K' s tr out ob h hob ho a w hr)
    ·rename_i id ops draw
     split at h
     ·rename_i hs' r _
      cases draw with
      |true=>cases h
      |false =>
       simp only[cond_false] at h
       split at h
       ·rename_i s' ob1 hst
        obtain⟨ob2,h2,rfl⟩:=preOb_some h
        obtain⟨g1,g2⟩:=hob.app
        exact region_seq hT hs hr (by rw[hn];exact hst) g1 (fun a' w' hr'=>ih K' s' r out ob2 h2 g2 ho a' w' hr')
       ·cases h
     ·rename_i fl hd tl hs' r _
      cases draw with
      |false=>cases h
      |true =>
       simp only[cond_true] at h
       split at h
       ·rename_i s' ob1 hst
        obtain⟨ob2,h2,rfl⟩:=preOb_some h
        obtain⟨g1,g2⟩:=hob.app
        exact region_drw hm hT hs (fun c a w d v hq=>sem_panic K' hq) hr (by rw[hn];exact hst) g1 (fun a' w' hr'=>ih K' s' r out ob2 h2 g2 ho a' w' hr')
       ·cases h
     ·rename_i fl hs' r _
      cases draw with
      |false=>cases h
      |true =>
       simp only[cond_true] at h
       split at h
       ·rename_i s' ob1 hst
        obtain⟨ob2,h2,rfl⟩:=preOb_some h
        obtain⟨g1,g2⟩:=hob.app
        exact region_anyset hm hT hs (fun c a w d v hq=>sem_panic K' hq) hr (by rw[hn];exact hst) g1 (fun a' w' hr'=>ih K' s' r out ob2 h2 g2 ho a' w' hr')
       ·cases h
     ·cases h
    ·rename_i x y
     refine wp_seq ?_
     rw[show Exit.then (y.wp P (sem P fn R K')) (sem P fn R K')=sem P fn R (.code y::K') from then_eq]
     exact ih (.code x :: .code y::K') s tr out ob h hob ho a w hr
    ·rename_i c x y
     split at h
     ·rename_i b hb
      have hc:a.eval c = .bool b:=by
       obtain⟨β,I,hr'⟩:=hr
       have hv:Rd I w (.bool b) (a.eval c):=hr'.evO c _ hb
       generalize a.eval c=v at hv
       cases hv;rfl
      split at h
      ·rename_i d r _
       obtain⟨ob2,h2,rfl⟩:=preOb_some h
       obtain⟨g1,g2⟩:=hob.app
       have g1:b=d:=g1
       subst g1
       have:=ih (.code (bif b then x else y)::K') s r out ob2 h2 g2 ho a w hr
       refine wp_cond hc ?_
       cases b<;>exact this
      ·rename_i r _
       have:=ih (.code (bif b then x else y)::K') s r out ob h hob ho a w hr
       refine wp_cond hc ?_
       cases b<;>exact this
      ·cases h
     ·cases h
    ·rename_i id c
     refine wp_block ?_
     rw[block_eq]
     exact ih (.code c :: .endB id::K') s tr out ob h hob ho a w hr
    ·rename_i c
     exact Sat.loop (ih (.endL c::K') s tr out ob h hob ho) a w hr
    ·rename_i id
     split at h
     ·rename_i K'' hu
      exact wp_exit (unwind_sem hu (ih K'' s tr out ob h hob ho a w hr))
     ·cases h
    ·exact wp_ret (ret_sem K' (finish_sound hT h ho hr).1)
    ·cases h
def initEnv:Nat→List EV→Env
 |_,[]=>[]
 |k,e::es=>(k,e)::initEnv (k+1) es
theorem initEnv_get:∀(es:List EV) (k t:Nat) (e:EV),(initEnv k es).get t=some e→k≤t∧es[t-k]? = some e
 |[],k,t,e,h=>by simp[initEnv,Env.get] at h
 |x::es,k,t,e,h=>by
  simp only[initEnv,Env.get] at h
  cases hb:Nat.beq k t with
  |true =>
   have:k=t:=Nat.eq_of_beq_eq_true hb
   subst this
   simp only[hb,cond_true] at h
   simpa using h
  |false =>
   simp only[hb,cond_false] at h
   obtain⟨h1,h2⟩:=initEnv_get es (k+1) t e h
   refine⟨by omega,?_⟩
   rw[show t-k=(t-(k+1))+1 from by omega,List.getElem?_cons_succ]
   exact h2
theorem ContractX.of {f : FuncId} {c : Code} {args : List EV} {sin sout : Sto} {r : EV} (hf : P.funcs[f]? = some fn) (hb : fn.body = some c) (hnm : (fn.name == "runtime.NumGoroutine") = false) (hsz : args.length ≤ fn.ntmps) (hsm : fn.ntmps ≤ 999999)
    (h : ∀ Γ : Ctx, Γ.sin = sin → Γ.n = fn.ntmps → (∀ b, Γ.I0 b → b < Γ.w0.heap.size) → StoOk Γ.β0 Γ.I0 Γ.w0 Γ.sin → Sat P fn Γ (CallPost sin sout r Γ.β0 Γ.I0 Γ.w0) [.code c] ⟨initEnv 0 args, sin⟩) : ContractX P f args sin r sout := by
  refine ⟨⟨fn, hf, by rw [hb]; rfl, hnm⟩, fun I w β vs hI hso hl hv => ?_⟩
  have := h ⟨w, I, sin, β, fn.ntmps, hsm⟩ rfl rfl hI hso { tmps := vs ++ Array.replicate (fn.ntmps - vs.size) undef, defers := [] } w ⟨β, I, ?_⟩
  · exact calls_of_wp hf hb this
  · refine ⟨fun t e he => ?_, hso, fun r _ _ _ => rfl, fun r b h1 h2 h3 => h2.elim (absurd h1) (fun h2 => .inr ⟨r, h2, h1, h3⟩), hI, fun b h => .inl h, Keeps.refl _ _, by simp; omega, rfl⟩
    obtain ⟨_, he⟩ := initEnv_get _ 0 t e he
    simp only [Nat.sub_zero] at he
    have ht : t < vs.size := by
      have := (List.getElem?_eq_some_iff.1 he).1
      omega
    have hget : (vs ++ Array.replicate (fn.ntmps - vs.size) undef).getD t undef = vs[t] := by
      simp [Array.getD_eq_getD_getElem?, Array.getElem?_append, ht]
    show RE β (dom sin) I w e ((vs ++ Array.replicate (fn.ntmps - vs.size) undef).getD t undef)
    rw [hget]
    exact hv t e vs[t] he (Array.getElem?_eq_getElem ht)
theorem OutOk.pure{p r:PV}(hs:Γ.sin=[])(hp:p=r):OutOk P fn Γ (CallPost [] [] (.pv r) Γ.β0 Γ.I0 Γ.w0) (.done (.pv p) s):=by
 subst hp
 intro a w β I v hr hv
 have hnd:∀x,¬dom [] x:=fun x h=>dom_nil h
 have hM:∀b,¬Γ.M b:=fun b ⟨x,hx,_⟩=>by rw[hs] at hx;exact hnd x hx
 refine⟨v,β,rfl,fun x hx=>absurd hx (hnd x),⟨hr.keep.os,hr.keep.tape,hr.keep.output,hr.keep.size,fun k hk _=>hr.keep.block k hk (hM k),hr.keep.shape,hr.keep.drawn⟩,stoOk_nil _ _ _,?_,fun x b hx=>absurd hx (hnd x)⟩
 exact Rd.mono hv (fun b hb=>(hr.ii b hb).imp id (fun h=>⟨by rw[←hs];exact h,fun x hx=>absurd hx (hnd x)⟩)) (fun _ _ _=>rfl)
theorem OutOk.pureG{p r:PV}(hg:∀x,dom Γ.sin x→gv x)(hp:p=r):OutOk P fn Γ (CallPost Γ.sin [] (.pv r) Γ.β0 Γ.I0 Γ.w0) (.done (.pv p) s):=by
 subst hp
 intro a w β I v hr hv
 refine⟨v,β,rfl,fun x hx hn=>absurd (hg x hx) hn,hr.keep,stoOk_nil _ _ _,?_,fun x b hx=>absurd hx dom_nil⟩
 exact Rd.mono hv (fun b hb=>(hr.ii b hb).imp id (fun h=>⟨h,fun x hx=>absurd hx dom_nil⟩)) (fun _ _ _=>rfl)
theorem OutOk.sites {r : EV} (hI : ∀ b, Γ.I0 b → b < Γ.w0.heap.size) (hso : StoOk Γ.β0 Γ.I0 Γ.w0 Γ.sin) (hin : ∀ x, dom Γ.sin x → ¬ gv x → dom s.sto x) : OutOk P fn Γ (CallPost Γ.sin s.sto r Γ.β0 Γ.I0 Γ.w0) (.done r s) := by
  intro a w β I v hr hv
  have hII : ∀ b, I b → Γ.I0 b ∨ ((fresh Γ.w0 w b ∨ Gvn Γ.sin Γ.β0 b) ∧ ∀ x, dom s.sto x → β x ≠ some b) := fun b hb => (hr.ii b hb).imp id (fun h => ⟨h, fun x hx hxb => by
    obtain ⟨sc, hsc⟩ := Option.isSome_iff_exists.1 hx
    exact ((hr.sto.1 x sc hsc).2 b hxb).2 hb⟩)
  refine ⟨v, β, rfl, fun x hx hg => hr.par x (hin x hx hg) hx hg, hr.keep, ⟨fun x sc hx => ?_, hr.sto.2⟩, hv.mono (fun _ _ => rfl) (fun _ h => h) hII (fun _ _ _ => rfl) (fun _ _ _ _ => rfl), fun x b hx hn hb => (hr.new x b hx (.inl hn) hb).imp (fun h => ⟨h, hr.lb x b hx hb⟩) id⟩
  obtain ⟨g1, g2⟩ := hr.sto.1 x sc hx
  have hdx : dom s.sto x := by unfold dom; rw [hx]; rfl
  refine ⟨g1.mono rfl (fun _ _ => rfl) (fun _ _ => rfl) (fun _ h => h) hII (fun _ _ _ => rfl) (fun _ _ _ _ => rfl), fun b hb => ⟨(g2 b hb).1, fun hb2 => ?_⟩⟩
  rcases hb2 with hb2 | ⟨_, hb2⟩
  · by_cases hsn : dom Γ.sin x ∧ ¬ gv x
    · obtain ⟨sc0, hsc0⟩ := Option.isSome_iff_exists.1 hsn.1
      exact ((hso.1 x sc0 hsc0).2 b (by rw [← hr.par x hdx hsn.1 hsn.2]; exact hb)).2 hb2
    · rcases hr.new x b hdx (by by_cases h : dom Γ.sin x; · exact .inr (Classical.byContradiction fun h2 => hsn ⟨h, h2⟩)
                                · exact .inl h) hb with h | ⟨y, _, hy1, hy2⟩
      · have := hI b hb2; omega
      · obtain ⟨sc0, hsc0⟩ := Option.isSome_iff_exists.1 hy1
        exact ((hso.1 y sc0 hsc0).2 b hy2).2 hb2
  · exact hb2 x hdx hb
end
end Go.Proofs.YtboilcfohmmpbaaGreatDoor.Sym
