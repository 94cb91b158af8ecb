/- Lemmas for the statements of this seat. -/
import Derived.Test.YtnjhplhbmapclaaGreatDoorWSymV
namespace Go.Proofs.YtnjhplhbmapclaaGreatDoor.Sym
open Go Go.RowKit
inductive Out where
 |done (e:EV) (s:St)
 |loop (K:List dB) (s:St)
def Lj:TE→Bool
 |.aB _=>true
 |.drop _=>true
 |.eQ _ _=>true
 |.G4 _ _ _=>true
 |.mY _ _ _=>true
 |.zk _ _ _ _=>true
 |.cut _ _ _=>true
 |.uR _ _=>true
 |.ord _=>true
 |.rel _ _ _=>true
 |.AD=>true
 |.F4=>true
 |.CY _ _ _=>true
 |_=>false
def Lk:List TE→Option (TE×List TE)
 |[]=>none
 |te::r=>bif Lj te then some (te,r) else none
def vo(ob:List Prop):Option (Out×List Prop)→Option (Out×List Prop)
 |some (o,ob2)=>some (o,ob++ob2)
 |none=>none
def finish(T:gi)(fn:Func)(s:St):Option (Out×List Prop) :=
 match tu T s fn.results.toList with
 |some es=>match AB es with
  |some e=>some (.done e s,[])
  |none=>none
 |none=>none
def run(P:Program)(T:gi)(fn:Func):Nat→List dB→St→List TE→Option (Out×List Prop)
 |0,_,_,_=>none
 |f+1,K,s,tr =>
  match Lk tr with
  |some (te,r)=>match jo fn.ntmps s te with
   |some (s',ob)=>vo ob (run P T fn f K s' r)
   |none=>none
  |none=>match K with
   |[]=>finish T fn s
   |.tt _::K'=>run P T fn f K' s tr
   |.mF c::K'=>match tr with
    |[]=>some (.loop (.mF c::K') s,[])
    |.auto::r=>run P T fn f (.code c :: .mF c::K') s r
    |_=>none
   |.code c::K'=>match c with
    |.skip=>run P T fn f K' s tr
    |.label _=>run P T fn f K' s tr
    |.region _ ops draw=>match tr with
     |.aI hs::r=>bif draw then none else match tq P T fn.ntmps ops ops.toList hs s with
      |some (s',ob)=>vo ob (run P T fn f K' s' r)
      |none=>none
     |.KV fl hd tl hs::r=>bif draw then (match wm P T fn.ntmps ops fl hd tl hs s with
      |some (s',ob)=>vo ob (run P T fn f K' s' r)
      |none=>none) else none
     |.any fl hs::r=>bif draw then (match wo P T fn.ntmps ops fl (sa ops fl) (tJ ops fl) hs s with
      |some (s',ob)=>vo ob (run P T fn f K' s' r)
      |none=>none) else none
     |_=>none
    |.seq a b=>run P T fn f (.code a :: .code b::K') s tr
    |.cond c x y=>match bL s.env c with
     |some (.pv (.bool b))=>match tr with
      |.dec d::r=>vo [b=d] (run P T fn f (.code (bif d then x else y)::K') s r)
      |.auto::r=>run P T fn f (.code (bif b then x else y)::K') s r
      |_=>none
     |_=>none
    |.block id c=>run P T fn f (.code c :: .tt id::K') s tr
    |.loop c=>run P T fn f (.mF c::K') s tr
    |.exit id=>match unwind id K' with
     |some Ll=>run P T fn f Ll s tr
     |none=>none
    |.ret=>finish T fn s
    |_=>none
section
variable {P:Program} {T:gi} {fn:Func} {Γ:Ctx} {R:Ending→World→Prop} {s s':St} {a:Act} {w:World}
theorem ll{c:List PanicEntry}{d:Option Tmp}{v:Value} : ∀(K:List dB),qI P fn R K (.panic c) (a.put d v) w→qI P fn R K (.panic c) a w
 |[],h=>⟨by rw[←put_defers a d v];exact h.1,h.2⟩
 |.code _::K,h=>ll K h
 |.tt _::K,h=>ll K h
 |.mF _::K,h=>ll K h
def rB(P:Program)(fn:Func)(Γ:Ctx)(R:Ending→World→Prop):Out→Prop
 |.done e s=>∀a w β I v,bK Γ s a w β I→RE β (aT s.aw) I w e v→R (.returned v) w
 |.loop K s=>Sat P fn Γ R K s
theorem pF(hT:jh P T){out:Out}{ob:List Prop}(h:finish T fn s=some (out,ob))(ho:rB P fn Γ R out)(hr:Rel Γ s a w):bodyPost P fn R .ret a w∧bodyPost P fn R .normal a w:=by
 unfold finish at h
 split at h
 ·rename_i es B4
  split at h
  ·rename_i e he
   injection h with h;injection h with h1 h2
   subst h1
   obtain⟨β,I,hr⟩:=hr
   obtain⟨v,h1,h2⟩:=uQ hT hr B4 he
   have:=ho a w β I v hr h2
   exact⟨⟨hr.defers,v,h1,this⟩,⟨hr.defers,v,h1,this⟩⟩
  ·cases h
 ·cases h
theorem jZ{ob:List Prop}{x:Option (Out×List Prop)}{out:Out}{JY:List Prop}(h:vo ob x=some (out,JY)):∃ob2,x=some (out,ob2)∧JY=ob++ob2:=by
 cases x with
 |none=>cases h
 |some y =>
  obtain⟨o,ob2⟩:=y
  injection h with h;injection h with h1 h2
  subst h1
  exact⟨ob2,rfl,h2.symm⟩
theorem nH(hm:P.follows .mixedOrders=true)(hT:jh P T)(hs:∀r,aT Γ.sin r→Γ.n≤r)(hn:Γ.n=fn.ntmps):∀(f:Nat) (K:List dB) (s:St) (tr:List TE) (out:Out) (ob:List Prop),
  run P T fn f K s tr=some (out,ob)→bV ob→rB P fn Γ R out→Sat P fn Γ R K s
 |0,_,_,_,_,_,h,_,_=>by cases h
 |f+1,K,s,tr,out,ob,h,bj,ho=>by
  intro a w hr
  have ih:=nH hm hT hs hn f
  unfold run at h
  split at h
  ·rename_i te r pG
   split at h
   ·rename_i s' Cc ay
    obtain⟨ob2,h2,rfl⟩:=jZ h
    obtain⟨g1,g2⟩:=bj.app
    exact ih K s' r out ob2 h2 g2 ho a w (wb hs hr (by rw[hn];exact ay) g1)
   ·cases h
  ·split at h
   ·exact(pF hT h ho hr).2
   ·rename_i id K'
    exact ih K' s tr out ob h bj ho a w hr
   ·rename_i c K'
    split at h
    ·injection h with h;injection h with h1 h2
     subst h1
     exact ho a w hr
    ·rename_i r _
     exact Sat.round (ih (.code c :: .mF c::K') s r out ob h bj ho) a w hr
    ·cases h
   ·rename_i c K'
    show c.wp P (qI P fn R K') a w
    split at h
    ·exact wp_skip (ih K' s tr out ob h bj ho a w hr)
    ·exact wp_label (ih K' s tr out ob h bj ho a w hr)
    ·rename_i id ops draw
     split at h
     ·rename_i Cy r _
      cases draw with
      |true=>cases h
      |false =>
       simp only[cond_false] at h
       split at h
       ·rename_i s' Cc ay
        obtain⟨ob2,h2,rfl⟩:=jZ h
        obtain⟨g1,g2⟩:=bj.app
        exact zi hT hs hr (by rw[hn];exact ay) g1 (fun a' w' bU=>ih K' s' r out ob2 h2 g2 ho a' w' bU)
       ·cases h
     ·rename_i fl hd tl Cy r _
      cases draw with
      |false=>cases h
      |true =>
       simp only[cond_true] at h
       split at h
       ·rename_i s' Cc ay
        obtain⟨ob2,h2,rfl⟩:=jZ h
        obtain⟨g1,g2⟩:=bj.app
        exact zy hm hT hs (fun c a w d v hq=>ll K' hq) hr (by rw[hn];exact ay) g1 (fun a' w' bU=>ih K' s' r out ob2 h2 g2 ho a' w' bU)
       ·cases h
     ·rename_i fl Cy r _
      cases draw with
      |false=>cases h
      |true =>
       simp only[cond_true] at h
       split at h
       ·rename_i s' Cc ay
        obtain⟨ob2,h2,rfl⟩:=jZ h
        obtain⟨g1,g2⟩:=bj.app
        exact uW hm hT hs (fun c a w d v hq=>ll K' hq) hr (by rw[hn];exact ay) g1 (fun a' w' bU=>ih K' s' r out ob2 h2 g2 ho a' w' bU)
       ·cases h
     ·cases h
    ·rename_i x y
     refine wp_seq ?_
     rw[show Exit.then (y.wp P (qI P fn R K')) (qI P fn R K')=qI P fn R (.code y::K') from then_eq]
     exact ih (.code x :: .code y::K') s tr out ob h bj ho a w hr
    ·rename_i c x y
     split at h
     ·rename_i b hb
      have hc:a.eval c = .bool b:=by
       obtain⟨β,I,bU⟩:=hr
       have hv:Rd I w (.bool b) (a.eval c):=bU.xb c _ hb
       generalize a.eval c=v at hv
       cases hv;rfl
      split at h
      ·rename_i d r _
       obtain⟨ob2,h2,rfl⟩:=jZ h
       obtain⟨g1,g2⟩:=bj.app
       have g1:b=d:=g1
       subst g1
       have:=ih (.code (bif b then x else y)::K') s r out ob2 h2 g2 ho a w hr
       refine wp_cond hc ?_
       cases b<;>exact this
      ·rename_i r _
       have:=ih (.code (bif b then x else y)::K') s r out ob h bj ho a w hr
       refine wp_cond hc ?_
       cases b<;>exact this
      ·cases h
     ·cases h
    ·rename_i id c
     refine wp_block ?_
     rw[CX]
     exact ih (.code c :: .tt id::K') s tr out ob h bj ho a w hr
    ·rename_i c
     exact Sat.loop (ih (.mF c::K') s tr out ob h bj ho) a w hr
    ·rename_i id
     split at h
     ·rename_i Ll hu
      exact wp_exit (lS hu (ih Ll s tr out ob h bj ho a w hr))
     ·cases h
    ·exact wp_ret (sv K' (pF hT h ho hr).1)
    ·cases h
def gY:Nat→List EV→Env
 |_,[]=>[]
 |k,e::es=>(k,e)::gY (k+1) es
theorem rC:∀(es:List EV) (k t:Nat) (e:EV),(gY k es).get t=some e→k≤t∧es[t-k]? = some e
 |[],k,t,e,h=>by simp[gY,Env.get] at h
 |x::es,k,t,e,h=>by
  simp only[gY,Env.get] at h
  cases hb:Nat.beq k t with
  |true =>
   have:k=t:=Nat.eq_of_beq_eq_true hb
   subst this
   simp only[hb,cond_true] at h
   simpa using h
  |false =>
   simp only[hb,cond_false] at h
   obtain⟨h1,h2⟩:=rC es (k+1) t e h
   refine⟨by omega,?_⟩
   rw[show t-k=(t-(k+1))+1 from by omega,List.getElem?_cons_succ]
   exact h2
theorem aq.of {f : FuncId} {c : Code} {args : List EV} {sin sout : aD} {r : EV} (hf : P.funcs[f]? = some fn) (hb : fn.body = some c) (Oi : (fn.name == "runtime.NumGoroutine") = false) (gn : args.length ≤ fn.ntmps) (Ir : fn.ntmps ≤ 999999)
    (h : ∀ Γ : Ctx, Γ.sin = sin → Γ.n = fn.ntmps → (∀ b, Γ.I0 b → b < Γ.w0.heap.size) → ph Γ.β0 Γ.I0 Γ.w0 Γ.sin → Sat P fn Γ (mN sin sout r Γ.β0 Γ.I0 Γ.w0) [.code c] ⟨gY 0 args, sin⟩) : aq P f args sin r sout := by
  refine ⟨⟨fn, hf, by rw [hb]; rfl, Oi⟩, fun I w β vs hI CW hl hv hy => ?_⟩
  have := h ⟨w, I, sin, β, fn.ntmps, Ir, hy⟩ rfl rfl hI CW { tmps := vs ++ Array.replicate (fn.ntmps - vs.size) undef, defers := [] } w ⟨β, I, ?_⟩
  · exact calls_of_wp hf hb this
  · refine ⟨fun t e he => ?_, CW, fun r _ _ _ => rfl, fun r b h1 h2 h3 => h2.elim (absurd h1) (fun h2 => .inr ⟨r, h2, h1, h3⟩), hI, fun b h => .inl h, gF.refl _ _, by simp; omega, rfl⟩
    obtain ⟨_, he⟩ := rC _ 0 t e he
    simp only [Nat.sub_zero] at he
    have ht : t < vs.size := by
      have := (List.getElem?_eq_some_iff.1 he).1
      omega
    have nY : (vs ++ Array.replicate (fn.ntmps - vs.size) undef).getD t undef = vs[t] := by
      simp [Array.getD_eq_getD_getElem?, Array.getElem?_append, ht]
    show RE β (aT sin) I w e ((vs ++ Array.replicate (fn.ntmps - vs.size) undef).getD t undef)
    rw [nY]
    exact hv t e vs[t] he (Array.getElem?_eq_getElem ht)
theorem rB.pure{p r:PV}(hs:Γ.sin=[])(hp:p=r):rB P fn Γ (mN [] [] (.pv r) Γ.β0 Γ.I0 Γ.w0) (.done (.pv p) s):=by
 subst hp
 intro a w β I v hr hv
 have sr:∀x,¬aT [] x:=fun x h=>jH h
 have hM:∀b,¬Γ.M b:=fun b ⟨x,hx,_⟩=>by rw[hs] at hx;exact sr x hx
 refine⟨v,β,rfl,fun x hx=>absurd hx (sr x),⟨hr.aB.os,hr.aB.tape,hr.aB.output,hr.aB.size,fun k hk _=>hr.aB.block k hk (hM k),hr.aB.shape,hr.aB.drawn⟩,nE _ _ _,?_,fun x b hx=>absurd hx (sr x)⟩
 exact Rd.mono hv (fun b hb=>(hr.ii b hb).imp id (fun h=>⟨by rw[←hs];exact h,fun x hx=>absurd hx (sr x)⟩)) (fun _ _ _=>rfl)
theorem rB.sites {r : EV} (hI : ∀ b, Γ.I0 b → b < Γ.w0.heap.size) (CW : ph Γ.β0 Γ.I0 Γ.w0 Γ.sin) (sZ : ∀ x, aT Γ.sin x → ¬ gv x → aT s.aw x) : rB P fn Γ (mN Γ.sin s.aw r Γ.β0 Γ.I0 Γ.w0) (.done r s) := by
  intro a w β I v hr hv
  have MM : ∀ b, I b → Γ.I0 b ∨ ((fresh Γ.w0 w b ∨ Br Γ.sin Γ.β0 b) ∧ ∀ x, aT s.aw x → β x ≠ some b) := fun b hb => (hr.ii b hb).imp id (fun h => ⟨h, fun x hx Es => by
    obtain ⟨sc, jP⟩ := Option.isSome_iff_exists.1 hx
    exact ((hr.aw.1 x sc jP).2 b Es).2 hb⟩)
  refine ⟨v, β, rfl, fun x hx hg => hr.par x (sZ x hx hg) hx hg, hr.aB, ⟨fun x sc hx => ?_, hr.aw.2⟩, hv.mono (fun _ _ => rfl) (fun _ h => h) MM (fun _ _ _ => rfl) (fun _ _ _ _ => rfl), fun x b hx hn hb => (hr.new x b hx (.inl hn) hb).imp (fun h => ⟨h, hr.lb x b hx hb⟩) id⟩
  obtain ⟨g1, g2⟩ := hr.aw.1 x sc hx
  have yE : aT s.aw x := by unfold aT; rw [hx]; rfl
  refine ⟨g1.mono rfl (fun _ _ => rfl) (fun _ _ => rfl) (fun _ h => h) MM (fun _ _ _ => rfl) (fun _ _ _ _ => rfl), fun b hb => ⟨(g2 b hb).1, fun mJ => ?_⟩⟩
  rcases mJ with mJ | ⟨_, mJ⟩
  · by_cases xK : aT Γ.sin x ∧ ¬ gv x
    · obtain ⟨Az, Hb⟩ := Option.isSome_iff_exists.1 xK.1
      exact ((CW.1 x Az Hb).2 b (by rw [← hr.par x yE xK.1 xK.2]; exact hb)).2 mJ
    · rcases hr.new x b yE (by by_cases h : aT Γ.sin x; · exact .inr (Classical.byContradiction fun h2 => xK ⟨h, h2⟩)
                               · exact .inl h) hb with h | ⟨y, _, hy1, KN⟩
      · have := hI b mJ; omega
      · obtain ⟨Az, Hb⟩ := Option.isSome_iff_exists.1 hy1
        exact ((CW.1 y Az Hb).2 b KN).2 mJ
  · exact mJ x yE hb
end
end Go.Proofs.YtnjhplhbmapclaaGreatDoor.Sym
