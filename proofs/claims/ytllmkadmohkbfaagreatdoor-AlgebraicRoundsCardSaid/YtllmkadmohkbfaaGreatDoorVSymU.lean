/- Lemmas for the statements of this seat. -/
import Derived.Test.YtllmkadmohkbfaaGreatDoorVSymV
namespace Go.Proofs.YtllmkadmohkbfaaGreatDoor.Sym
open Go Go.RowKit
inductive Out where
 |done (e:EV) (s:St)
 |loop (K:List eH) (s:St)
def Wn:TE→Bool
 |.aF _=>true
 |.drop _=>true
 |.fW _ _=>true
 |.Q3 _ _ _=>true
 |.kx _ _ _=>true
 |.HW _ _ _ _=>true
 |.cut _ _ _=>true
 |.sV _ _=>true
 |.ord _=>true
 |.rel _ _ _=>true
 |.Jd=>true
 |.PS=>true
 |.LV _ _ _=>true
 |_=>false
def Wo:List TE→Option (TE×List TE)
 |[]=>none
 |te::r=>bif Wn te then some (te,r) else none
def De(ob:List Prop):Option (Out×List Prop)→Option (Out×List Prop)
 |some (o,ob2)=>some (o,ob++ob2)
 |none=>none
def finish(T:kL)(fn:Func)(s:St):Option (Out×List Prop) :=
 match A7 T s fn.results.toList with
 |some es=>match Jc es with
  |some e=>some (.done e s,[])
  |none=>none
 |none=>none
def run(P:Program)(T:kL)(fn:Func):Nat→List eH→St→List TE→Option (Out×List Prop)
 |0,_,_,_=>none
 |f+1,K,s,tr =>
  match Wo tr with
  |some (te,r)=>match nR fn.ntmps s te with
   |some (s',ob)=>De ob (run P T fn f K s' r)
   |none=>none
  |none=>match K with
   |[]=>finish T fn s
   |.A6 _::K'=>run P T fn f K' s tr
   |.sQ c::K'=>match tr with
    |[]=>some (.loop (.sQ c::K') s,[])
    |.auto::r=>run P T fn f (.code c :: .sQ c::K') s r
    |_=>none
   |.code c::K'=>match c with
    |.skip=>run P T fn f K' s tr
    |.label _=>run P T fn f K' s tr
    |.region _ ops draw=>match tr with
     |.aR hs::r=>bif draw then none else match A5 P T fn.ntmps ops ops.toList hs s with
      |some (s',ob)=>De ob (run P T fn f K' s' r)
      |none=>none
     |.VY fl hd tl hs::r=>bif draw then (match Eh P T fn.ntmps ops fl hd tl hs s with
      |some (s',ob)=>De ob (run P T fn f K' s' r)
      |none=>none) else none
     |.any fl hs::r=>bif draw then (match Ei P T fn.ntmps ops fl (np ops fl) (ky ops fl) hs s with
      |some (s',ob)=>De ob (run P T fn f K' s' r)
      |none=>none) else none
     |_=>none
    |.seq a b=>run P T fn f (.code a :: .code b::K') s tr
    |.cond c x y=>match dw s.env c with
     |some (.pv (.bool b))=>match tr with
      |.dec d::r=>De [b=d] (run P T fn f (.code (bif d then x else y)::K') s r)
      |.auto::r=>run P T fn f (.code (bif b then x else y)::K') s r
      |_=>none
     |_=>none
    |.block id c=>run P T fn f (.code c :: .A6 id::K') s tr
    |.loop c=>run P T fn f (.sQ c::K') s tr
    |.exit id=>match unwind id K' with
     |some Wp=>run P T fn f Wp s tr
     |none=>none
    |.ret=>finish T fn s
    |_=>none
section
variable {P:Program} {T:kL} {fn:Func} {Γ:Ctx} {R:Ending→World→Prop} {s s':St} {a:Act} {w:World}
theorem qW{c:List PanicEntry}{d:Option Tmp}{v:Value} : ∀(K:List eH),xQ P fn R K (.panic c) (a.put d v) w→xQ P fn R K (.panic c) a w
 |[],h=>⟨by rw[←put_defers a d v];exact h.1,h.2⟩
 |.code _::K,h=>qW K h
 |.A6 _::K,h=>qW K h
 |.sQ _::K,h=>qW K h
def yR(P:Program)(fn:Func)(Γ:Ctx)(R:Ending→World→Prop):Out→Prop
 |.done e s=>∀a w β I v,dD Γ s a w β I→RE β (bS s.aG) I w e v→R (.returned v) w
 |.loop K s=>Sat P fn Γ R K s
theorem wG(hT:nM P T){out:Out}{ob:List Prop}(h:finish T fn s=some (out,ob))(ho:yR P fn Γ R out)(hr:Rel Γ s a w):bodyPost P fn R .ret a w∧bodyPost P fn R .normal a w:=by
 unfold finish at h
 split at h
 ·rename_i es OD
  split at h
  ·rename_i e he
   injection h with h;injection h with h1 h2
   subst h1
   obtain⟨β,I,hr⟩:=hr
   obtain⟨v,h1,h2⟩:=CH hT hr OD he
   have:=ho a w β I v hr h2
   exact⟨⟨hr.defers,v,h1,this⟩,⟨hr.defers,v,h1,this⟩⟩
  ·cases h
 ·cases h
theorem oJ{ob:List Prop}{x:Option (Out×List Prop)}{out:Out}{US:List Prop}(h:De ob x=some (out,US)):∃ob2,x=some (out,ob2)∧US=ob++ob2:=by
 cases x with
 |none=>cases h
 |some y =>
  obtain⟨o,ob2⟩:=y
  injection h with h;injection h with h1 h2
  subst h1
  exact⟨ob2,rfl,h2.symm⟩
theorem ua(hm:P.follows .mixedOrders=true)(hT:nM P T)(hs:∀r,bS Γ.sin r→Γ.n≤r)(hn:Γ.n=fn.ntmps):∀(f:Nat) (K:List eH) (s:St) (tr:List TE) (out:Out) (ob:List Prop),
  run P T fn f K s tr=some (out,ob)→dP ob→yR P fn Γ R out→Sat P fn Γ R K s
 |0,_,_,_,_,_,h,_,_=>by cases h
 |f+1,K,s,tr,out,ob,h,cr,ho=>by
  intro a w hr
  have ih:=ua hm hT hs hn f
  unfold run at h
  split at h
  ·rename_i te r wH
   split at h
   ·rename_i s' Le aI
    obtain⟨ob2,h2,rfl⟩:=oJ h
    obtain⟨g1,g2⟩:=cr.app
    exact ih K s' r out ob2 h2 g2 ho a w (D9 hs hr (by rw[hn];exact aI) g1)
   ·cases h
  ·split at h
   ·exact(wG hT h ho hr).2
   ·rename_i id K'
    exact ih K' s tr out ob h cr ho a w hr
   ·rename_i c K'
    split at h
    ·injection h with h;injection h with h1 h2
     subst h1
     exact ho a w hr
    ·rename_i r _
     exact Sat.round (ih (.code c :: .sQ c::K') s r out ob h cr ho) a w hr
    ·cases h
   ·rename_i c K'
    show c.wp P (xQ P fn R K') a w
    split at h
    ·exact wp_skip (ih K' s tr out ob h cr ho a w hr)
    ·exact wp_label (ih K' s tr out ob h cr ho a w hr)
    ·rename_i id ops draw
     split at h
     ·rename_i Kk r _
      cases draw with
      |true=>cases h
      |false =>
       simp only[cond_false] at h
       split at h
       ·rename_i s' Le aI
        obtain⟨ob2,h2,rfl⟩:=oJ h
        obtain⟨g1,g2⟩:=cr.app
        exact HU hT hs hr (by rw[hn];exact aI) g1 (fun a' w' eb=>ih K' s' r out ob2 h2 g2 ho a' w' eb)
       ·cases h
     ·rename_i fl hd tl Kk r _
      cases draw with
      |false=>cases h
      |true =>
       simp only[cond_true] at h
       split at h
       ·rename_i s' Le aI
        obtain⟨ob2,h2,rfl⟩:=oJ h
        obtain⟨g1,g2⟩:=cr.app
        exact H5 hm hT hs (fun c a w d v hq=>qW K' hq) hr (by rw[hn];exact aI) g1 (fun a' w' eb=>ih K' s' r out ob2 h2 g2 ho a' w' eb)
       ·cases h
     ·rename_i fl Kk r _
      cases draw with
      |false=>cases h
      |true =>
       simp only[cond_true] at h
       split at h
       ·rename_i s' Le aI
        obtain⟨ob2,h2,rfl⟩:=oJ h
        obtain⟨g1,g2⟩:=cr.app
        exact CL hm hT hs (fun c a w d v hq=>qW K' hq) hr (by rw[hn];exact aI) g1 (fun a' w' eb=>ih K' s' r out ob2 h2 g2 ho a' w' eb)
       ·cases h
     ·cases h
    ·rename_i x y
     refine wp_seq ?_
     rw[show Exit.then (y.wp P (xQ P fn R K')) (xQ P fn R K')=xQ P fn R (.code y::K') from then_eq]
     exact ih (.code x :: .code y::K') s tr out ob h cr ho a w hr
    ·rename_i c x y
     split at h
     ·rename_i b hb
      have hc:a.eval c = .bool b:=by
       obtain⟨β,I,eb⟩:=hr
       have hv:Rd I w (.bool b) (a.eval c):=eb.Fg c _ hb
       generalize a.eval c=v at hv
       cases hv;rfl
      split at h
      ·rename_i d r _
       obtain⟨ob2,h2,rfl⟩:=oJ h
       obtain⟨g1,g2⟩:=cr.app
       have g1:b=d:=g1
       subst g1
       have:=ih (.code (bif b then x else y)::K') s r out ob2 h2 g2 ho a w hr
       refine wp_cond hc ?_
       cases b<;>exact this
      ·rename_i r _
       have:=ih (.code (bif b then x else y)::K') s r out ob h cr ho a w hr
       refine wp_cond hc ?_
       cases b<;>exact this
      ·cases h
     ·cases h
    ·rename_i id c
     refine wp_block ?_
     rw[LU]
     exact ih (.code c :: .A6 id::K') s tr out ob h cr ho a w hr
    ·rename_i c
     exact Sat.loop (ih (.sQ c::K') s tr out ob h cr ho) a w hr
    ·rename_i id
     split at h
     ·rename_i Wp hu
      exact wp_exit (rJ hu (ih Wp s tr out ob h cr ho a w hr))
     ·cases h
    ·exact wp_ret (z7 K' (wG hT h ho hr).1)
    ·cases h
def lT:Nat→List EV→Env
 |_,[]=>[]
 |k,e::es=>(k,e)::lT (k+1) es
theorem yS:∀(es:List EV) (k t:Nat) (e:EV),(lT k es).get t=some e→k≤t∧es[t-k]? = some e
 |[],k,t,e,h=>by simp[lT,Env.get] at h
 |x::es,k,t,e,h=>by
  simp only[lT,Env.get] at h
  cases hb:Nat.beq k t with
  |true =>
   have:k=t:=Nat.eq_of_beq_eq_true hb
   subst this
   simp only[hb,cond_true] at h
   simpa using h
  |false =>
   simp only[hb,cond_false] at h
   obtain⟨h1,h2⟩:=yS es (k+1) t e h
   refine⟨by omega,?_⟩
   rw[show t-k=(t-(k+1))+1 from by omega,List.getElem?_cons_succ]
   exact h2
theorem av.of {f : FuncId} {c : Code} {args : List EV} {sin sout : aS} {r : EV} (hf : P.funcs[f]? = some fn) (hb : fn.body = some c) (ZR : (fn.name == "runtime.NumGoroutine") = false) (lI : args.length ≤ fn.ntmps) (CF : fn.ntmps ≤ 999999)
    (h : ∀ Γ : Ctx, Γ.sin = sin → Γ.n = fn.ntmps → (∀ b, Γ.I0 b → b < Γ.w0.heap.size) → wi Γ.β0 Γ.I0 Γ.w0 Γ.sin → Sat P fn Γ (sY sin sout r Γ.β0 Γ.I0 Γ.w0) [.code c] ⟨lT 0 args, sin⟩) : av P f args sin r sout := by
  refine ⟨⟨fn, hf, by rw [hb]; rfl, ZR⟩, fun I w β vs hI LS hl hv => ?_⟩
  have := h ⟨w, I, sin, β, fn.ntmps, CF⟩ rfl rfl hI LS { tmps := vs ++ Array.replicate (fn.ntmps - vs.size) undef, defers := [] } w ⟨β, I, ?_⟩
  · exact calls_of_wp hf hb this
  · refine ⟨fun t e he => ?_, LS, fun r _ _ _ => rfl, fun r b h1 h2 h3 => h2.elim (absurd h1) (fun h2 => .inr ⟨r, h2, h1, h3⟩), hI, fun b h => .inl h, ll.refl _ _, by simp; omega, rfl⟩
    obtain ⟨_, he⟩ := yS _ 0 t e he
    simp only [Nat.sub_zero] at he
    have ht : t < vs.size := by
      have := (List.getElem?_eq_some_iff.1 he).1
      omega
    have uG : (vs ++ Array.replicate (fn.ntmps - vs.size) undef).getD t undef = vs[t] := by
      simp [Array.getD_eq_getD_getElem?, Array.getElem?_append, ht]
    show RE β (bS sin) I w e ((vs ++ Array.replicate (fn.ntmps - vs.size) undef).getD t undef)
    rw [uG]
    exact hv t e vs[t] he (Array.getElem?_eq_getElem ht)
theorem yR.pure{p r:PV}(hs:Γ.sin=[])(hp:p=r):yR P fn Γ (sY [] [] (.pv r) Γ.β0 Γ.I0 Γ.w0) (.done (.pv p) s):=by
 subst hp
 intro a w β I v hr hv
 have zZ:∀x,¬bS [] x:=fun x h=>rG h
 have hM:∀b,¬Γ.M b:=fun b ⟨x,hx,_⟩=>by rw[hs] at hx;exact zZ x hx
 refine⟨v,β,rfl,fun x hx=>absurd hx (zZ x),⟨hr.aF.os,hr.aF.tape,hr.aF.output,hr.aF.size,fun k hk _=>hr.aF.block k hk (hM k),hr.aF.shape,hr.aF.drawn⟩,tW _ _ _,?_,fun x b hx=>absurd hx (zZ x)⟩
 exact Rd.mono hv (fun b hb=>(hr.ii b hb).imp id (fun h=>⟨by rw[←hs];exact h,fun x hx=>absurd hx (zZ x)⟩)) (fun _ _ _=>rfl)
theorem yR.sites {r : EV} (hI : ∀ b, Γ.I0 b → b < Γ.w0.heap.size) (LS : wi Γ.β0 Γ.I0 Γ.w0 Γ.sin) (AL : ∀ x, bS Γ.sin x → ¬ gv x → bS s.aG x) : yR P fn Γ (sY Γ.sin s.aG r Γ.β0 Γ.I0 Γ.w0) (.done r s) := by
  intro a w β I v hr hv
  have Yn : ∀ b, I b → Γ.I0 b ∨ ((fresh Γ.w0 w b ∨ Ko Γ.sin Γ.β0 b) ∧ ∀ x, bS s.aG x → β x ≠ some b) := fun b hb => (hr.ii b hb).imp id (fun h => ⟨h, fun x hx N1 => by
    obtain ⟨sc, pr⟩ := Option.isSome_iff_exists.1 hx
    exact ((hr.aG.1 x sc pr).2 b N1).2 hb⟩)
  refine ⟨v, β, rfl, fun x hx hg => hr.par x (AL x hx hg) hx hg, hr.aF, ⟨fun x sc hx => ?_, hr.aG.2⟩, hv.mono (fun _ _ => rfl) (fun _ h => h) Yn (fun _ _ _ => rfl) (fun _ _ _ _ => rfl), fun x b hx hn hb => (hr.new x b hx (.inl hn) hb).imp (fun h => ⟨h, hr.lb x b hx hb⟩) id⟩
  obtain ⟨g1, g2⟩ := hr.aG.1 x sc hx
  have Hk : bS s.aG x := by unfold bS; rw [hx]; rfl
  refine ⟨g1.mono rfl (fun _ _ => rfl) (fun _ _ => rfl) (fun _ h => h) Yn (fun _ _ _ => rfl) (fun _ _ _ _ => rfl), fun b hb => ⟨(g2 b hb).1, fun tU => ?_⟩⟩
  rcases tU with tU | ⟨_, tU⟩
  · by_cases FP : bS Γ.sin x ∧ ¬ gv x
    · obtain ⟨I9, Rc⟩ := Option.isSome_iff_exists.1 FP.1
      exact ((LS.1 x I9 Rc).2 b (by rw [← hr.par x Hk FP.1 FP.2]; exact hb)).2 tU
    · rcases hr.new x b Hk (by by_cases h : bS Γ.sin x; · exact .inr (Classical.byContradiction fun h2 => FP ⟨h, h2⟩)
                               · exact .inl h) hb with h | ⟨y, _, Wq, VR⟩
      · have := hI b tU; omega
      · obtain ⟨I9, Rc⟩ := Option.isSome_iff_exists.1 Wq
        exact ((LS.1 y I9 Rc).2 b VR).2 tU
  · exact tU x Hk hb
end
end Go.Proofs.YtllmkadmohkbfaaGreatDoor.Sym
