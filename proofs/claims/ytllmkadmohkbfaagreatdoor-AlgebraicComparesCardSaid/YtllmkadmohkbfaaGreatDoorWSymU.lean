/- Lemmas for the statements of this seat. -/
import Derived.Test.YtllmkadmohkbfaaGreatDoorWSymV
namespace Go.Proofs.YtllmkadmohkbfaaGreatDoor.Sym
open Go Go.RowKit
inductive Out where
 |done (e:EV) (s:St)
 |loop (K:List gC) (s:St)
def Zt:TE→Bool
 |.aP _=>true
 |.drop _=>true
 |.iZ _ _=>true
 |.UQ _ _ _=>true
 |.ju _ _ _=>true
 |.MI _ _ _ _=>true
 |.cut _ _ _=>true
 |.l7 _ _=>true
 |.ord _=>true
 |.rel _ _ _=>true
 |.N3=>true
 |.TU=>true
 |.Qx _ _ _=>true
 |_=>false
def Zu:List TE→Option (TE×List TE)
 |[]=>none
 |te::r=>bif Zt te then some (te,r) else none
def I1(ob:List Prop):Option (Out×List Prop)→Option (Out×List Prop)
 |some (o,ob2)=>some (o,ob++ob2)
 |none=>none
def finish(T:qU)(fn:Func)(s:St):Option (Out×List Prop) :=
 match GG T s fn.results.toList with
 |some es=>match N2 es with
  |some e=>some (.done e s,[])
  |none=>none
 |none=>none
def run(P:Program)(T:qU)(fn:Func):Nat→List gC→St→List TE→Option (Out×List Prop)
 |0,_,_,_=>none
 |f+1,K,s,tr =>
  match Zu tr with
  |some (te,r)=>match uq fn.ntmps s te with
   |some (s',ob)=>I1 ob (run P T fn f K s' r)
   |none=>none
  |none=>match K with
   |[]=>finish T fn s
   |.GF _::K'=>run P T fn f K' s tr
   |.zH c::K'=>match tr with
    |[]=>some (.loop (.zH c::K') s,[])
    |.auto::r=>run P T fn f (.code c :: .zH c::K') s r
    |_=>none
   |.code c::K'=>match c with
    |.skip=>run P T fn f K' s tr
    |.label _=>run P T fn f K' s tr
    |.region _ ops draw=>match tr with
     |.ba hs::r=>bif draw then none else match GD P T fn.ntmps ops ops.toList hs s with
      |some (s',ob)=>I1 ob (run P T fn f K' s' r)
      |none=>none
     |.Y7 fl hd tl hs::r=>bif draw then (match JL P T fn.ntmps ops fl hd tl hs s with
      |some (s',ob)=>I1 ob (run P T fn f K' s' r)
      |none=>none) else none
     |.any fl hs::r=>bif draw then (match JM P T fn.ntmps ops fl (kW ops fl) (iL ops fl) hs s with
      |some (s',ob)=>I1 ob (run P T fn f K' s' r)
      |none=>none) else none
     |_=>none
    |.seq a b=>run P T fn f (.code a :: .code b::K') s tr
    |.cond c x y=>match iq s.env c with
     |some (.pv (.bool b))=>match tr with
      |.dec d::r=>I1 [b=d] (run P T fn f (.code (bif d then x else y)::K') s r)
      |.auto::r=>run P T fn f (.code (bif b then x else y)::K') s r
      |_=>none
     |_=>none
    |.block id c=>run P T fn f (.code c :: .GF id::K') s tr
    |.loop c=>run P T fn f (.zH c::K') s tr
    |.exit id=>match unwind id K' with
     |some Zv=>run P T fn f Zv s tr
     |none=>none
    |.ret=>finish T fn s
    |_=>none
section
variable {P:Program} {T:qU} {fn:Func} {Γ:Ctx} {R:Ending→World→Prop} {s s':St} {a:Act} {w:World}
theorem xH{c:List PanicEntry}{d:Option Tmp}{v:Value} : ∀(K:List gC),D8 P fn R K (.panic c) (a.put d v) w→D8 P fn R K (.panic c) a w
 |[],h=>⟨by rw[←put_defers a d v];exact h.1,h.2⟩
 |.code _::K,h=>xH K h
 |.GF _::K,h=>xH K h
 |.zH _::K,h=>xH K h
def ET(P:Program)(fn:Func)(Γ:Ctx)(R:Ending→World→Prop):Out→Prop
 |.done e s=>∀a w β I v,iA Γ s a w β I→RE β (ee s.bp) I w e v→R (.returned v) w
 |.loop K s=>Sat P fn Γ R K s
theorem CX(hT:uj P T){out:Out}{ob:List Prop}(h:finish T fn s=some (out,ob))(ho:ET P fn Γ R out)(hr:Rel Γ s a w):bodyPost P fn R .ret a w∧bodyPost P fn R .normal a w:=by
 unfold finish at h
 split at h
 ·rename_i es SK
  split at h
  ·rename_i e he
   injection h with h;injection h with h1 h2
   subst h1
   obtain⟨β,I,hr⟩:=hr
   obtain⟨v,h1,h2⟩:=Io hT hr SK he
   have:=ho a w β I v hr h2
   exact⟨⟨hr.defers,v,h1,this⟩,⟨hr.defers,v,h1,this⟩⟩
  ·cases h
 ·cases h
theorem ve{ob:List Prop}{x:Option (Out×List Prop)}{out:Out}{X6:List Prop}(h:I1 ob x=some (out,X6)):∃ob2,x=some (out,ob2)∧X6=ob++ob2:=by
 cases x with
 |none=>cases h
 |some y =>
  obtain⟨o,ob2⟩:=y
  injection h with h;injection h with h1 h2
  subst h1
  exact⟨ob2,rfl,h2.symm⟩
theorem AN(hm:P.follows .mixedOrders=true)(hT:uj P T)(hs:∀r,ee Γ.sin r→Γ.n≤r)(hn:Γ.n=fn.ntmps):∀(f:Nat) (K:List gC) (s:St) (tr:List TE) (out:Out) (ob:List Prop),
  run P T fn f K s tr=some (out,ob)→je ob→ET P fn Γ R out→Sat P fn Γ R K s
 |0,_,_,_,_,_,h,_,_=>by cases h
 |f+1,K,s,tr,out,ob,h,fK,ho=>by
  intro a w hr
  have ih:=AN hm hT hs hn f
  unfold run at h
  split at h
  ·rename_i te r CY
   split at h
   ·rename_i s' PR bz
    obtain⟨ob2,h2,rfl⟩:=ve h
    obtain⟨g1,g2⟩:=fK.app
    exact ih K s' r out ob2 h2 g2 ho a w (JD hs hr (by rw[hn];exact bz) g1)
   ·cases h
  ·split at h
   ·exact(CX hT h ho hr).2
   ·rename_i id K'
    exact ih K' s tr out ob h fK ho a w hr
   ·rename_i c K'
    split at h
    ·injection h with h;injection h with h1 h2
     subst h1
     exact ho a w hr
    ·rename_i r _
     exact Sat.round (ih (.code c :: .zH c::K') s r out ob h fK ho) a w hr
    ·cases h
   ·rename_i c K'
    show c.wp P (D8 P fn R K') a w
    split at h
    ·exact wp_skip (ih K' s tr out ob h fK ho a w hr)
    ·exact wp_label (ih K' s tr out ob h fK ho a w hr)
    ·rename_i id ops draw
     split at h
     ·rename_i Jx r _
      cases draw with
      |true=>cases h
      |false =>
       simp only[cond_false] at h
       split at h
       ·rename_i s' PR bz
        obtain⟨ob2,h2,rfl⟩:=ve h
        obtain⟨g1,g2⟩:=fK.app
        exact MG hT hs hr (by rw[hn];exact bz) g1 (fun a' w' jn=>ih K' s' r out ob2 h2 g2 ho a' w' jn)
       ·cases h
     ·rename_i fl hd tl Jx r _
      cases draw with
      |false=>cases h
      |true =>
       simp only[cond_true] at h
       split at h
       ·rename_i s' PR bz
        obtain⟨ob2,h2,rfl⟩:=ve h
        obtain⟨g1,g2⟩:=fK.app
        exact MQ hm hT hs (fun c a w d v hq=>xH K' hq) hr (by rw[hn];exact bz) g1 (fun a' w' jn=>ih K' s' r out ob2 h2 g2 ho a' w' jn)
       ·cases h
     ·rename_i fl Jx r _
      cases draw with
      |false=>cases h
      |true =>
       simp only[cond_true] at h
       split at h
       ·rename_i s' PR bz
        obtain⟨ob2,h2,rfl⟩:=ve h
        obtain⟨g1,g2⟩:=fK.app
        exact It hm hT hs (fun c a w d v hq=>xH K' hq) hr (by rw[hn];exact bz) g1 (fun a' w' jn=>ih K' s' r out ob2 h2 g2 ho a' w' jn)
       ·cases h
     ·cases h
    ·rename_i x y
     refine wp_seq ?_
     rw[show Exit.then (y.wp P (D8 P fn R K')) (D8 P fn R K')=D8 P fn R (.code y::K') from then_eq]
     exact ih (.code x :: .code y::K') s tr out ob h fK ho a w hr
    ·rename_i c x y
     split at h
     ·rename_i b hb
      have hc:a.eval c = .bool b:=by
       obtain⟨β,I,jn⟩:=hr
       have hv:Rd I w (.bool b) (a.eval c):=jn.Ih c _ hb
       generalize a.eval c=v at hv
       cases hv;rfl
      split at h
      ·rename_i d r _
       obtain⟨ob2,h2,rfl⟩:=ve h
       obtain⟨g1,g2⟩:=fK.app
       have g1:b=d:=g1
       subst g1
       have:=ih (.code (bif b then x else y)::K') s r out ob2 h2 g2 ho a w hr
       refine wp_cond hc ?_
       cases b<;>exact this
      ·rename_i r _
       have:=ih (.code (bif b then x else y)::K') s r out ob h fK ho a w hr
       refine wp_cond hc ?_
       cases b<;>exact this
      ·cases h
     ·cases h
    ·rename_i id c
     refine wp_block ?_
     rw[Qw]
     exact ih (.code c :: .GF id::K') s tr out ob h fK ho a w hr
    ·rename_i c
     exact Sat.loop (ih (.zH c::K') s tr out ob h fK ho) a w hr
    ·rename_i id
     split at h
     ·rename_i Zv hu
      exact wp_exit (yr hu (ih Zv s tr out ob h fK ho a w hr))
     ·cases h
    ·exact wp_ret (FL K' (CX hT h ho hr).1)
    ·cases h
def rP:Nat→List EV→Env
 |_,[]=>[]
 |k,e::es=>(k,e)::rP (k+1) es
theorem EU:∀(es:List EV) (k t:Nat) (e:EV),(rP k es).get t=some e→k≤t∧es[t-k]? = some e
 |[],k,t,e,h=>by simp[rP,Env.get] at h
 |x::es,k,t,e,h=>by
  simp only[rP,Env.get] at h
  cases hb:Nat.beq k t with
  |true =>
   have:k=t:=Nat.eq_of_beq_eq_true hb
   subst this
   simp only[hb,cond_true] at h
   simpa using h
  |false =>
   simp only[hb,cond_false] at h
   obtain⟨h1,h2⟩:=EU es (k+1) t e h
   refine⟨by omega,?_⟩
   rw[show t-k=(t-(k+1))+1 from by omega,List.getElem?_cons_succ]
   exact h2
theorem av.of {f : FuncId} {c : Code} {args : List EV} {sin sout : cq} {r : EV} (hf : P.funcs[f]? = some fn) (hb : fn.body = some c) (hnm : (fn.name == "runtime.NumGoroutine") = false) (rD : args.length ≤ fn.ntmps) (zX : fn.ntmps ≤ 999999)
    (h : ∀ Γ : Ctx, Γ.sin = sin → Γ.n = fn.ntmps → (∀ b, Γ.I0 b → b < Γ.w0.heap.size) → CH Γ.β0 Γ.I0 Γ.w0 Γ.sin → Sat P fn Γ (zP sin sout r Γ.β0 Γ.I0 Γ.w0) [.code c] ⟨rP 0 args, sin⟩) : av P f args sin r sout := by
  refine ⟨⟨fn, hf, by rw [hb]; rfl, hnm⟩, fun I w β vs hI Qv hl hv => ?_⟩
  have := h ⟨w, I, sin, β, fn.ntmps, zX⟩ rfl rfl hI Qv { tmps := vs ++ Array.replicate (fn.ntmps - vs.size) undef, defers := [] } w ⟨β, I, ?_⟩
  · exact calls_of_wp hf hb this
  · refine ⟨fun t e he => ?_, Qv, fun r _ _ _ => rfl, fun r b h1 h2 h3 => h2.elim (absurd h1) (fun h2 => .inr ⟨r, h2, h1, h3⟩), hI, fun b h => .inl h, o8.refl _ _, by simp; omega, rfl⟩
    obtain ⟨_, he⟩ := EU _ 0 t e he
    simp only [Nat.sub_zero] at he
    have ht : t < vs.size := by
      have := (List.getElem?_eq_some_iff.1 he).1
      omega
    have Bb : (vs ++ Array.replicate (fn.ntmps - vs.size) undef).getD t undef = vs[t] := by
      simp [Array.getD_eq_getD_getElem?, Array.getElem?_append, ht]
    show RE β (ee sin) I w e ((vs ++ Array.replicate (fn.ntmps - vs.size) undef).getD t undef)
    rw [Bb]
    exact hv t e vs[t] he (Array.getElem?_eq_getElem ht)
theorem ET.pure{p r:PV}(hs:Γ.sin=[])(hp:p=r):ET P fn Γ (zP [] [] (.pv r) Γ.β0 Γ.I0 Γ.w0) (.done (.pv p) s):=by
 subst hp
 intro a w β I v hr hv
 have DY:∀x,¬ee [] x:=fun x h=>tE h
 have hM:∀b,¬Γ.M b:=fun b ⟨x,hx,_⟩=>by rw[hs] at hx;exact DY x hx
 refine⟨v,β,rfl,fun x hx=>absurd hx (DY x),⟨hr.aP.os,hr.aP.tape,hr.aP.output,hr.aP.size,fun k hk _=>hr.aP.block k hk (hM k),hr.aP.shape,hr.aP.drawn⟩,sW _ _ _,?_,fun x b hx=>absurd hx (DY x)⟩
 exact Rd.mono hv (fun b hb=>(hr.ii b hb).imp id (fun h=>⟨by rw[←hs];exact h,fun x hx=>absurd hx (DY x)⟩)) (fun _ _ _=>rfl)
theorem ET.sites {r : EV} (hI : ∀ b, Γ.I0 b → b < Γ.w0.heap.size) (Qv : CH Γ.β0 Γ.I0 Γ.w0 Γ.sin) (Gk : ∀ x, ee Γ.sin x → ¬ gv x → ee s.bp x) : ET P fn Γ (zP Γ.sin s.bp r Γ.β0 Γ.I0 Γ.w0) (.done r s) := by
  intro a w β I v hr hv
  have hII : ∀ b, I b → Γ.I0 b ∨ ((fresh Γ.w0 w b ∨ O4 Γ.sin Γ.β0 b) ∧ ∀ x, ee s.bp x → β x ≠ some b) := fun b hb => (hr.ii b hb).imp id (fun h => ⟨h, fun x hx Sc => by
    obtain ⟨sc, we⟩ := Option.isSome_iff_exists.1 hx
    exact ((hr.bp.1 x sc we).2 b Sc).2 hb⟩)
  refine ⟨v, β, rfl, fun x hx hg => hr.par x (Gk x hx hg) hx hg, hr.aP, ⟨fun x sc hx => ?_, hr.bp.2⟩, hv.mono (fun _ _ => rfl) (fun _ h => h) hII (fun _ _ _ => rfl) (fun _ _ _ _ => rfl), fun x b hx hn hb => (hr.new x b hx (.inl hn) hb).imp (fun h => ⟨h, hr.lb x b hx hb⟩) id⟩
  obtain ⟨g1, g2⟩ := hr.bp.1 x sc hx
  have Ma : ee s.bp x := by unfold ee; rw [hx]; rfl
  refine ⟨g1.mono rfl (fun _ _ => rfl) (fun _ _ => rfl) (fun _ h => h) hII (fun _ _ _ => rfl) (fun _ _ _ _ => rfl), fun b hb => ⟨(g2 b hb).1, fun ye => ?_⟩⟩
  rcases ye with ye | ⟨_, ye⟩
  · by_cases KX : ee Γ.sin x ∧ ¬ gv x
    · obtain ⟨NZ, UY⟩ := Option.isSome_iff_exists.1 KX.1
      exact ((Qv.1 x NZ UY).2 b (by rw [← hr.par x Ma KX.1 KX.2]; exact hb)).2 ye
    · rcases hr.new x b Ma (by by_cases h : ee Γ.sin x; · exact .inr (Classical.byContradiction fun h2 => KX ⟨h, h2⟩)
                               · exact .inl h) hb with h | ⟨y, _, Zw, Y0⟩
      · have := hI b ye; omega
      · obtain ⟨NZ, UY⟩ := Option.isSome_iff_exists.1 Zw
        exact ((Qv.1 y NZ UY).2 b Y0).2 ye
  · exact ye x Ma hb
end
end Go.Proofs.YtllmkadmohkbfaaGreatDoor.Sym
