/- Lemmas for the statements of this seat. -/
import Derived.Test.YtfjfekodeplcoaaGreatWSymV
namespace Go.Proofs.YtfjfekodeplcoaaGreat.Sym
open Go Go.RowKit
inductive Out where
 |done (e:EV) (s:St)
 |loop (K:List dI) (s:St)
def QI:TE→Bool
 |.aH _=>true
 |.drop _=>true
 |.jM _ _=>true
 |.lQ _ _ _=>true
 |.oG _ _ _=>true
 |.nU _ _ _ _=>true
 |.cut _ _ _=>true
 |.Cw _ _=>true
 |.ord _=>true
 |.rel _ _ _=>true
 |.E1=>true
 |.KY=>true
 |.Hu _ _ _=>true
 |_=>false
def QJ:List TE→Option (TE×List TE)
 |[]=>none
 |te::r=>bif QI te then some (te,r) else none
def Ai(ob:List Prop):Option (Out×List Prop)→Option (Out×List Prop)
 |some (o,ob2)=>some (o,ob++ob2)
 |none=>none
def finish(T:jZ)(fn:Func)(s:St):Option (Out×List Prop) :=
 match x3 T s fn.results.toList with
 |some es=>match E0 es with
  |some e=>some (.done e s,[])
  |none=>none
 |none=>none
def run(P:Program)(T:jZ)(fn:Func):Nat→List dI→St→List TE→Option (Out×List Prop)
 |0,_,_,_=>none
 |f+1,K,s,tr =>
  match QJ tr with
  |some (te,r)=>match mR fn.ntmps s te with
   |some (s',ob)=>Ai ob (run P T fn f K s' r)
   |none=>none
  |none=>match K with
   |[]=>finish T fn s
   |.xZ _::K'=>run P T fn f K' s tr
   |.q7 c::K'=>match tr with
    |[]=>some (.loop (.q7 c::K') s,[])
    |.auto::r=>run P T fn f (.code c :: .q7 c::K') s r
    |_=>none
   |.code c::K'=>match c with
    |.skip=>run P T fn f K' s tr
    |.label _=>run P T fn f K' s tr
    |.region _ ops draw=>match tr with
     |.aQ hs::r=>bif draw then none else match xY P T fn.ntmps ops ops.toList hs s with
      |some (s',ob)=>Ai ob (run P T fn f K' s' r)
      |none=>none
     |.Qm fl hd tl hs::r=>bif draw then (match A0 P T fn.ntmps ops fl hd tl hs s with
      |some (s',ob)=>Ai ob (run P T fn f K' s' r)
      |none=>none) else none
     |.any fl hs::r=>bif draw then (match A1 P T fn.ntmps ops fl (nq ops fl) (kZ ops fl) hs s with
      |some (s',ob)=>Ai ob (run P T fn f K' s' r)
      |none=>none) else none
     |_=>none
    |.seq a b=>run P T fn f (.code a :: .code b::K') s tr
    |.cond c x y=>match c9 s.env c with
     |some (.pv (.bool b))=>match tr with
      |.dec d::r=>Ai [b=d] (run P T fn f (.code (bif d then x else y)::K') s r)
      |.auto::r=>run P T fn f (.code (bif b then x else y)::K') s r
      |_=>none
     |_=>none
    |.block id c=>run P T fn f (.code c :: .xZ id::K') s tr
    |.loop c=>run P T fn f (.q7 c::K') s tr
    |.exit id=>match unwind id K' with
     |some QK=>run P T fn f QK s tr
     |none=>none
    |.ret=>finish T fn s
    |_=>none
section
variable {P:Program} {T:jZ} {fn:Func} {Γ:Ctx} {R:Ending→World→Prop} {s s':St} {a:Act} {w:World}
theorem pT{c:List PanicEntry}{d:Option Tmp}{v:Value} : ∀(K:List dI),vg P fn R K (.panic c) (a.put d v) w→vg P fn R K (.panic c) a w
 |[],h=>⟨by rw[←put_defers a d v];exact h.1,h.2⟩
 |.code _::K,h=>pT K h
 |.xZ _::K,h=>pT K h
 |.q7 _::K,h=>pT K h
def wb(P:Program)(fn:Func)(Γ:Ctx)(R:Ending→World→Prop):Out→Prop
 |.done e s=>∀a w β I v,cO Γ s a w β I→RE β (bk s.sto) I w e v→R (.returned v) w
 |.loop K s=>Sat P fn Γ R K s
theorem uv(hT:mN P T){out:Out}{ob:List Prop}(h:finish T fn s=some (out,ob))(ho:wb P fn Γ R out)(hr:Rel Γ s a w):bodyPost P fn R .ret a w∧bodyPost P fn R .normal a w:=by
 unfold finish at h
 split at h
 ·rename_i es GA
  split at h
  ·rename_i e he
   injection h with h;injection h with h1 h2
   subst h1
   obtain⟨β,I,hr⟩:=hr
   obtain⟨v,h1,h2⟩:=zC hT hr GA he
   have:=ho a w β I v hr h2
   exact⟨⟨hr.defers,v,h1,this⟩,⟨hr.defers,v,h1,this⟩⟩
  ·cases h
 ·cases h
theorem nW{ob:List Prop}{x:Option (Out×List Prop)}{out:Out}{Pf:List Prop}(h:Ai ob x=some (out,Pf)):∃ob2,x=some (out,ob2)∧Pf=ob++ob2:=by
 cases x with
 |none=>cases h
 |some y =>
  obtain⟨o,ob2⟩:=y
  injection h with h;injection h with h1 h2
  subst h1
  exact⟨ob2,rfl,h2.symm⟩
theorem r8(hm:P.follows .mixedOrders=true)(hT:mN P T)(hs:∀r,bk Γ.sin r→Γ.n≤r)(hn:Γ.n=fn.ntmps):∀(f:Nat) (K:List dI) (s:St) (tr:List TE) (out:Out) (ob:List Prop),
  run P T fn f K s tr=some (out,ob)→dw ob→wb P fn Γ R out→Sat P fn Γ R K s
 |0,_,_,_,_,_,h,_,_=>by cases h
 |f+1,K,s,tr,out,ob,h,cd,ho=>by
  intro a w hr
  have ih:=r8 hm hT hs hn f
  unfold run at h
  split at h
  ·rename_i te r zI
   split at h
   ·rename_i s' GK aP
    obtain⟨ob2,h2,rfl⟩:=nW h
    obtain⟨g1,g2⟩:=cd.app
    exact ih K s' r out ob2 h2 g2 ho a w (AS hs hr (by rw[hn];exact aP) g1)
   ·cases h
  ·split at h
   ·exact(uv hT h ho hr).2
   ·rename_i id K'
    exact ih K' s tr out ob h cd ho a w hr
   ·rename_i c K'
    split at h
    ·injection h with h;injection h with h1 h2
     subst h1
     exact ho a w hr
    ·rename_i r _
     exact Sat.round (ih (.code c :: .q7 c::K') s r out ob h cd ho) a w hr
    ·cases h
   ·rename_i c K'
    show c.wp P (vg P fn R K') a w
    split at h
    ·exact wp_skip (ih K' s tr out ob h cd ho a w hr)
    ·exact wp_label (ih K' s tr out ob h cd ho a w hr)
    ·rename_i id ops draw
     split at h
     ·rename_i G7 r _
      cases draw with
      |true=>cases h
      |false =>
       simp only[cond_false] at h
       split at h
       ·rename_i s' GK aP
        obtain⟨ob2,h2,rfl⟩:=nW h
        obtain⟨g1,g2⟩:=cd.app
        exact D5 hT hs hr (by rw[hn];exact aP) g1 (fun a' w' dx=>ih K' s' r out ob2 h2 g2 ho a' w' dx)
       ·cases h
     ·rename_i fl hd tl G7 r _
      cases draw with
      |false=>cases h
      |true =>
       simp only[cond_true] at h
       split at h
       ·rename_i s' GK aP
        obtain⟨ob2,h2,rfl⟩:=nW h
        obtain⟨g1,g2⟩:=cd.app
        exact Ee hm hT hs (fun c a w d v hq=>pT K' hq) hr (by rw[hn];exact aP) g1 (fun a' w' dx=>ih K' s' r out ob2 h2 g2 ho a' w' dx)
       ·cases h
     ·rename_i fl G7 r _
      cases draw with
      |false=>cases h
      |true =>
       simp only[cond_true] at h
       split at h
       ·rename_i s' GK aP
        obtain⟨ob2,h2,rfl⟩:=nW h
        obtain⟨g1,g2⟩:=cd.app
        exact zH hm hT hs (fun c a w d v hq=>pT K' hq) hr (by rw[hn];exact aP) g1 (fun a' w' dx=>ih K' s' r out ob2 h2 g2 ho a' w' dx)
       ·cases h
     ·cases h
    ·rename_i x y
     refine wp_seq ?_
     rw[show Exit.then (y.wp P (vg P fn R K')) (vg P fn R K')=vg P fn R (.code y::K') from then_eq]
     exact ih (.code x :: .code y::K') s tr out ob h cd ho a w hr
    ·rename_i c x y
     split at h
     ·rename_i b hb
      have hc:a.eval c = .bool b:=by
       obtain⟨β,I,dx⟩:=hr
       have hv:Rd I w (.bool b) (a.eval c):=dx.BW c _ hb
       generalize a.eval c=v at hv
       cases hv;rfl
      split at h
      ·rename_i d r _
       obtain⟨ob2,h2,rfl⟩:=nW h
       obtain⟨g1,g2⟩:=cd.app
       have g1:b=d:=g1
       subst g1
       have:=ih (.code (bif b then x else y)::K') s r out ob2 h2 g2 ho a w hr
       refine wp_cond hc ?_
       cases b<;>exact this
      ·rename_i r _
       have:=ih (.code (bif b then x else y)::K') s r out ob h cd ho a w hr
       refine wp_cond hc ?_
       cases b<;>exact this
      ·cases h
     ·cases h
    ·rename_i id c
     refine wp_block ?_
     rw[Ht]
     exact ih (.code c :: .xZ id::K') s tr out ob h cd ho a w hr
    ·rename_i c
     exact Sat.loop (ih (.q7 c::K') s tr out ob h cd ho) a w hr
    ·rename_i id
     split at h
     ·rename_i QK hu
      exact wp_exit (qt hu (ih QK s tr out ob h cd ho a w hr))
     ·cases h
    ·exact wp_ret (w6 K' (uv hT h ho hr).1)
    ·cases h
def k8:Nat→List EV→Env
 |_,[]=>[]
 |k,e::es=>(k,e)::k8 (k+1) es
theorem wc:∀(es:List EV) (k t:Nat) (e:EV),(k8 k es).get t=some e→k≤t∧es[t-k]? = some e
 |[],k,t,e,h=>by simp[k8,Env.get] at h
 |x::es,k,t,e,h=>by
  simp only[k8,Env.get] at h
  cases hb:Nat.beq k t with
  |true =>
   have:k=t:=Nat.eq_of_beq_eq_true hb
   subst this
   simp only[hb,cond_true] at h
   simpa using h
  |false =>
   simp only[hb,cond_false] at h
   obtain⟨h1,h2⟩:=wc es (k+1) t e h
   refine⟨by omega,?_⟩
   rw[show t-k=(t-(k+1))+1 from by omega,List.getElem?_cons_succ]
   exact h2
theorem aw.of {f : FuncId} {c : Code} {args : List EV} {sin sout : aN} {r : EV} (hf : P.funcs[f]? = some fn) (hb : fn.body = some c) (QL : (fn.name == "runtime.NumGoroutine") = false) (jo : args.length ≤ fn.ntmps) (JS : fn.ntmps ≤ 999999)
    (h : ∀ Γ : Ctx, Γ.sin = sin → Γ.n = fn.ntmps → (∀ b, Γ.I0 b → b < Γ.w0.heap.size) → tZ Γ.β0 Γ.I0 Γ.w0 Γ.sin → Sat P fn Γ (pJ sin sout r Γ.β0 Γ.I0 Γ.w0) [.code c] ⟨k8 0 args, sin⟩) : aw P f args sin r sout := by
  refine ⟨⟨fn, hf, by rw [hb]; rfl, QL⟩, fun I w β vs hI Co hl hv => ?_⟩
  have := h ⟨w, I, sin, β, fn.ntmps, JS⟩ rfl rfl hI Co { tmps := vs ++ Array.replicate (fn.ntmps - vs.size) undef, defers := [] } w ⟨β, I, ?_⟩
  · exact calls_of_wp hf hb this
  · refine ⟨fun t e he => ?_, Co, fun r _ _ _ => rfl, fun r b h1 h2 h3 => h2.elim (absurd h1) (fun h2 => .inr ⟨r, h2, h1, h3⟩), hI, fun b h => .inl h, gD.refl _ _, by simp; omega, rfl⟩
    obtain ⟨_, he⟩ := wc _ 0 t e he
    simp only [Nat.sub_zero] at he
    have ht : t < vs.size := by
      have := (List.getElem?_eq_some_iff.1 he).1
      omega
    have lZ : (vs ++ Array.replicate (fn.ntmps - vs.size) undef).getD t undef = vs[t] := by
      simp [Array.getD_eq_getD_getElem?, Array.getElem?_append, ht]
    show RE β (bk sin) I w e ((vs ++ Array.replicate (fn.ntmps - vs.size) undef).getD t undef)
    rw [lZ]
    exact hv t e vs[t] he (Array.getElem?_eq_getElem ht)
theorem wb.pure{p r:PV}(hs:Γ.sin=[])(hp:p=r):wb P fn Γ (pJ [] [] (.pv r) Γ.β0 Γ.I0 Γ.w0) (.done (.pv p) s):=by
 subst hp
 intro a w β I v hr hv
 have sN:∀x,¬bk [] x:=fun x h=>fY h
 have hM:∀b,¬Γ.M b:=fun b ⟨x,hx,_⟩=>by rw[hs] at hx;exact sN x hx
 refine⟨v,β,rfl,fun x hx=>absurd hx (sN x),⟨hr.aH.os,hr.aH.tape,hr.aH.output,hr.aH.size,fun k hk _=>hr.aH.block k hk (hM k),hr.aH.shape,hr.aH.drawn⟩,iw _ _ _,?_,fun x b hx=>absurd hx (sN x)⟩
 exact Rd.mono hv (fun b hb=>(hr.ii b hb).imp id (fun h=>⟨by rw[←hs];exact h,fun x hx=>absurd hx (sN x)⟩)) (fun _ _ _=>rfl)
theorem wb.sites {r : EV} (hI : ∀ b, Γ.I0 b → b < Γ.w0.heap.size) (Co : tZ Γ.β0 Γ.I0 Γ.w0 Γ.sin) (tf : ∀ x, bk Γ.sin x → ¬ gv x → bk s.sto x) : wb P fn Γ (pJ Γ.sin s.sto r Γ.β0 Γ.I0 Γ.w0) (.done r s) := by
  intro a w β I v hr hv
  have Sw : ∀ b, I b → Γ.I0 b ∨ ((fresh Γ.w0 w b ∨ BV Γ.sin Γ.β0 b) ∧ ∀ x, bk s.sto x → β x ≠ some b) := fun b hb => (hr.ii b hb).imp id (fun h => ⟨h, fun x hx FZ => by
    obtain ⟨sc, lO⟩ := Option.isSome_iff_exists.1 hx
    exact ((hr.sto.1 x sc lO).2 b FZ).2 hb⟩)
  refine ⟨v, β, rfl, fun x hx hg => hr.par x (tf x hx hg) hx hg, hr.aH, ⟨fun x sc hx => ?_, hr.sto.2⟩, hv.mono (fun _ _ => rfl) (fun _ h => h) Sw (fun _ _ _ => rfl) (fun _ _ _ _ => rfl), fun x b hx hn hb => (hr.new x b hx (.inl hn) hb).imp (fun h => ⟨h, hr.lb x b hx hb⟩) id⟩
  obtain ⟨g1, g2⟩ := hr.sto.1 x sc hx
  have wY : bk s.sto x := by unfold bk; rw [hx]; rfl
  refine ⟨g1.mono rfl (fun _ _ => rfl) (fun _ _ => rfl) (fun _ h => h) Sw (fun _ _ _ => rfl) (fun _ _ _ _ => rfl), fun b hb => ⟨(g2 b hb).1, fun rb => ?_⟩⟩
  rcases rb with rb | ⟨_, rb⟩
  · by_cases Cq : bk Γ.sin x ∧ ¬ gv x
    · obtain ⟨EX, L9⟩ := Option.isSome_iff_exists.1 Cq.1
      exact ((Co.1 x EX L9).2 b (by rw [← hr.par x wY Cq.1 Cq.2]; exact hb)).2 rb
    · rcases hr.new x b wY (by by_cases h : bk Γ.sin x; · exact .inr (Classical.byContradiction fun h2 => Cq ⟨h, h2⟩)
                               · exact .inl h) hb with h | ⟨y, _, Po, Ns⟩
      · have := hI b rb; omega
      · obtain ⟨EX, L9⟩ := Option.isSome_iff_exists.1 Po
        exact ((Co.1 y EX L9).2 b Ns).2 rb
  · exact rb x wY hb
end
end Go.Proofs.YtfjfekodeplcoaaGreat.Sym
