/- The comparison of algebraic numbers is a total order that agrees with the comparison with fractions. The law AlgebraicOrder returns true for every input, with the tables of numerals of the Go library that the row lists as they are laid. -/
import Derived.Test.YtllmkadmohkbfaaGreatDoorYSymV
namespace Go.Proofs.YtllmkadmohkbfaaGreatDoor.Sym
open Go Go.RowKit
inductive Out where
 |done (e:EV) (s:St)
 |loop (K:List eg) (s:St)
def Uc:TE→Bool
 |.aH _=>true
 |.drop _=>true
 |.fo _ _=>true
 |.OZ _ _ _=>true
 |.jM _ _ _=>true
 |.F9 _ _ _ _=>true
 |.cut _ _ _=>true
 |.ra _ _=>true
 |.ord _=>true
 |.rel _ _ _=>true
 |.He=>true
 |.NW=>true
 |.JT _ _ _=>true
 |_=>false
def Ud:List TE→Option (TE×List TE)
 |[]=>none
 |te::r=>bif Uc te then some (te,r) else none
def BG(ob:List Prop):Option (Out×List Prop)→Option (Out×List Prop)
 |some (o,ob2)=>some (o,ob++ob2)
 |none=>none
def finish(T:j0)(fn:Func)(s:St):Option (Out×List Prop) :=
 match zl T s fn.results.toList with
 |some es=>match Hd es with
  |some e=>some (.done e s,[])
  |none=>none
 |none=>none
def run(P:Program)(T:j0)(fn:Func):Nat→List eg→St→List TE→Option (Out×List Prop)
 |0,_,_,_=>none
 |f+1,K,s,tr =>
  match Ud tr with
  |some (te,r)=>match mI fn.ntmps s te with
   |some (s',ob)=>BG ob (run P T fn f K s' r)
   |none=>none
  |none=>match K with
   |[]=>finish T fn s
   |.zk _::K'=>run P T fn f K' s tr
   |.q8 c::K'=>match tr with
    |[]=>some (.loop (.q8 c::K') s,[])
    |.auto::r=>run P T fn f (.code c :: .q8 c::K') s r
    |_=>none
   |.code c::K'=>match c with
    |.skip=>run P T fn f K' s tr
    |.label _=>run P T fn f K' s tr
    |.region _ ops draw=>match tr with
     |.aV hs::r=>bif draw then none else match zj P T fn.ntmps ops ops.toList hs s with
      |some (s',ob)=>BG ob (run P T fn f K' s' r)
      |none=>none
     |.TQ fl hd tl hs::r=>bif draw then (match CL P T fn.ntmps ops fl hd tl hs s with
      |some (s',ob)=>BG ob (run P T fn f K' s' r)
      |none=>none) else none
     |.any fl hs::r=>bif draw then (match CM P T fn.ntmps ops fl (mf ops fl) (jN ops fl) hs s with
      |some (s',ob)=>BG ob (run P T fn f K' s' r)
      |none=>none) else none
     |_=>none
    |.seq a b=>run P T fn f (.code a :: .code b::K') s tr
    |.cond c x y=>match cZ s.env c with
     |some (.pv (.bool b))=>match tr with
      |.dec d::r=>BG [b=d] (run P T fn f (.code (bif d then x else y)::K') s r)
      |.auto::r=>run P T fn f (.code (bif b then x else y)::K') s r
      |_=>none
     |_=>none
    |.block id c=>run P T fn f (.code c :: .zk id::K') s tr
    |.loop c=>run P T fn f (.q8 c::K') s tr
    |.exit id=>match unwind id K' with
     |some Ue=>run P T fn f Ue s tr
     |none=>none
    |.ret=>finish T fn s
    |_=>none
section
variable {P:Program} {T:j0} {fn:Func} {Γ:Ctx} {R:Ending→World→Prop} {s s':St} {a:Act} {w:World}
theorem pA{c:List PanicEntry}{d:Option Tmp}{v:Value} : ∀(K:List eg),wi P fn R K (.panic c) (a.put d v) w→wi P fn R K (.panic c) a w
 |[],h=>⟨by rw[←put_defers a d v];exact h.1,h.2⟩
 |.code _::K,h=>pA K h
 |.zk _::K,h=>pA K h
 |.q8 _::K,h=>pA K h
def xn(P:Program)(fn:Func)(Γ:Ctx)(R:Ending→World→Prop):Out→Prop
 |.done e s=>∀a w β I v,dh Γ s a w β I→RE β (bM s.aG) I w e v→R (.returned v) w
 |.loop K s=>Sat P fn Γ R K s
theorem uX(hT:mC P T){out:Out}{ob:List Prop}(h:finish T fn s=some (out,ob))(ho:xn P fn Γ R out)(hr:Rel Γ s a w):bodyPost P fn R .ret a w∧bodyPost P fn R .normal a w:=by
 unfold finish at h
 split at h
 ·rename_i es MD
  split at h
  ·rename_i e he
   injection h with h;injection h with h1 h2
   subst h1
   obtain⟨β,I,hr⟩:=hr
   obtain⟨v,h1,h2⟩:=A8 hT hr MD he
   have:=ho a w β I v hr h2
   exact⟨⟨hr.defers,v,h1,this⟩,⟨hr.defers,v,h1,this⟩⟩
  ·cases h
 ·cases h
theorem ny{ob:List Prop}{x:Option (Out×List Prop)}{out:Out}{SM:List Prop}(h:BG ob x=some (out,SM)):∃ob2,x=some (out,ob2)∧SM=ob++ob2:=by
 cases x with
 |none=>cases h
 |some y =>
  obtain⟨o,ob2⟩:=y
  injection h with h;injection h with h1 h2
  subst h1
  exact⟨ob2,rfl,h2.symm⟩
theorem sv(hm:P.follows .mixedOrders=true)(hT:mC P T)(hs:∀r,bM Γ.sin r→Γ.n≤r)(hn:Γ.n=fn.ntmps):∀(f:Nat) (K:List eg) (s:St) (tr:List TE) (out:Out) (ob:List Prop),
  run P T fn f K s tr=some (out,ob)→dA ob→xn P fn Γ R out→Sat P fn Γ R K s
 |0,_,_,_,_,_,h,_,_=>by cases h
 |f+1,K,s,tr,out,ob,h,cb,ho=>by
  intro a w hr
  have ih:=sv hm hT hs hn f
  unfold run at h
  split at h
  ·rename_i te r uY
   split at h
   ·rename_i s' Jc aI
    obtain⟨ob2,h2,rfl⟩:=ny h
    obtain⟨g1,g2⟩:=cb.app
    exact ih K s' r out ob2 h2 g2 ho a w (CC hs hr (by rw[hn];exact aI) g1)
   ·cases h
  ·split at h
   ·exact(uX hT h ho hr).2
   ·rename_i id K'
    exact ih K' s tr out ob h cb ho a w hr
   ·rename_i c K'
    split at h
    ·injection h with h;injection h with h1 h2
     subst h1
     exact ho a w hr
    ·rename_i r _
     exact Sat.round (ih (.code c :: .q8 c::K') s r out ob h cb ho) a w hr
    ·cases h
   ·rename_i c K'
    show c.wp P (wi P fn R K') a w
    split at h
    ·exact wp_skip (ih K' s tr out ob h cb ho a w hr)
    ·exact wp_label (ih K' s tr out ob h cb ho a w hr)
    ·rename_i id ops draw
     split at h
     ·rename_i Io r _
      cases draw with
      |true=>cases h
      |false =>
       simp only[cond_false] at h
       split at h
       ·rename_i s' Jc aI
        obtain⟨ob2,h2,rfl⟩:=ny h
        obtain⟨g1,g2⟩:=cb.app
        exact F7 hT hs hr (by rw[hn];exact aI) g1 (fun a' w' dG=>ih K' s' r out ob2 h2 g2 ho a' w' dG)
       ·cases h
     ·rename_i fl hd tl Io r _
      cases draw with
      |false=>cases h
      |true =>
       simp only[cond_true] at h
       split at h
       ·rename_i s' Jc aI
        obtain⟨ob2,h2,rfl⟩:=ny h
        obtain⟨g1,g2⟩:=cb.app
        exact Gh hm hT hs (fun c a w d v hq=>pA K' hq) hr (by rw[hn];exact aI) g1 (fun a' w' dG=>ih K' s' r out ob2 h2 g2 ho a' w' dG)
       ·cases h
     ·rename_i fl Io r _
      cases draw with
      |false=>cases h
      |true =>
       simp only[cond_true] at h
       split at h
       ·rename_i s' Jc aI
        obtain⟨ob2,h2,rfl⟩:=ny h
        obtain⟨g1,g2⟩:=cb.app
        exact Bc hm hT hs (fun c a w d v hq=>pA K' hq) hr (by rw[hn];exact aI) g1 (fun a' w' dG=>ih K' s' r out ob2 h2 g2 ho a' w' dG)
       ·cases h
     ·cases h
    ·rename_i x y
     refine wp_seq ?_
     rw[show Exit.then (y.wp P (wi P fn R K')) (wi P fn R K')=wi P fn R (.code y::K') from then_eq]
     exact ih (.code x :: .code y::K') s tr out ob h cb ho a w hr
    ·rename_i c x y
     split at h
     ·rename_i b hb
      have hc:a.eval c = .bool b:=by
       obtain⟨β,I,dG⟩:=hr
       have hv:Rd I w (.bool b) (a.eval c):=dG.DN c _ hb
       generalize a.eval c=v at hv
       cases hv;rfl
      split at h
      ·rename_i d r _
       obtain⟨ob2,h2,rfl⟩:=ny h
       obtain⟨g1,g2⟩:=cb.app
       have g1:b=d:=g1
       subst g1
       have:=ih (.code (bif b then x else y)::K') s r out ob2 h2 g2 ho a w hr
       refine wp_cond hc ?_
       cases b<;>exact this
      ·rename_i r _
       have:=ih (.code (bif b then x else y)::K') s r out ob h cb ho a w hr
       refine wp_cond hc ?_
       cases b<;>exact this
      ·cases h
     ·cases h
    ·rename_i id c
     refine wp_block ?_
     rw[JS]
     exact ih (.code c :: .zk id::K') s tr out ob h cb ho a w hr
    ·rename_i c
     exact Sat.loop (ih (.q8 c::K') s tr out ob h cb ho) a w hr
    ·rename_i id
     split at h
     ·rename_i Ue hu
      exact wp_exit (qc hu (ih Ue s tr out ob h cb ho a w hr))
     ·cases h
    ·exact wp_ret (yg K' (uX hT h ho hr).1)
    ·cases h
def kQ:Nat→List EV→Env
 |_,[]=>[]
 |k,e::es=>(k,e)::kQ (k+1) es
theorem xo:∀(es:List EV) (k t:Nat) (e:EV),(kQ k es).get t=some e→k≤t∧es[t-k]? = some e
 |[],k,t,e,h=>by simp[kQ,Env.get] at h
 |x::es,k,t,e,h=>by
  simp only[kQ,Env.get] at h
  cases hb:Nat.beq k t with
  |true =>
   have:k=t:=Nat.eq_of_beq_eq_true hb
   subst this
   simp only[hb,cond_true] at h
   simpa using h
  |false =>
   simp only[hb,cond_false] at h
   obtain⟨h1,h2⟩:=xo es (k+1) t e h
   refine⟨by omega,?_⟩
   rw[show t-k=(t-(k+1))+1 from by omega,List.getElem?_cons_succ]
   exact h2
theorem av.of {f : FuncId} {c : Code} {args : List EV} {sin sout : aS} {r : EV} (hf : P.funcs[f]? = some fn) (hb : fn.body = some c) (XG : (fn.name == "runtime.NumGoroutine") = false) (kF : args.length ≤ fn.ntmps) (Eg : fn.ntmps ≤ 999999)
    (h : ∀ Γ : Ctx, Γ.sin = sin → Γ.n = fn.ntmps → (∀ b, Γ.I0 b → b < Γ.w0.heap.size) → uI Γ.β0 Γ.I0 Γ.w0 Γ.sin → Sat P fn Γ (rh sin sout r Γ.β0 Γ.I0 Γ.w0) [.code c] ⟨kQ 0 args, sin⟩) : av P f args sin r sout := by
  refine ⟨⟨fn, hf, by rw [hb]; rfl, XG⟩, fun I w β vs hI JR hl hv => ?_⟩
  have := h ⟨w, I, sin, β, fn.ntmps, Eg⟩ rfl rfl hI JR { tmps := vs ++ Array.replicate (fn.ntmps - vs.size) undef, defers := [] } w ⟨β, I, ?_⟩
  · exact calls_of_wp hf hb this
  · refine ⟨fun t e he => ?_, JR, fun r _ _ _ => rfl, fun r b h1 h2 h3 => h2.elim (absurd h1) (fun h2 => .inr ⟨r, h2, h1, h3⟩), hI, fun b h => .inl h, kx.refl _ _, by simp; omega, rfl⟩
    obtain ⟨_, he⟩ := xo _ 0 t e he
    simp only [Nat.sub_zero] at he
    have ht : t < vs.size := by
      have := (List.getElem?_eq_some_iff.1 he).1
      omega
    have s5 : (vs ++ Array.replicate (fn.ntmps - vs.size) undef).getD t undef = vs[t] := by
      simp [Array.getD_eq_getD_getElem?, Array.getElem?_append, ht]
    show RE β (bM sin) I w e ((vs ++ Array.replicate (fn.ntmps - vs.size) undef).getD t undef)
    rw [s5]
    exact hv t e vs[t] he (Array.getElem?_eq_getElem ht)
theorem xn.pure{p r:PV}(hs:Γ.sin=[])(hp:p=r):xn P fn Γ (rh [] [] (.pv r) Γ.β0 Γ.I0 Γ.w0) (.done (.pv p) s):=by
 subst hp
 intro a w β I v hr hv
 have ye:∀x,¬bM [] x:=fun x h=>pZ h
 have hM:∀b,¬Γ.M b:=fun b ⟨x,hx,_⟩=>by rw[hs] at hx;exact ye x hx
 refine⟨v,β,rfl,fun x hx=>absurd hx (ye x),⟨hr.aH.os,hr.aH.tape,hr.aH.output,hr.aH.size,fun k hk _=>hr.aH.block k hk (hM k),hr.aH.shape,hr.aH.drawn⟩,sq _ _ _,?_,fun x b hx=>absurd hx (ye x)⟩
 exact Rd.mono hv (fun b hb=>(hr.ii b hb).imp id (fun h=>⟨by rw[←hs];exact h,fun x hx=>absurd hx (ye x)⟩)) (fun _ _ _=>rfl)
theorem xn.sites {r : EV} (hI : ∀ b, Γ.I0 b → b < Γ.w0.heap.size) (JR : uI Γ.β0 Γ.I0 Γ.w0 Γ.sin) (yO : ∀ x, bM Γ.sin x → ¬ gv x → bM s.aG x) : xn P fn Γ (rh Γ.sin s.aG r Γ.β0 Γ.I0 Γ.w0) (.done r s) := by
  intro a w β I v hr hv
  have Wc : ∀ b, I b → Γ.I0 b ∨ ((fresh Γ.w0 w b ∨ Ir Γ.sin Γ.β0 b) ∧ ∀ x, bM s.aG x → β x ≠ some b) := fun b hb => (hr.ii b hb).imp id (fun h => ⟨h, fun x hx L6 => by
    obtain ⟨sc, nY⟩ := Option.isSome_iff_exists.1 hx
    exact ((hr.aG.1 x sc nY).2 b L6).2 hb⟩)
  refine ⟨v, β, rfl, fun x hx hg => hr.par x (yO x hx hg) hx hg, hr.aH, ⟨fun x sc hx => ?_, hr.aG.2⟩, hv.mono (fun _ _ => rfl) (fun _ h => h) Wc (fun _ _ _ => rfl) (fun _ _ _ _ => rfl), fun x b hx hn hb => (hr.new x b hx (.inl hn) hb).imp (fun h => ⟨h, hr.lb x b hx hb⟩) id⟩
  obtain ⟨g1, g2⟩ := hr.aG.1 x sc hx
  have Fu : bM s.aG x := by unfold bM; rw [hx]; rfl
  refine ⟨g1.mono rfl (fun _ _ => rfl) (fun _ _ => rfl) (fun _ h => h) Wc (fun _ _ _ => rfl) (fun _ _ _ _ => rfl), fun b hb => ⟨(g2 b hb).1, fun sk => ?_⟩⟩
  rcases sk with sk | ⟨_, sk⟩
  · by_cases Eh : bM Γ.sin x ∧ ¬ gv x
    · obtain ⟨Hb, O8⟩ := Option.isSome_iff_exists.1 Eh.1
      exact ((JR.1 x Hb O8).2 b (by rw [← hr.par x Fu Eh.1 Eh.2]; exact hb)).2 sk
    · rcases hr.new x b Fu (by by_cases h : bM Γ.sin x; · exact .inr (Classical.byContradiction fun h2 => Eh ⟨h, h2⟩)
                               · exact .inl h) hb with h | ⟨y, _, Uf, TI⟩
      · have := hI b sk; omega
      · obtain ⟨Hb, O8⟩ := Option.isSome_iff_exists.1 Uf
        exact ((JR.1 y Hb O8).2 b TI).2 sk
  · exact sk x Fu hb
end
end Go.Proofs.YtllmkadmohkbfaaGreatDoor.Sym
