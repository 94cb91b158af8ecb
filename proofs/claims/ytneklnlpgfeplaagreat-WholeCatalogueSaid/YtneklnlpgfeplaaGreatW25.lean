/- Lemmas for the statements of this seat. -/
import Derived.Test.YtneklnlpgfeplaaGreatW24
namespace Go.Proofs.YtneklnlpgfeplaaGreat.Sym
open Go Go.RowKit
inductive Out where
 |done (e:EV) (s:St)
 |loop (K:List eh) (s:St)
def V7:TE→Bool
 |.aW _=>true
 |.drop _=>true
 |.jz _ _=>true
 |.wC _ _ _=>true
 |.r9 _ _ _=>true
 |.oJ _ _ _ _=>true
 |.cut _ _ _=>true
 |.pH _ _=>true
 |.ord _=>true
 |.rel _ _ _=>true
 |.H0=>true
 |.Ot=>true
 |.Kp _ _ _=>true
 |.Sc _ _ _ _=>true
 |.Sd _ _ _=>true
 |.Se _ _=>true
 |_=>false
def Sy:List TE→Option (TE×List TE)
 |[]=>none
 |te::r=>bif V7 te then some (te,r) else none
def uP(ob:List Prop):Option (Out×List Prop)→Option (Out×List Prop)
 |some (o,ob2)=>some (o,ob++ob2)
 |none=>none
def finish(T:ja)(fn:Func)(s:St):Option (Out×List Prop) :=
 match wB T s fn.results.toList with
 |some es=>match Cz es with
  |some e=>some (.done e s,[])
  |none=>none
 |none=>none
def run(P:Program)(T:ja)(fn:Func):Nat→List eh→St→List TE→Option (Out×List Prop)
 |0,_,_,_=>none
 |f+1,K,s,tr =>
  match Sy tr with
  |some (te,r)=>match kj fn.ntmps s te with
   |some (s',ob)=>uP ob (run P T fn f K s' r)
   |none=>none
  |none=>match K with
   |[]=>finish T fn s
   |.rk _::K'=>run P T fn f K' s tr
   |.lJ c::K'=>match tr with
    |[]=>some (.loop (.lJ c::K') s,[])
    |.auto::r=>run P T fn f (.code c :: .lJ c::K') s r
    |_=>none
   |.code c::K'=>match c with
    |.skip=>run P T fn f K' s tr
    |.label _=>run P T fn f K' s tr
    |.region _ ops draw=>match tr with
     |.bx hs::r=>bif draw then none else match oI P T fn.ntmps ops ops.toList hs s with
      |some (s',ob)=>uP ob (run P T fn f K' s' r)
      |none=>none
     |.Sb fl hd tl hs::r=>bif draw then (match DL P T fn.ntmps ops fl hd tl hs s with
      |some (s',ob)=>uP ob (run P T fn f K' s' r)
      |none=>none) else none
     |.any fl hs::r=>bif draw then (match ud P T fn.ntmps ops fl (sC ops fl) (uO ops fl) hs s with
      |some (s',ob)=>uP ob (run P T fn f K' s' r)
      |none=>none) else none
     |_=>none
    |.seq a b=>run P T fn f (.code a :: .code b::K') s tr
    |.cond c x y=>match cU s.env c with
     |some (.pv (.bool b))=>match tr with
      |.dec d::r=>uP [b=d] (run P T fn f (.code (bif d then x else y)::K') s r)
      |.auto::r=>run P T fn f (.code (bif b then x else y)::K') s r
      |_=>none
     |_=>none
    |.block id c=>run P T fn f (.code c :: .rk id::K') s tr
    |.loop c=>run P T fn f (.lJ c::K') s tr
    |.exit id=>match unwind id K' with
     |some PN=>run P T fn f PN s tr
     |none=>none
    |.ret=>finish T fn s
    |_=>none
section
variable {P:Program} {T:ja} {fn:Func} {Γ:Ctx} {R:Ending→World→Prop} {s s':St} {a:Act} {w:World}
theorem qE{c:List PanicEntry}{d:Option Tmp}{v:Value} : ∀(K:List eh),xB P fn R K (.panic c) (a.put d v) w→xB P fn R K (.panic c) a w
 |[],h=>⟨by rw[←put_defers a d v];exact h.1,h.2⟩
 |.code _::K,h=>qE K h
 |.rk _::K,h=>qE K h
 |.lJ _::K,h=>qE K h
def yh(P:Program)(fn:Func)(Γ:Ctx)(R:Ending→World→Prop):Out→Prop
 |.done e s=>∀a w β I v,dh Γ s a w β I→RE β (bz s.aP) I w e v→R (.returned v) w
 |.loop K s=>Sat P fn Γ R K s
theorem wH(hT:mm P T){out:Out}{ob:List Prop}(h:finish T fn s=some (out,ob))(ho:yh P fn Γ R out)(hr:Rel Γ s a w):bodyPost P fn R .ret a w∧bodyPost P fn R .normal a w:=by
 unfold finish at h;split at h
 ·rename_i es Cs;split at h
  ·rename_i e he;injection h with h;injection h with h1 h2
   subst h1;obtain⟨β,I,hr⟩:=hr;obtain⟨v,h1,h2⟩:=mZ hT hr Cs he;have:=ho a w β I v hr h2;exact⟨⟨hr.defers,v,h1,this⟩,⟨hr.defers,v,h1,this⟩⟩
  ·cases h
 ·cases h
theorem iv{ob:List Prop}{x:Option (Out×List Prop)}{out:Out}{Uj:List Prop}(h:uP ob x=some (out,Uj)):∃ob2,x=some (out,ob2)∧Uj=ob++ob2:=by
 cases x with
 |none=>cases h
 |some y =>
  obtain⟨o,ob2⟩:=y;injection h with h;injection h with h1 h2
  subst h1;exact⟨ob2,rfl,h2.symm⟩
theorem ue(hm:P.follows .mixedOrders=true)(hT:mm P T)(hs:∀r,bz Γ.sin r→Γ.n≤r)(hn:Γ.n=fn.ntmps):∀(f:Nat) (K:List eh) (s:St) (tr:List TE) (out:Out) (ob:List Prop),
  run P T fn f K s tr=some (out,ob)→dW ob→yh P fn Γ R out→Sat P fn Γ R K s
 |0,_,_,_,_,_,h,_,_=>by cases h
 |f+1,K,s,tr,out,ob,h,cf,ho=>by
  intro a w hr;have ih:=ue hm hT hs hn f;unfold run at h;split at h
  ·rename_i te r zv;split at h
   ·rename_i s' EW bc;obtain⟨ob2,h2,rfl⟩:=iv h;obtain⟨g1,g2⟩:=cf.app;exact ih K s' r out ob2 h2 g2 ho a w (rn hs hr (by rw[hn];exact bc) g1)
   ·cases h
  ·split at h
   ·exact(wH hT h ho hr).2
   ·rename_i id K';exact ih K' s tr out ob h cf ho a w hr
   ·rename_i c K';split at h
    ·injection h with h;injection h with h1 h2
     subst h1;exact ho a w hr
    ·rename_i r _;exact Sat.round (ih (.code c :: .lJ c::K') s r out ob h cf ho) a w hr
    ·cases h
   ·rename_i c K';show c.wp P (xB P fn R K') a w;split at h
    ·exact wp_skip (ih K' s tr out ob h cf ho a w hr)
    ·exact wp_label (ih K' s tr out ob h cf ho a w hr)
    ·rename_i id ops draw;split at h
     ·rename_i Jt r _;cases draw with
      |true=>cases h
      |false =>
       simp only[cond_false] at h;split at h
       ·rename_i s' EW bc;obtain⟨ob2,h2,rfl⟩:=iv h;obtain⟨g1,g2⟩:=cf.app;exact Gz hT hs hr (by rw[hn];exact bc) g1 (fun a' w' dx=>ih K' s' r out ob2 h2 g2 ho a' w' dx)
       ·cases h
     ·rename_i fl hd tl Jt r _;cases draw with
      |false=>cases h
      |true =>
       simp only[cond_true] at h;split at h
       ·rename_i s' EW bc;obtain⟨ob2,h2,rfl⟩:=iv h;obtain⟨g1,g2⟩:=cf.app;exact GL hm hT hs (fun c a w d v hq=>qE K' hq) hr (by rw[hn];exact bc) g1 (fun a' w' dx=>ih K' s' r out ob2 h2 g2 ho a' w' dx)
       ·cases h
     ·rename_i fl Jt r _;cases draw with
      |false=>cases h
      |true =>
       simp only[cond_true] at h;split at h
       ·rename_i s' EW bc;obtain⟨ob2,h2,rfl⟩:=iv h;obtain⟨g1,g2⟩:=cf.app;exact Ce hm hT hs (fun c a w d v hq=>qE K' hq) hr (by rw[hn];exact bc) g1 (fun a' w' dx=>ih K' s' r out ob2 h2 g2 ho a' w' dx)
       ·cases h
     ·cases h
    ·rename_i x y;refine wp_seq ?_;rw[show Exit.then (y.wp P (xB P fn R K')) (xB P fn R K')=xB P fn R (.code y::K') from then_eq];exact ih (.code x :: .code y::K') s tr out ob h cf ho a w hr
    ·rename_i c x y;split at h
     ·rename_i b hb;have hc:a.eval c = .bool b:=by
       obtain⟨β,I,dx⟩:=hr;have hv:Rd I w (.bool b) (a.eval c):=dx.zZ c _ hb;generalize a.eval c=v at hv;cases hv;rfl
      split at h
      ·rename_i d r _;obtain⟨ob2,h2,rfl⟩:=iv h;obtain⟨g1,g2⟩:=cf.app;have g1:b=d:=g1;subst g1;have:=ih (.code (bif b then x else y)::K') s r out ob2 h2 g2 ho a w hr;refine wp_cond hc ?_;cases b<;>exact this
      ·rename_i r _;have:=ih (.code (bif b then x else y)::K') s r out ob h cf ho a w hr;refine wp_cond hc ?_;cases b<;>exact this
      ·cases h
     ·cases h
    ·rename_i id c;refine wp_block ?_;rw[Ko];exact ih (.code c :: .rk id::K') s tr out ob h cf ho a w hr
    ·rename_i c;exact Sat.loop (ih (.lJ c::K') s tr out ob h cf ho) a w hr
    ·rename_i id;split at h
     ·rename_i PN hu;exact wp_exit (rl hu (ih PN s tr out ob h cf ho a w hr))
     ·cases h
    ·exact wp_ret (zo K' (wH hT h ho hr).1)
    ·cases h
def jX:Nat→List EV→Env
 |_,[]=>[]
 |k,e::es=>(k,e)::jX (k+1) es
theorem ti:∀(es:List EV) (k t:Nat) (e:EV),(jX k es).get t=some e→k≤t∧es[t-k]? = some e
 |[],k,t,e,h=>by simp[jX,Env.get] at h
 |x::es,k,t,e,h=>by
  simp only[jX,Env.get] at h;cases hb:Nat.beq k t with
  |true =>have:k=t:=abO hb;subst this;simp only[hb,cond_true] at h;simpa using h
  |false =>simp only[hb,cond_false] at h;obtain⟨h1,h2⟩:=ti es (k+1) t e h;refine⟨by omega,?_⟩;rw[show t-k=(t-(k+1))+1 from by omega,adh];exact h2
theorem ag.of {f : FuncId} {c : Code} {args : List EV} {sin sout : aY} {r : EV} (hf : P.funcs[f]? = some fn) (hb : fn.body = some c) (V8 : (fn.name == "runtime.NumGoroutine") = false) (ji : args.length ≤ fn.ntmps) (Oi : fn.ntmps ≤ 999999)
    (h : ∀ Γ : Ctx, Γ.sin = sin → Γ.n = fn.ntmps → (∀ b, Γ.I0 b → b < Γ.w0.heap.size) → mw Γ.β0 Γ.I0 Γ.w0 Γ.sin → Sat P fn Γ (iP sin sout r Γ.β0 Γ.I0 Γ.w0) [.code c] ⟨jX 0 args, sin⟩) : ag P f args sin r sout := by
  refine ⟨⟨fn, hf, by rw [hb]; rfl, V8⟩, fun I w β vs hI zm hl hv hy => ?_⟩;have := h ⟨w, I, sin, β, fn.ntmps, Oi, hy⟩ rfl rfl hI zm { tmps := vs ++ Array.replicate (fn.ntmps - vs.size) undef, defers := [] } w ⟨β, I, ?_⟩
  · exact calls_of_wp hf hb this
  · refine ⟨fun t e he => ?_, zm, fun r _ _ _ => rfl, fun r b h1 h2 h3 => h2.elim (absurd h1) (fun h2 => .inr ⟨r, h2, h1, h3⟩), hI, fun b h => .inl h, gV.refl _ _, by simp; omega, rfl⟩;obtain ⟨_, he⟩ := ti _ 0 t e he;simp only [Nat.sub_zero] at he;have ht : t < vs.size := by
      have := (abL.1 he).1;omega
    have qz : (vs ++ Array.replicate (fn.ntmps - vs.size) undef).getD t undef = vs[t] := by simp [Array.getD_eq_getD_getElem?, Array.getElem?_append, ht]
    show RE β (bz sin) I w e ((vs ++ Array.replicate (fn.ntmps - vs.size) undef).getD t undef);rw [qz];exact hv t e vs[t] he (acn ht)
theorem yh.pure{p r:PV}(hs:Γ.sin=[])(hp:p=r):yh P fn Γ (iP [] [] (.pv r) Γ.β0 Γ.I0 Γ.w0) (.done (.pv p) s):=by
 subst hp;intro a w β I v hr hv;have zk:∀x,¬bz [] x:=fun x h=>jU h
 have hM:∀b,¬Γ.M b:=fun b ⟨x,hx,_⟩=>by rw[hs] at hx;exact zk x hx
 refine⟨v,β,rfl,fun x hx=>absurd hx (zk x),⟨hr.aW.os,hr.aW.tape,hr.aW.output,hr.aW.size,fun k hk _=>hr.aW.block k hk (hM k),hr.aW.shape,hr.aW.drawn⟩,tZ _ _ _,?_,fun x b hx=>absurd hx (zk x)⟩;exact Rd.mono hv (fun b hb=>(hr.ii b hb).imp id (fun h=>⟨by rw[←hs];exact h,fun x hx=>absurd hx (zk x)⟩)) (fun _ _ _=>rfl)
theorem yh.sites {r : EV} (hI : ∀ b, Γ.I0 b → b < Γ.w0.heap.size) (zm : mw Γ.β0 Γ.I0 Γ.w0 Γ.sin) (zX : ∀ x, bz Γ.sin x → ¬ gv x → bz s.aP x) : yh P fn Γ (iP Γ.sin s.aP r Γ.β0 Γ.I0 Γ.w0) (.done r s) := by
  intro a w β I v hr hv;have Oo : ∀ b, I b → Γ.I0 b ∨ ((fresh Γ.w0 w b ∨ B3 Γ.sin Γ.β0 b) ∧ ∀ x, bz s.aP x → β x ≠ some b) := fun b hb => (hr.ii b hb).imp id (fun h => ⟨h, fun x hx Gu => by obtain ⟨sc, gS⟩ := abP.1 hx;exact ((hr.aP.1 x sc gS).2 b Gu).2 hb⟩)
  refine ⟨v, β, rfl, fun x hx hg => hr.par x (zX x hx hg) hx hg, hr.aW, ⟨fun x sc hx => ?_, hr.aP.2⟩, hv.mono (fun _ _ => rfl) (fun _ h => h) Oo (fun _ _ _ => rfl) (fun _ _ _ _ => rfl), fun x b hx hn hb => (hr.new x b hx (.inl hn) hb).imp (fun h => ⟨h, hr.lb x b hx hb⟩) id⟩;obtain ⟨g1, g2⟩ := hr.aP.1 x sc hx;have vh : bz s.aP x := by unfold bz; rw [hx]; rfl
  refine ⟨g1.mono rfl (fun _ _ => rfl) (fun _ _ => rfl) (fun _ h => h) Oo (fun _ _ _ => rfl) (fun _ _ _ _ => rfl), fun b hb => ⟨(g2 b hb).1, fun sG => ?_⟩⟩;rcases sG with sG | ⟨_, sG⟩
  · by_cases BV : bz Γ.sin x ∧ ¬ gv x
    · obtain ⟨sH, KJ⟩ := abP.1 BV.1;exact ((zm.1 x sH KJ).2 b (by rw [← hr.par x vh BV.1 BV.2]; exact hb)).2 sG
    · rcases hr.new x b vh (by by_cases h : bz Γ.sin x; · exact .inr (aco fun h2 => BV ⟨h, h2⟩)
                               · exact .inl h) hb with h | ⟨y, _, hy1, R6⟩
      · have := hI b sG; omega
      · obtain ⟨sH, KJ⟩ := abP.1 hy1;exact ((zm.1 y sH KJ).2 b R6).2 sG
  · exact sG x vh hb
end
end Go.Proofs.YtneklnlpgfeplaaGreat.Sym
