/- Lemmas for the statements of this seat. -/
import Derived.Test.YtcpnocgollpbhaaGreatDoorW22
namespace Go.Proofs.YtcpnocgollpbhaaGreatDoor.Sym
open Go Go.RowKit
inductive Out where
 |done (e:EV) (s:St)
 |loop (K:List eR) (s:St)
def Z3:TE→Bool
 |.aH _=>true
 |.drop _=>true
 |.fF _ _=>true
 |.Ue _ _ _=>true
 |.lL _ _ _=>true
 |.JH _ _ _ _=>true
 |.cut _ _ _=>true
 |.rJ _ _=>true
 |.ord _=>true
 |.rel _ _ _=>true
 |.KX=>true
 |.SV=>true
 |.Ot _ _ _=>true
 |.WL _ _ _ _=>true
 |.WM _ _ _=>true
 |.WN _ _=>true
 |_=>false
def Z4:List TE→Option (TE×List TE)
 |[]=>none
 |te::r=>bif Z3 te then some (te,r) else none
def Ek(ob:List Prop):Option (Out×List Prop)→Option (Out×List Prop)
 |some (o,ob2)=>some (o,ob++ob2)
 |none=>none
def finish(T:kL)(fn:Func)(s:St):Option (Out×List Prop) :=
 match BB T s fn.results.toList with
 |some es=>match KW es with
  |some e=>some (.done e s,[])
  |none=>none
 |none=>none
def run(P:Program)(T:kL)(fn:Func):Nat→List eR→St→List TE→Option (Out×List Prop)
 |0,_,_,_=>none
 |f+1,K,s,tr =>
  match Z4 tr with
  |some (te,r)=>match lj fn.ntmps s te with
   |some (s',ob)=>Ek ob (run P T fn f K s' r)
   |none=>none
  |none=>match K with
   |[]=>finish T fn s
   |.BA _::K'=>run P T fn f K' s tr
   |.ta c::K'=>match tr with
    |[]=>some (.loop (.ta c::K') s,[])
    |.auto::r=>run P T fn f (.code c :: .ta c::K') s r
    |_=>none
   |.code c::K'=>match c with
    |.skip=>run P T fn f K' s tr
    |.label _=>run P T fn f K' s tr
    |.region _ ops draw=>match tr with
     |.aR hs::r=>bif draw then none else match Bz P T fn.ntmps ops ops.toList hs s with
      |some (s',ob)=>Ek ob (run P T fn f K' s' r)
      |none=>none
     |.ZG fl hd tl hs::r=>bif draw then (match Fy P T fn.ntmps ops fl hd tl hs s with
      |some (s',ob)=>Ek ob (run P T fn f K' s' r)
      |none=>none) else none
     |.any fl hs::r=>bif draw then (match Fz P T fn.ntmps ops fl (JQ ops fl) (S1 ops fl) hs s with
      |some (s',ob)=>Ek ob (run P T fn f K' s' r)
      |none=>none) else none
     |_=>none
    |.seq a b=>run P T fn f (.code a :: .code b::K') s tr
    |.cond c x y=>match dh s.env c with
     |some (.pv (.bool b))=>match tr with
      |.dec d::r=>Ek [b=d] (run P T fn f (.code (bif d then x else y)::K') s r)
      |.auto::r=>run P T fn f (.code (bif b then x else y)::K') s r
      |_=>none
     |_=>none
    |.block id c=>run P T fn f (.code c :: .BA id::K') s tr
    |.loop c=>run P T fn f (.ta c::K') s tr
    |.exit id=>match unwind id K' with
     |some Z5=>run P T fn f Z5 s tr
     |none=>none
    |.ret=>finish T fn s
    |_=>none
section
variable {P:Program} {T:kL} {fn:Func} {Γ:Ctx} {R:Ending→World→Prop} {s s':St} {a:Act} {w:World}
theorem re{c:List PanicEntry}{d:Option Tmp}{v:Value} : ∀(K:List eR),yw P fn R K (.panic c) (a.put d v) w→yw P fn R K (.panic c) a w
 |[],h=>⟨by rw[←put_defers a d v];exact h.1,h.2⟩
 |.code _::K,h=>re K h
 |.BA _::K,h=>re K h
 |.ta _::K,h=>re K h
def zD(P:Program)(fn:Func)(Γ:Ctx)(R:Ending→World→Prop):Out→Prop
 |.done e s=>∀a w β I v,df Γ s a w β I→RE β (bB s.aG) I w e v→R (.returned v) w
 |.loop K s=>Sat P fn Γ R K s
theorem xi(hT:n8 P T){out:Out}{ob:List Prop}(h:finish T fn s=some (out,ob))(ho:zD P fn Γ R out)(hr:Rel Γ s a w):bodyPost P fn R .ret a w∧bodyPost P fn R .normal a w:=by
 unfold finish at h;split at h
 ·rename_i es Nu;split at h
  ·rename_i e he;injection h with h;injection h with h1 h2
   subst h1;obtain⟨β,I,hr⟩:=hr;obtain⟨v,h1,h2⟩:=DG hT hr Nu he;have:=ho a w β I v hr h2;exact⟨⟨hr.defers,v,h1,this⟩,⟨hr.defers,v,h1,this⟩⟩
  ·cases h
 ·cases h
theorem o7{ob:List Prop}{x:Option (Out×List Prop)}{out:Out}{YA:List Prop}(h:Ek ob x=some (out,YA)):∃ob2,x=some (out,ob2)∧YA=ob++ob2:=by
 cases x with
 |none=>cases h
 |some y =>
  obtain⟨o,ob2⟩:=y;injection h with h;injection h with h1 h2
  subst h1;exact⟨ob2,rfl,h2.symm⟩
theorem uw(hm:P.follows .mixedOrders=true)(hT:n8 P T)(hs:∀r,bB Γ.sin r→Γ.n≤r)(hn:Γ.n=fn.ntmps):∀(f:Nat) (K:List eR) (s:St) (tr:List TE) (out:Out) (ob:List Prop),
  run P T fn f K s tr=some (out,ob)→dK ob→zD P fn Γ R out→Sat P fn Γ R K s
 |0,_,_,_,_,_,h,_,_=>by cases h
 |f+1,K,s,tr,out,ob,h,bT,ho=>by
  intro a w hr;have ih:=uw hm hT hs hn f;unfold run at h;split at h
  ·rename_i te r Ap;split at h
   ·rename_i s' ND aK;obtain⟨ob2,h2,rfl⟩:=o7 h;obtain⟨g1,g2⟩:=bT.app;exact ih K s' r out ob2 h2 g2 ho a w (Fp hs hr (by rw[hn];exact aK) g1)
   ·cases h
  ·split at h
   ·exact(xi hT h ho hr).2
   ·rename_i id K';exact ih K' s tr out ob h bT ho a w hr
   ·rename_i c K';split at h
    ·injection h with h;injection h with h1 h2
     subst h1;exact ho a w hr
    ·rename_i r _;exact Sat.round (ih (.code c :: .ta c::K') s r out ob h bT ho) a w hr
    ·cases h
   ·rename_i c K';show c.wp P (yw P fn R K') a w;split at h
    ·exact wp_skip (ih K' s tr out ob h bT ho a w hr)
    ·exact wp_label (ih K' s tr out ob h bT ho a w hr)
    ·rename_i id ops draw;split at h
     ·rename_i NY r _;cases draw with
      |true=>cases h
      |false =>
       simp only[cond_false] at h;split at h
       ·rename_i s' ND aK;obtain⟨ob2,h2,rfl⟩:=o7 h;obtain⟨g1,g2⟩:=bT.app;exact JF hT hs hr (by rw[hn];exact aK) g1 (fun a' w' dI=>ih K' s' r out ob2 h2 g2 ho a' w' dI)
       ·cases h
     ·rename_i fl hd tl NY r _;cases draw with
      |false=>cases h
      |true =>
       simp only[cond_true] at h;split at h
       ·rename_i s' ND aK;obtain⟨ob2,h2,rfl⟩:=o7 h;obtain⟨g1,g2⟩:=bT.app;exact JP hm hT hs (fun c a w d v hq=>re K' hq) hr (by rw[hn];exact aK) g1 (fun a' w' dI=>ih K' s' r out ob2 h2 g2 ho a' w' dI)
       ·cases h
     ·rename_i fl NY r _;cases draw with
      |false=>cases h
      |true =>
       simp only[cond_true] at h;split at h
       ·rename_i s' ND aK;obtain⟨ob2,h2,rfl⟩:=o7 h;obtain⟨g1,g2⟩:=bT.app;exact DK hm hT hs (fun c a w d v hq=>re K' hq) hr (by rw[hn];exact aK) g1 (fun a' w' dI=>ih K' s' r out ob2 h2 g2 ho a' w' dI)
       ·cases h
     ·cases h
    ·rename_i x y;refine wp_seq ?_;rw[show Exit.then (y.wp P (yw P fn R K')) (yw P fn R K')=yw P fn R (.code y::K') from then_eq];exact ih (.code x :: .code y::K') s tr out ob h bT ho a w hr
    ·rename_i c x y;split at h
     ·rename_i b hb;have hc:a.eval c = .bool b:=by
       obtain⟨β,I,dI⟩:=hr;have hv:Rd I w (.bool b) (a.eval c):=dI.G7 c _ hb;generalize a.eval c=v at hv;cases hv;rfl
      split at h
      ·rename_i d r _;obtain⟨ob2,h2,rfl⟩:=o7 h;obtain⟨g1,g2⟩:=bT.app;have g1:b=d:=g1;subst g1;have:=ih (.code (bif b then x else y)::K') s r out ob2 h2 g2 ho a w hr;refine wp_cond hc ?_;cases b<;>exact this
      ·rename_i r _;have:=ih (.code (bif b then x else y)::K') s r out ob h bT ho a w hr;refine wp_cond hc ?_;cases b<;>exact this
      ·cases h
     ·cases h
    ·rename_i id c;refine wp_block ?_;rw[Oq];exact ih (.code c :: .BA id::K') s tr out ob h bT ho a w hr
    ·rename_i c;exact Sat.loop (ih (.ta c::K') s tr out ob h bT ho) a w hr
    ·rename_i id;split at h
     ·rename_i Z5 hu;exact wp_exit (rZ hu (ih Z5 s tr out ob h bT ho a w hr))
     ·cases h
    ·exact wp_ret (AA K' (xi hT h ho hr).1)
    ·cases h
def me:Nat→List EV→Env
 |_,[]=>[]
 |k,e::es=>(k,e)::me (k+1) es
theorem zE:∀(es:List EV) (k t:Nat) (e:EV),(me k es).get t=some e→k≤t∧es[t-k]? = some e
 |[],k,t,e,h=>by simp[me,Env.get] at h
 |x::es,k,t,e,h=>by
  simp only[me,Env.get] at h;cases hb:Nat.beq k t with
  |true =>have:k=t:=ag0 hb;subst this;simp only[hb,cond_true] at h;simpa using h
  |false =>simp only[hb,cond_false] at h;obtain⟨h1,h2⟩:=zE es (k+1) t e h;refine⟨by omega,?_⟩;rw[show t-k=(t-(k+1))+1 from by omega,ahu];exact h2
theorem au.of {f : FuncId} {c : Code} {args : List EV} {sin sout : aS} {r : EV} (hf : P.funcs[f]? = some fn) (hb : fn.body = some c) (hnm : (fn.name == "runtime.NumGoroutine") = false) (lT : args.length ≤ fn.ntmps) (MB : fn.ntmps ≤ 999999)
    (h : ∀ Γ : Ctx, Γ.sin = sin → Γ.n = fn.ntmps → (∀ b, Γ.I0 b → b < Γ.w0.heap.size) → wX Γ.β0 Γ.I0 Γ.w0 Γ.sin → Sat P fn Γ (tp sin sout r Γ.β0 Γ.I0 Γ.w0) [.code c] ⟨me 0 args, sin⟩) : au P f args sin r sout := by
  refine ⟨⟨fn, hf, by rw [hb]; rfl, hnm⟩, fun I w β vs hI On hl hv hy => ?_⟩;have := h ⟨w, I, sin, β, fn.ntmps, MB, hy⟩ rfl rfl hI On { tmps := vs ++ Array.replicate (fn.ntmps - vs.size) undef, defers := [] } w ⟨β, I, ?_⟩
  · exact calls_of_wp hf hb this
  · refine ⟨fun t e he => ?_, On, fun r _ _ _ => rfl, fun r b h1 h2 h3 => h2.elim (absurd h1) (fun h2 => .inr ⟨r, h2, h1, h3⟩), hI, fun b h => .inl h, lJ.refl _ _, by simp; omega, rfl⟩;obtain ⟨_, he⟩ := zE _ 0 t e he;simp only [Nat.sub_zero] at he;have ht : t < vs.size := by
      have := (afQ.1 he).1;omega
    have oX : (vs ++ Array.replicate (fn.ntmps - vs.size) undef).getD t undef = vs[t] := by simp [Array.getD_eq_getD_getElem?, Array.getElem?_append, ht]
    show RE β (bB sin) I w e ((vs ++ Array.replicate (fn.ntmps - vs.size) undef).getD t undef);rw [oX];exact hv t e vs[t] he (ah2 ht)
theorem zD.pure{p r:PV}(hs:Γ.sin=[])(hp:p=r):zD P fn Γ (tp [] [] (.pv r) Γ.β0 Γ.I0 Γ.w0) (.done (.pv p) s):=by
 subst hp;intro a w β I v hr hv;have Ay:∀x,¬bB [] x:=fun x h=>pQ h
 have hM:∀b,¬Γ.M b:=fun b ⟨x,hx,_⟩=>by rw[hs] at hx;exact Ay x hx
 refine⟨v,β,rfl,fun x hx=>absurd hx (Ay x),⟨hr.aH.os,hr.aH.tape,hr.aH.output,hr.aH.size,fun k hk _=>hr.aH.block k hk (hM k),hr.aH.shape,hr.aH.drawn⟩,uo _ _ _,?_,fun x b hx=>absurd hx (Ay x)⟩;exact Rd.mono hv (fun b hb=>(hr.ii b hb).imp id (fun h=>⟨by rw[←hs];exact h,fun x hx=>absurd hx (Ay x)⟩)) (fun _ _ _=>rfl)
theorem zD.sites {r : EV} (hI : ∀ b, Γ.I0 b → b < Γ.w0.heap.size) (On : wX Γ.β0 Γ.I0 Γ.w0 Γ.sin) (wL : ∀ x, bB Γ.sin x → ¬ gv x → bB s.aG x) : zD P fn Γ (tp Γ.sin s.aG r Γ.β0 Γ.I0 Γ.w0) (.done r s) := by
  intro a w β I v hr hv;have hII : ∀ b, I b → Γ.I0 b ∨ ((fresh Γ.w0 w b ∨ Mv Γ.sin Γ.β0 b) ∧ ∀ x, bB s.aG x → β x ≠ some b) := fun b hb => (hr.ii b hb).imp id (fun h => ⟨h, fun x hx QL => by obtain ⟨sc, oP⟩ := agk.1 hx;exact ((hr.aG.1 x sc oP).2 b QL).2 hb⟩)
  refine ⟨v, β, rfl, fun x hx hg => hr.par x (wL x hx hg) hx hg, hr.aH, ⟨fun x sc hx => ?_, hr.aG.2⟩, hv.mono (fun _ _ => rfl) (fun _ h => h) hII (fun _ _ _ => rfl) (fun _ _ _ _ => rfl), fun x b hx hn hb => (hr.new x b hx (.inl hn) hb).imp (fun h => ⟨h, hr.lb x b hx hb⟩) id⟩;obtain ⟨g1, g2⟩ := hr.aG.1 x sc hx;have Ja : bB s.aG x := by unfold bB; rw [hx]; rfl
  refine ⟨g1.mono rfl (fun _ _ => rfl) (fun _ _ => rfl) (fun _ h => h) hII (fun _ _ _ => rfl) (fun _ _ _ _ => rfl), fun b hb => ⟨(g2 b hb).1, fun s7 => ?_⟩⟩;rcases s7 with s7 | ⟨_, s7⟩
  · by_cases HH : bB Γ.sin x ∧ ¬ gv x
    · obtain ⟨KT, Un⟩ := agk.1 HH.1;exact ((On.1 x KT Un).2 b (by rw [← hr.par x Ja HH.1 HH.2]; exact hb)).2 s7
    · rcases hr.new x b Ja (by by_cases h : bB Γ.sin x; · exact .inr (afV fun h2 => HH ⟨h, h2⟩)
                               · exact .inl h) hb with h | ⟨y, _, Z6, Zx⟩
      · have := hI b s7; omega
      · obtain ⟨KT, Un⟩ := agk.1 Z6;exact ((On.1 y KT Un).2 b Zx).2 s7
  · exact s7 x Ja hb
end
end Go.Proofs.YtcpnocgollpbhaaGreatDoor.Sym
