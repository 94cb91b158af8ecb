/- Lemmas for the statements of this seat. -/
import Derived.Test.YtcpnocgollpbhaaGreatDoorW22
namespace Go.Proofs.YtcpnocgollpbhaaGreatDoor.Sym
open Go Go.RowKit
inductive Out where
 |done (e:EV) (s:St)
 |loop (K:List dJ) (s:St)
def Z5:TE→Bool
 |.aG _=>true
 |.drop _=>true
 |.dH _ _=>true
 |.UK _ _ _=>true
 |.iK _ _ _=>true
 |.Kq _ _ _ _=>true
 |.cut _ _ _=>true
 |.pn _ _=>true
 |.ord _=>true
 |.rel _ _ _=>true
 |.LH=>true
 |.Tq=>true
 |.O2 _ _ _=>true
 |.W7 _ _ _ _=>true
 |.W8 _ _ _=>true
 |.W9 _ _=>true
 |_=>false
def Z6:List TE→Option (TE×List TE)
 |[]=>none
 |te::r=>bif Z5 te then some (te,r) else none
def Ff(ob:List Prop):Option (Out×List Prop)→Option (Out×List Prop)
 |some (o,ob2)=>some (o,ob++ob2)
 |none=>none
def finish(T:lh)(fn:Func)(s:St):Option (Out×List Prop) :=
 match CR T s fn.results.toList with
 |some es=>match LG es with
  |some e=>some (.done e s,[])
  |none=>none
 |none=>none
def run(P:Program)(T:lh)(fn:Func):Nat→List dJ→St→List TE→Option (Out×List Prop)
 |0,_,_,_=>none
 |f+1,K,s,tr =>
  match Z6 tr with
  |some (te,r)=>match lP fn.ntmps s te with
   |some (s',ob)=>Ff ob (run P T fn f K s' r)
   |none=>none
  |none=>match K with
   |[]=>finish T fn s
   |.CQ _::K'=>run P T fn f K' s tr
   |.tV c::K'=>match tr with
    |[]=>some (.loop (.tV c::K') s,[])
    |.auto::r=>run P T fn f (.code c :: .tV c::K') s r
    |_=>none
   |.code c::K'=>match c with
    |.skip=>run P T fn f K' s tr
    |.label _=>run P T fn f K' s tr
    |.region _ ops draw=>match tr with
     |.aR hs::r=>bif draw then none else match CP P T fn.ntmps ops ops.toList hs s with
      |some (s',ob)=>Ff ob (run P T fn f K' s' r)
      |none=>none
     |.ZI fl hd tl hs::r=>bif draw then (match Gt P T fn.ntmps ops fl hd tl hs s with
      |some (s',ob)=>Ff ob (run P T fn f K' s' r)
      |none=>none) else none
     |.any fl hs::r=>bif draw then (match Gu P T fn.ntmps ops fl (KA ops fl) (Tx ops fl) hs s with
      |some (s',ob)=>Ff ob (run P T fn f K' s' r)
      |none=>none) else none
     |_=>none
    |.seq a b=>run P T fn f (.code a :: .code b::K') s tr
    |.cond c x y=>match dA s.env c with
     |some (.pv (.bool b))=>match tr with
      |.dec d::r=>Ff [b=d] (run P T fn f (.code (bif d then x else y)::K') s r)
      |.auto::r=>run P T fn f (.code (bif b then x else y)::K') s r
      |_=>none
     |_=>none
    |.block id c=>run P T fn f (.code c :: .CQ id::K') s tr
    |.loop c=>run P T fn f (.tV c::K') s tr
    |.exit id=>match unwind id K' with
     |some Z7=>run P T fn f Z7 s tr
     |none=>none
    |.ret=>finish T fn s
    |_=>none
section
variable {P:Program} {T:lh} {fn:Func} {Γ:Ctx} {R:Ending→World→Prop} {s s':St} {a:Act} {w:World}
theorem sh{c:List PanicEntry}{d:Option Tmp}{v:Value} : ∀(K:List dJ),zS P fn R K (.panic c) (a.put d v) w→zS P fn R K (.panic c) a w
 |[],h=>⟨by rw[←put_defers a d v];exact h.1,h.2⟩
 |.code _::K,h=>sh K h
 |.CQ _::K,h=>sh K h
 |.tV _::K,h=>sh K h
def AU(P:Program)(fn:Func)(Γ:Ctx)(R:Ending→World→Prop):Out→Prop
 |.done e s=>∀a w β I v,dz Γ s a w β I→RE β (bK s.aK) I w e v→R (.returned v) w
 |.loop K s=>Sat P fn Γ R K s
theorem yg(hT:oE P T){out:Out}{ob:List Prop}(h:finish T fn s=some (out,ob))(ho:AU P fn Γ R out)(hr:Rel Γ s a w):bodyPost P fn R .ret a w∧bodyPost P fn R .normal a w:=by
 unfold finish at h;split at h
 ·rename_i es N7;split at h
  ·rename_i e he;injection h with h;injection h with h1 h2
   subst h1;obtain⟨β,I,hr⟩:=hr;obtain⟨v,h1,h2⟩:=EF hT hr N7 he;have:=ho a w β I v hr h2;exact⟨⟨hr.defers,v,h1,this⟩,⟨hr.defers,v,h1,this⟩⟩
  ·cases h
 ·cases h
theorem pK{ob:List Prop}{x:Option (Out×List Prop)}{out:Out}{YH:List Prop}(h:Ff ob x=some (out,YH)):∃ob2,x=some (out,ob2)∧YH=ob++ob2:=by
 cases x with
 |none=>cases h
 |some y =>
  obtain⟨o,ob2⟩:=y;injection h with h;injection h with h1 h2
  subst h1;exact⟨ob2,rfl,h2.symm⟩
theorem vp(hm:P.follows .mixedOrders=true)(hT:oE P T)(hs:∀r,bK Γ.sin r→Γ.n≤r)(hn:Γ.n=fn.ntmps):∀(f:Nat) (K:List dJ) (s:St) (tr:List TE) (out:Out) (ob:List Prop),
  run P T fn f K s tr=some (out,ob)→dX ob→AU P fn Γ R out→Sat P fn Γ R K s
 |0,_,_,_,_,_,h,_,_=>by cases h
 |f+1,K,s,tr,out,ob,h,cv,ho=>by
  intro a w hr;have ih:=vp hm hT hs hn f;unfold run at h;split at h
  ·rename_i te r yh;split at h
   ·rename_i s' Od aO;obtain⟨ob2,h2,rfl⟩:=pK h;obtain⟨g1,g2⟩:=cv.app;exact ih K s' r out ob2 h2 g2 ho a w (Gk hs hr (by rw[hn];exact aO) g1)
   ·cases h
  ·split at h
   ·exact(yg hT h ho hr).2
   ·rename_i id K';exact ih K' s tr out ob h cv ho a w hr
   ·rename_i c K';split at h
    ·injection h with h;injection h with h1 h2
     subst h1;exact ho a w hr
    ·rename_i r _;exact Sat.round (ih (.code c :: .tV c::K') s r out ob h cv ho) a w hr
    ·cases h
   ·rename_i c K';show c.wp P (zS P fn R K') a w;split at h
    ·exact wp_skip (ih K' s tr out ob h cv ho a w hr)
    ·exact wp_label (ih K' s tr out ob h cv ho a w hr)
    ·rename_i id ops draw;split at h
     ·rename_i OD r _;cases draw with
      |true=>cases h
      |false =>
       simp only[cond_false] at h;split at h
       ·rename_i s' Od aO;obtain⟨ob2,h2,rfl⟩:=pK h;obtain⟨g1,g2⟩:=cv.app;exact Ko hT hs hr (by rw[hn];exact aO) g1 (fun a' w' dS=>ih K' s' r out ob2 h2 g2 ho a' w' dS)
       ·cases h
     ·rename_i fl hd tl OD r _;cases draw with
      |false=>cases h
      |true =>
       simp only[cond_true] at h;split at h
       ·rename_i s' Od aO;obtain⟨ob2,h2,rfl⟩:=pK h;obtain⟨g1,g2⟩:=cv.app;exact Kz hm hT hs (fun c a w d v hq=>sh K' hq) hr (by rw[hn];exact aO) g1 (fun a' w' dS=>ih K' s' r out ob2 h2 g2 ho a' w' dS)
       ·cases h
     ·rename_i fl OD r _;cases draw with
      |false=>cases h
      |true =>
       simp only[cond_true] at h;split at h
       ·rename_i s' Od aO;obtain⟨ob2,h2,rfl⟩:=pK h;obtain⟨g1,g2⟩:=cv.app;exact EJ hm hT hs (fun c a w d v hq=>sh K' hq) hr (by rw[hn];exact aO) g1 (fun a' w' dS=>ih K' s' r out ob2 h2 g2 ho a' w' dS)
       ·cases h
     ·cases h
    ·rename_i x y;refine wp_seq ?_;rw[show Exit.then (y.wp P (zS P fn R K')) (zS P fn R K')=zS P fn R (.code y::K') from then_eq];exact ih (.code x :: .code y::K') s tr out ob h cv ho a w hr
    ·rename_i c x y;split at h
     ·rename_i b hb;have hc:a.eval c = .bool b:=by
       obtain⟨β,I,dS⟩:=hr;have hv:Rd I w (.bool b) (a.eval c):=dS.HI c _ hb;generalize a.eval c=v at hv;cases hv;rfl
      split at h
      ·rename_i d r _;obtain⟨ob2,h2,rfl⟩:=pK h;obtain⟨g1,g2⟩:=cv.app;have g1:b=d:=g1;subst g1;have:=ih (.code (bif b then x else y)::K') s r out ob2 h2 g2 ho a w hr;refine wp_cond hc ?_;cases b<;>exact this
      ·rename_i r _;have:=ih (.code (bif b then x else y)::K') s r out ob h cv ho a w hr;refine wp_cond hc ?_;cases b<;>exact this
      ·cases h
     ·cases h
    ·rename_i id c;refine wp_block ?_;rw[O1];exact ih (.code c :: .CQ id::K') s tr out ob h cv ho a w hr
    ·rename_i c;exact Sat.loop (ih (.tV c::K') s tr out ob h cv ho) a w hr
    ·rename_i id;split at h
     ·rename_i Z7 hu;exact wp_exit (sR hu (ih Z7 s tr out ob h cv ho a w hr))
     ·cases h
    ·exact wp_ret (BN K' (yg hT h ho hr).1)
    ·cases h
def mC:Nat→List EV→Env
 |_,[]=>[]
 |k,e::es=>(k,e)::mC (k+1) es
theorem AV:∀(es:List EV) (k t:Nat) (e:EV),(mC k es).get t=some e→k≤t∧es[t-k]? = some e
 |[],k,t,e,h=>by simp[mC,Env.get] at h
 |x::es,k,t,e,h=>by
  simp only[mC,Env.get] at h;cases hb:Nat.beq k t with
  |true =>have:k=t:=afB hb;subst this;simp only[hb,cond_true] at h;simpa using h
  |false =>simp only[hb,cond_false] at h;obtain⟨h1,h2⟩:=AV es (k+1) t e h;refine⟨by omega,?_⟩;rw[show t-k=(t-(k+1))+1 from by omega,ah7];exact h2
theorem au.of {f : FuncId} {c : Code} {args : List EV} {sin sout : aT} {r : EV} (hf : P.funcs[f]? = some fn) (hb : fn.body = some c) (hnm : (fn.name == "runtime.NumGoroutine") = false) (mg : args.length ≤ fn.ntmps) (Ng : fn.ntmps ≤ 999999)
    (h : ∀ Γ : Ctx, Γ.sin = sin → Γ.n = fn.ntmps → (∀ b, Γ.I0 b → b < Γ.w0.heap.size) → xX Γ.β0 Γ.I0 Γ.w0 Γ.sin → Sat P fn Γ (uf sin sout r Γ.β0 Γ.I0 Γ.w0) [.code c] ⟨mC 0 args, sin⟩) : au P f args sin r sout := by
  refine ⟨⟨fn, hf, by rw [hb]; rfl, hnm⟩, fun I w β vs hI OZ hl hv hy => ?_⟩;have := h ⟨w, I, sin, β, fn.ntmps, Ng, hy⟩ rfl rfl hI OZ { tmps := vs ++ Array.replicate (fn.ntmps - vs.size) undef, defers := [] } w ⟨β, I, ?_⟩
  · exact calls_of_wp hf hb this
  · refine ⟨fun t e he => ?_, OZ, fun r _ _ _ => rfl, fun r b h1 h2 h3 => h2.elim (absurd h1) (fun h2 => .inr ⟨r, h2, h1, h3⟩), hI, fun b h => .inl h, l6.refl _ _, by simp; omega, rfl⟩;obtain ⟨_, he⟩ := AV _ 0 t e he;simp only [Nat.sub_zero] at he;have ht : t < vs.size := by
      have := (afs.1 he).1;omega
    have mr : (vs ++ Array.replicate (fn.ntmps - vs.size) undef).getD t undef = vs[t] := by simp [Array.getD_eq_getD_getElem?, Array.getElem?_append, ht]
    show RE β (bK sin) I w e ((vs ++ Array.replicate (fn.ntmps - vs.size) undef).getD t undef);rw [mr];exact hv t e vs[t] he (agH ht)
theorem AU.pure{p r:PV}(hs:Γ.sin=[])(hp:p=r):AU P fn Γ (uf [] [] (.pv r) Γ.β0 Γ.I0 Γ.w0) (.done (.pv p) s):=by
 subst hp;intro a w β I v hr hv;have BL:∀x,¬bK [] x:=fun x h=>qK h
 have hM:∀b,¬Γ.M b:=fun b ⟨x,hx,_⟩=>by rw[hs] at hx;exact BL x hx
 refine⟨v,β,rfl,fun x hx=>absurd hx (BL x),⟨hr.aG.os,hr.aG.tape,hr.aG.output,hr.aG.size,fun k hk _=>hr.aG.block k hk (hM k),hr.aG.shape,hr.aG.drawn⟩,vk _ _ _,?_,fun x b hx=>absurd hx (BL x)⟩;exact Rd.mono hv (fun b hb=>(hr.ii b hb).imp id (fun h=>⟨by rw[←hs];exact h,fun x hx=>absurd hx (BL x)⟩)) (fun _ _ _=>rfl)
theorem AU.sites {r : EV} (hI : ∀ b, Γ.I0 b → b < Γ.w0.heap.size) (OZ : xX Γ.β0 Γ.I0 Γ.w0 Γ.sin) (xU : ∀ x, bK Γ.sin x → ¬ gv x → bK s.aK x) : AU P fn Γ (uf Γ.sin s.aK r Γ.β0 Γ.I0 Γ.w0) (.done r s) := by
  intro a w β I v hr hv;have hII : ∀ b, I b → Γ.I0 b ∨ ((fresh Γ.w0 w b ∨ Na Γ.sin Γ.β0 b) ∧ ∀ x, bK s.aK x → β x ≠ some b) := fun b hb => (hr.ii b hb).imp id (fun h => ⟨h, fun x hx Rn => by obtain ⟨sc, pk⟩ := afS.1 hx;exact ((hr.aK.1 x sc pk).2 b Rn).2 hb⟩)
  refine ⟨v, β, rfl, fun x hx hg => hr.par x (xU x hx hg) hx hg, hr.aG, ⟨fun x sc hx => ?_, hr.aK.2⟩, hv.mono (fun _ _ => rfl) (fun _ h => h) hII (fun _ _ _ => rfl) (fun _ _ _ _ => rfl), fun x b hx hn hb => (hr.new x b hx (.inl hn) hb).imp (fun h => ⟨h, hr.lb x b hx hb⟩) id⟩;obtain ⟨g1, g2⟩ := hr.aK.1 x sc hx;have JQ : bK s.aK x := by unfold bK; rw [hx]; rfl
  refine ⟨g1.mono rfl (fun _ _ => rfl) (fun _ _ => rfl) (fun _ h => h) hII (fun _ _ _ => rfl) (fun _ _ _ _ => rfl), fun b hb => ⟨(g2 b hb).1, fun tS => ?_⟩⟩;rcases tS with tS | ⟨_, tS⟩
  · by_cases Iq : bK Γ.sin x ∧ ¬ gv x
    · obtain ⟨LC, UT⟩ := afS.1 Iq.1;exact ((OZ.1 x LC UT).2 b (by rw [← hr.par x JQ Iq.1 Iq.2]; exact hb)).2 tS
    · rcases hr.new x b JQ (by by_cases h : bK Γ.sin x; · exact .inr (afE fun h2 => Iq ⟨h, h2⟩)
                               · exact .inl h) hb with h | ⟨y, _, Z8, Zz⟩
      · have := hI b tS; omega
      · obtain ⟨LC, UT⟩ := afS.1 Z8;exact ((OZ.1 y LC UT).2 b Zz).2 tS
  · exact tS x JQ hb
end
end Go.Proofs.YtcpnocgollpbhaaGreatDoor.Sym
