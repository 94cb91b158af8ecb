/- Lemmas for the statements of this seat. -/
import Derived.Test.YtfjfekodeplcoaaGreatWSymM
namespace Go.Proofs.YtfjfekodeplcoaaGreat.Sym
open Go Go.RowKit
section
variable {P:Program} {T:jZ} {Γ:Ctx} {s s':St} {a:Act} {w:World} {β:Nat→Option Nat} {I:Nat→Prop} {o:Oper} {h:Hint} {ob:List Prop}
theorem cO.ext(h:cO Γ s a w β I){sto':aN}{β':Nat→Option Nat}{N:Nat→Prop}
  (lZ:∀x,¬N x→sto'.get x=s.sto.get x) (hN:∀x,N x→¬bk s.sto x∧(¬bk Γ.sin x∨gv x)) (hβ:∀x,¬N x→β' x=β x)
  (hb:∀x b,N x→β' x=some b→b<w.heap.size∧¬I b∧Γ.Nw b∧(∀r,bk s.sto r→β r≠some b)∧∀y,N y→β' y=some b→x=y)
  (lO:∀x sc,N x→sto'.get x=some sc→RB β' (bk sto') I w x sc.pE):cO Γ ⟨s.env,sto'⟩ a w β' I:=by
 have Sg:∀x,bk s.sto x→¬N x:=fun x hx hn=>(hN x hn).1 hx
 have pg:∀x,bk s.sto x→β' x=β x:=fun x hx=>hβ x (Sg x hx)
 have hL:∀x,bk s.sto x→bk sto' x:=fun x hx=>by unfold bk;rw[lZ x (Sg x hx)];exact hx
 have Cs:∀x,bk sto' x→¬N x→bk s.sto x:=fun x hx hn=>by unfold bk at hx;rw[lZ x hn] at hx;exact hx
 refine⟨fun t e he=>(h.env t e he).mono pg hL (fun _ h=>h) (fun _ _ _=>rfl) (fun _ _ _ _=>rfl),⟨fun x sc hx => ?_,fun x y b hx hy e1 e2 => ?_⟩,fun x hx hs hg => ?_,fun x b hx hs cX => ?_,h.ib,h.ii,h.aH,h.size,h.defers⟩
 ·have hx:sto'.get x=some sc:=hx
  by_cases hn:N x
  ·exact⟨lO x sc hn hx,fun b cX=>⟨(hb x b hn cX).1,(hb x b hn cX).2.1⟩⟩
  ·rw[lZ x hn] at hx
   have hd:bk s.sto x:=by unfold bk;rw[hx];rfl
   obtain⟨g1,g2⟩:=h.sto.1 x sc hx
   exact⟨g1.mono (pg x hd) (fun _ _=>rfl) pg hL (fun _ h=>h) (fun _ _ _=>rfl) (fun _ _ _ _=>rfl),fun b cX=>g2 b (by rw[←pg x hd];exact cX)⟩
 ·by_cases h1:N x
  ·by_cases h2:N y
   ·exact(hb x b h1 e1).2.2.2.2 y h2 e2
   ·have hd:=Cs y hy h2
    rw[pg y hd] at e2
    exact absurd e2 ((hb x b h1 e1).2.2.2.1 y hd)
  ·have ri:=Cs x hx h1
   by_cases h2:N y
   ·rw[pg x ri] at e1
    exact absurd e1 ((hb y b h2 e2).2.2.2.1 x ri)
   ·have hd:=Cs y hy h2
    rw[pg x ri] at e1
    rw[pg y hd] at e2
    exact h.sto.2 x y b ri hd e1 e2
 ·by_cases h1:N x
  ·rcases(hN x h1).2 with h2|h2
   ·exact absurd hs h2
   ·exact absurd h2 hg
  ·have ri:=Cs x hx h1
   rw[pg x ri];exact h.par x ri hs hg
 ·by_cases h1:N x
  ·exact(hb x b h1 cX).2.2.1
  ·have ri:=Cs x hx h1
   rw[pg x ri] at cX;exact h.new x b ri hs cX
theorem cO.N3(h:cO Γ s a w β I){w':World}{M I':Nat→Prop}(hk:gD M w w')(TG:∀b,I b→¬M b)(TH:∀x b,bk s.sto x→β x=some b→¬M b)
  (TI:∀b,b<Γ.w0.heap.size→M b→Γ.M b) (NZ:∀b,I b→I' b) (Ji:∀b,I' b→I b∨fresh w w' b∨(Γ.Nw b∧b<w.heap.size∧∀x,bk s.sto x→β x≠some b)):cO Γ s a w' β I':=by
 have hw:∀b o,I b→w'.cell? ⟨b,o,none⟩=w.cell? ⟨b,o,none⟩:=fun b o hI=>eX (hk.block b (h.ib b hI) (TG b hI)) o
 have xF:∀r b,bk s.sto r→β r=some b→w'.shape? b=w.shape? b:=fun r b hd cX=>hk.shape b (h.lb r b hd cX)
 refine⟨fun t e he=>(h.env t e he).mono (fun _ _=>rfl) (fun _ h=>h) NZ hw xF,⟨fun x sc hx => ?_,h.sto.2⟩,h.par,h.new,fun b hI => ?_,fun b hI => ?_,h.aH.trans hk TI,h.size,h.defers⟩
 ·obtain⟨k1,k2⟩:=h.sto.1 x sc hx
  have wY:bk s.sto x:=by unfold bk;rw[hx];rfl
  refine⟨k1.mono rfl (fun b cX=>hk.block b (h.lb x b wY cX) (TH x b wY cX)) (fun _ _=>rfl) (fun _ h=>h) NZ hw xF,fun b cX=>⟨Nat.lt_of_lt_of_le (k2 b cX).1 hk.size,fun hI => ?_⟩⟩
  rcases Ji b hI with h1|h1|h1
  ·exact(k2 b cX).2 h1
  ·have:=(k2 b cX).1;have:=h1.1;omega
  ·exact h1.2.2 x wY cX
 ·rcases Ji b hI with h1|h1|h1
  ·exact Nat.lt_of_lt_of_le (h.ib b h1) hk.size
  ·exact h1.2
  ·exact Nat.lt_of_lt_of_le h1.2.1 hk.size
 ·rcases Ji b hI with h1|h1|h1
  ·rcases h.ii b h1 with h3|h3
   ·exact .inl h3
   ·exact .inr (h3.imp (fun h3=>⟨h3.1,Nat.lt_of_lt_of_le h3.2 hk.size⟩) id)
  ·exact .inr (.inl ⟨Nat.le_trans h.aH.size h1.1,h1.2⟩)
  ·exact .inr (h1.1.imp (fun h2=>⟨h2,Nat.lt_of_lt_of_le h1.2.1 hk.size⟩) id)
end
end Go.Proofs.YtfjfekodeplcoaaGreat.Sym
