/- Lemmas for the statements of this seat. -/
import Derived.Test.YtllmkadmohkbfaaGreatDoorWSymS
namespace Go.Proofs.YtllmkadmohkbfaaGreatDoor.Sym
open Go Go.RowKit
section
variable {P:Program} {T:qU} {fn:Func} {Γ:Ctx} {R:Ending→World→Prop} {s s':St} {a:Act} {w:World} {ops:Array Oper} {Q:Exit→Act→World→Prop}
def JK(T:qU)(n:Nat)(o:Oper)(s:St):Option EV :=
 match o.guard with
 |some _=>none
 |none=>bif ry n o.dst then
   match o.op with
   |.move x=>iq s.env x
   |.fieldAddr t x f=>match fF T s.bp o.dst (.fieldAddr t x f) (iq s.env) .none with
    |some res=>some res.val
    |none=>none
   |_=>none
  else none
theorem Ir{t:TypeId}{x:Operand}{f:Nat}{dst:Option Nat}{res:uC}{β:Nat→Option Nat}{I:Nat→Prop}(hT:uj P T)(hr:iA Γ s a w β I)(aH:fF T s.bp dst (.fieldAddr t x f) (iq s.env) .none=some res) :
  ∃v,(∀w',(Instr.fieldAt t (a.eval x) f).run P w' = .ok v w')∧RE β (ee s.bp) I w res.val v:=by
 simp only[fF] at aH
 split at aH
 ·rename_i d e hd hx
  split at aH
  ·rename_i fs hk
   split at aH
   ·rename_i off size agg hf
    obtain⟨ff,fl,hu,FH,Qc,rD,_,Gk,_⟩:=yo (hT t d hd) hk hf
    cases hs:Nat.ble 1 size with
    |false=>simp[hs] at aH
    |true =>
     simp only[hs,cond_true] at aH
     have Jx:1≤size:=Nat.le_of_ble_eq_true hs
     have exec:∀b o,a.eval x = .pointer (some ⟨b,o,none⟩)→∀w',(Instr.fieldAt t (a.eval x) f).run P w' = .ok (.pointer (some ⟨b,o+off,none⟩)) w':=by
      intro b o hv w'
      obtain⟨i,hi⟩:=Option.isSome_iff_exists.1 Gk
      have CF:(sizeOf fl.type).run P w' = .ok (P.cellsOf fl.type) w':=by simp[sizeOf,typeInfo,hi,Program.cellsOf]
      rw[hv]
      unfold Instr.fieldAt
      simp only[Sem.run_bind,run_underlying hu,Result.andThen_ok,FH,Instr.sureAddr,Sem.run_pure,fieldPlace,CF]
      rw[if_neg (by omega)]
      simp only[Sem.run_pure,Result.andThen_ok,n9,Qc]
     split at aH
     ·rename_i r o
      rw[gi aH]
      obtain⟨hL,b,hb,hv⟩:=hr.Ih x _ hx
      exact⟨_,exec _ _ hv,hL,b,hb,rfl⟩
     ·rename_i cs
      rw[gi aH]
      obtain⟨b,o,hv,hb,hc⟩:=hr.Ih x _ hx
      refine⟨_,exec _ _ hv,b,o+off,rfl,hb,fun j y hy => ?_⟩
      rw[List.getElem?_drop] at hy
      have:=hc _ y hy
      rw[Nat.add_assoc]
      exact this
     ·rename_i r o
      rw[gi aH]
      obtain⟨hL,b,hb,hv⟩:=hr.Ih x _ hx
      exact⟨_,exec _ _ hv,hL,b,hb,rfl⟩
     ·cases aH
   ·cases aH
  ·cases aH
 ·cases aH
theorem K9(hT:uj P T){o:Oper}{e:EV}(hr:Rel Γ s a w)(h:JK T Γ.n o s=some e):∃v,Yields P ops o v a∧Rel Γ ⟨u6 s.env o.dst e,s.bp⟩ (a.put o.dst v) w:=by
 obtain⟨β,I,hr⟩:=hr
 unfold JK at h
 split at h
 ·cases h
 ·rename_i hg
  cases hd:ry Γ.n o.dst with
  |false=>simp[hd] at h
  |true =>
   simp only[hd,cond_true] at h
   have hw:Region.wanted o (yielded ops a.tmps)=true:=by simp[Region.wanted,hg]
   split at h
   ·rename_i x Bc
    refine⟨a.eval x,.inl ⟨hw,fun w' => ?_⟩,β,I,hr.put (kf hd) (hr.Ih x e h)⟩
    unfold execOp;rw[Bc];rfl
   ·rename_i t x f Bc
    split at h
    ·rename_i res u7
     injection h with h;subst h
     obtain⟨v,h1,h2⟩:=Ir hT hr u7
     refine⟨v,.inl ⟨hw,fun w' => ?_⟩,β,I,hr.put (kf hd) h2⟩
     unfold execOp;rw[Bc];simp[h1 w']
    ·cases h
   ·cases h
def Ef(T:qU)(n:Nat)(ops:Array Oper):List Nat→Array Bool→St→Option St
 |[],_,s=>some s
 |i::r,listed,s=>match ops[i]? with
  |some o=>bif Region.free .any ops listed i&&(Region.ready .any ops listed).contains i then
    match JK T n o s with
    |some e=>Ef T n ops r (listed.setIfInBounds i true) ⟨u6 s.env o.dst e,s.bp⟩
    |none=>none
   else none
  |none=>none
def FN(P:Program)(T:qU)(n:Nat)(ops:Array Oper):List Nat→List Hint→St→Option (List HR×St)
 |[],_,s=>some ([],s)
 |i::r,hs,s=>match ops[i]? with
  |some o=>match JH P T n ops o (hs.headD .none) s with
   |some res=>match FN P T n ops r hs.tail (hAdd s o.dst res) with
    |some (rs,s')=>some ((i,o,res)::rs,s')
    |none=>none
   |none=>none
  |none=>none
theorem CW{n:Nat} : ∀(hd:List Nat) (hs:List Hint) (s:St) (rs:List HR) (s':St),FN P T n ops hd hs s=some (rs,s')→rs.map (·.1)=hd∧Iq P T n ops rs hs s∧s'=app [] rs s
 |[],hs,s,rs,s',h=>by
  injection h with h;injection h with h1 h2
  subst h1;subst h2
  exact⟨rfl,trivial,rfl⟩
 |i::r,hs,s,rs,s',h=>by
  unfold FN at h
  split at h
  ·rename_i o ho
   split at h
   ·rename_i res u7
    split at h
    ·rename_i rs' Yd Zq
     injection h with h;injection h with h1 h2
     subst h1;subst h2
     obtain⟨g1,g2,g3⟩:=CW r hs.tail _ rs' Yd Zq
     exact⟨by simp[g1],⟨ho,u7,g2⟩,by rw[yw];exact g3⟩
    ·cases h
   ·cases h
  ·cases h
def obsOf:List HR→List Prop
 |[]=>[]
 |(_,_,res)::rs=>res.ob++obsOf rs
theorem GR:∀{rs:List HR},je (obsOf rs)→∀x∈rs,je x.2.2.ob
 |[],_,x,hx=>by cases hx
 |(i,o,res)::rs,h,x,hx=>by
  obtain⟨h1,h2⟩:=je.app h
  rcases List.mem_cons.1 hx with hx|hx
  ·subst hx;exact h1
  ·exact GR h2 x hx
def JL(P:Program)(T:qU)(n:Nat)(ops:Array Oper)(fl hd tl:List Nat)(hs:List Hint)(s:St):Option (St×List Prop) :=
 bif MN ops fl hd tl then
  match Ef T n ops fl (Array.replicate ops.size false) s with
  |some s0=>match FN P T n ops hd hs s0 with
   |some (rs,s1)=>bif BL (vd ops) rs then (match GO P T n ops tl (hs.drop hd.length) s1 with
    |some (s2,ob)=>some (s2,obsOf rs++ob)
    |none=>none) else none
   |none=>none
  |none=>none
 else none
theorem MP{l:List Nat}{n:Nat}(hn:l.Nodup)(hl:l.length=n)(hs:∀i∈l,i<n)(i:Nat)(hi:i<n):i∈l:=by
 refine Classical.byContradiction fun hc => ?_
 have h1:(i::l).Nodup:=List.nodup_cons.2 ⟨hc,hn⟩
 have h2:=List.Nodup.length_le_of_subset (l₁:=i::l) (l₂:=List.range n) h1 (fun j hj=>by
  rw[List.mem_range]
  rcases List.mem_cons.1 hj with rfl|hj
  ·exact hi
  ·exact hs j hj)
 simp at h2
 omega
theorem GS:∀(l m seen:List Nat),fwd ops seen (l++m)=true→fwd ops seen l=true
 |[],_,_,_=>rfl
 |i::l,m,seen,h=>by
  simp only[List.cons_append,fwd,Bool.and_eq_true] at h ⊢
  exact⟨h.1,GS l m _ h.2⟩
theorem BM(hT:uj P T)(Xa:Region.noSelect ops=true)(hQ:∀c a w d v,Q (.panic c) (Act.put a d v) w→Q (.panic c) a w){s0:St}{rest:Nat}(U:List Nat)
  (NS:∀(listed:Array Bool) (a:Act) (w:World),QC ops listed U→Rel Γ s0 a w→wpAny P .any ops Q rest listed a w) :
  ∀(fl:List Nat) (V:List Nat) (listed:Array Bool) (s:St) (a:Act) (w:World),(∀j,j∈V↔j∈U∨j∈fl)→(∀i∈fl,i ∉ U)→fl.Nodup→(∀i∈fl,i<ops.size)→QC ops listed V→Rel Γ s a w →
   Ef T Γ.n ops fl listed s=some s0→wpAny P .any ops Q (fl.length+rest) listed a w
 |[],V,listed,s,a,w,hV,_,_,_,hl,hr,h=>by
  injection h with h;subst h
  simp only[List.length_nil,Nat.zero_add]
  exact NS listed a w ⟨hl.1,fun j hj=>by rw[hl.2 j hj,hV];simp⟩ hr
 |i::fl,V,listed,s,a,w,hV,hd,hn,rD,hl,hr,h=>by
  unfold Ef at h
  split at h
  ·rename_i o ho
   cases hb:(Region.free .any ops listed i&&(Region.ready .any ops listed).contains i) with
   |false=>rw[hb] at h;cases h
   |true =>
    rw[hb] at h
    simp only[cond_true] at h
    simp only[Bool.and_eq_true] at hb
    split at h
    ·rename_i e he
     obtain⟨v,hy,jn⟩:=K9 (ops:=ops) hT hr he
     obtain⟨QE,Fw⟩:=List.nodup_cons.1 hn
     have bH:=rD i (by simp)
     have ih:=BM hT Xa hQ U NS fl (K6 V i) (listed.setIfInBounds i true) _ (a.put o.dst v) w (fun j=>by
      rw[uJ,hV]
      constructor
      ·rintro ⟨h1,h2⟩
       rcases h1 with h1|h1
       ·exact .inl h1
       ·rcases List.mem_cons.1 h1 with h1|h1
        ·exact absurd h1 h2
        ·exact .inr h1
      ·rintro (h1|h1)
       ·exact⟨.inl h1,fun e=>hd i (by simp) (e ▸ h1)⟩
       ·exact⟨.inr (by simp[h1]),fun e=>QE (e ▸ h1)⟩) (fun j hj=>hd j (by simp[hj])) Fw (fun j hj=>rD j (by simp[hj])) (hl.set bH) jn h
     rw[show (i::fl).length+rest=(fl.length+rest)+1 from by simp;omega]
     exact wpAny_take ho Xa hb.1 hb.2 (fun c a w hq=>hQ c a w _ _ hq) hy ih
    ·cases h
  ·cases h
theorem N8(U:List Nat):∀(rs:List HR) (s:St),(∀x∈rs,x.1∈U)→app U rs s=s
 |[],_,_=>rfl
 |(i,o,res)::rs,s,h=>by
  show app U rs (if i∈U then s else hAdd s o.dst res)=s
  rw[if_pos (h (i,o,res) (by simp))]
  exact N8 U rs s (fun x hx=>h x (by simp[hx]))
theorem MQ(hm:P.follows .mixedOrders=true)(hT:uj P T)(hs:∀r,ee Γ.sin r→Γ.n≤r)(hQ:∀c a w d v,Q (.panic c) (Act.put a d v) w→Q (.panic c) a w){id:Nat}{fl hd tl:List Nat}{hints:List Hint}{ob:List Prop}(hr:Rel Γ s a w)
  (bz:JL P T Γ.n ops fl hd tl hints s=some (s',ob)) (fK:je ob) (hk:∀a' w',Rel Γ s' a' w'→Q .normal a' w'):(Code.region id ops true).wp P Q a w:=by
 refine wp_region_any hm ?_
 unfold JL at bz
 cases AI:MN ops fl hd tl with
 |false=>simp[AI] at bz
 |true =>
  simp only[AI,cond_true] at bz
  split at bz
  ·rename_i s0 FH
   split at bz
   ·rename_i rs s1 hhr
    cases QI:BL (vd ops) rs with
    |false=>simp[QI] at bz
    |true =>
    simp only[QI,cond_true] at bz
    split at bz
    ·rename_i s2 ob2 DM
     injection bz with bz;injection bz with e1 e2
     subst e1;subst e2
     obtain⟨g1,g2⟩:=fK.app
     unfold MN at AI
     simp only[Bool.and_eq_true,List.all_eq_true] at AI
     obtain⟨⟨⟨⟨⟨⟨⟨c1,c2'⟩,c3⟩,c4⟩,c5⟩,c6⟩,c7⟩,c8⟩:=AI
     have hlen:(fl++(hd++tl)).length=ops.size:=Nat.eq_of_beq_eq_true c1
     have bH:∀i∈fl++(hd++tl),i<ops.size:=fun i hi=>Nat.le_of_ble_eq_true (c2' i hi)
     have DY:=Aa c3
     have UX:=MP DY hlen bH
     have IZ:∀i,i<ops.size→∀e∈oe ops i,e<ops.size:=fun i hi e he=>by
      rcases BJ ops _ _ c4 i (UX i hi) e he with h|h
      ·cases h
      ·exact bH e h
     obtain⟨q1,q2,q3⟩:=CW hd hints s0 rs s1 hhr
     rw[q3] at DM
     have QJ:(hd++tl).Nodup:=(List.nodup_append.1 DY).2.1
     have QM:∀i∈fl,i ∉ hd++tl:=fun i hi h=>(List.nodup_append.1 DY).2.2 i hi i h rfl
     have jn:Rel Γ s a w.drew:=by
      obtain⟨β,I,hr⟩:=hr
      exact⟨β,I,hr.grow ((Ib.refl _ _).drew) (fun b h=>h) (fun b h => .inl h)⟩
     have key:=BM (Q:=Q) (s0:=s0) (rest:=(hd++tl).length) hT c8 hQ (hd++tl) (fun listed a w hl qp =>
      QH hT hs IZ (rs:=rs) q1 q2 c6 c5 c7 QI QJ (fun i hi=>bH i (by simp at hi ⊢;rcases hi with h|h<;>simp[h])) (fun r SS dk=>by
        obtain⟨i,hi⟩:=List.exists_mem_of_ne_nil r dk
        obtain⟨j,_,Fs,Zs⟩:=Ed ops r _ [] c4 (fun e he=>by cases he) ⟨i,by have:=SS i hi;simp at this ⊢;rcases this with h|h<;>simp[h],hi⟩
        exact⟨j,Fs,Zs⟩) (GR g1) DM g2 hk (hd++tl).length (hd++tl) listed a w rfl QJ (fun i hi=>hi) (fun i hi=>by simp[hi]) hl (fun i hi PT e he Zp=>by
        have hif:i∈fl:=by
         have:=UX i hi
         rcases List.mem_append.1 this with h|h
         ·exact h
         ·exact absurd h PT
        rcases BJ ops fl [] (GS fl _ [] c4) i hif e he with h|h
        ·cases h
        ·exact QM e h Zp) (by rw[N8 (hd++tl) rs s0 (fun x hx=>List.mem_append_left _ (by rw[←q1];exact List.mem_map.2 ⟨x,hx,rfl⟩))];exact qp))
      fl (fl++(hd++tl)) (Array.replicate ops.size false) s a w.drew (fun j=>by rw[List.mem_append];exact Or.comm) QM (List.nodup_append.1 DY).1 (fun i hi=>bH i (by simp[hi]))
      ⟨by simp,fun j hj=>by
       constructor
       ·intro h
        have hf:(Array.replicate ops.size false).getD j false=false:=by simp[Array.getD_eq_getD_getElem?,hj]
        rw[hf] at h;cases h
       ·intro h;exact absurd (UX j hj) h⟩ jn FH
     rw[show fl.length+(hd++tl).length=ops.size from by rw[←hlen];simp] at key
     exact key
    ·cases bz
   ·cases bz
  ·cases bz
end
end Go.Proofs.YtllmkadmohkbfaaGreatDoor.Sym
