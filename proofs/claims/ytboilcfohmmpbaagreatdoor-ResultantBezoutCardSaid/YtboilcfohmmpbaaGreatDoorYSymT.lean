/- Bezout and Accepts of the program answer as the reference does. -/
import Derived.Test.YtboilcfohmmpbaaGreatDoorYSymS
namespace Go.Proofs.YtboilcfohmmpbaaGreatDoor.Sym
open Go Go.RowKit
section
variable {P:Program} {T:Tab} {fn:Func} {Γ:Ctx} {R:Ending→World→Prop} {s s':St} {a:Act} {w:World} {ops:Array Oper} {Q:Exit→Act→World→Prop}
def floatEV(T:Tab)(n:Nat)(o:Oper)(s:St):Option EV :=
 match o.guard with
 |some _=>none
 |none=>bif dstOk n o.dst then
   match o.op with
   |.move x=>evalO s.env x
   |.fieldAddr t x f=>match opRun T s.sto o.dst (.fieldAddr t x f) (evalO s.env) .none with
    |some res=>some res.val
    |none=>none
   |_=>none
  else none
theorem fieldAddr_all{t:TypeId}{x:Operand}{f:Nat}{dst:Option Nat}{res:OpRes}{β:Nat→Option Nat}{I:Nat→Prop}(hT:TOk P T)(hr:RelB Γ s a w β I)(hrun:opRun T s.sto dst (.fieldAddr t x f) (evalO s.env) .none=some res) :
  ∃v,(∀w',(Instr.fieldAt t (a.eval x) f).run P w' = .ok v w')∧RE β (dom s.sto) I w res.val v:=by
 simp only[opRun] at hrun
 split at hrun
 ·rename_i d e hd hx
  split at hrun
  ·rename_i fs hk
   split at hrun
   ·rename_i off size agg hf
    obtain⟨ff,fl,hu,hfl,hoff,hsz,_,hin,_⟩:=struct_field (hT t d hd) hk hf
    cases hs:Nat.ble 1 size with
    |false=>simp[hs] at hrun
    |true =>
     simp only[hs,cond_true] at hrun
     have hs':1≤size:=Nat.le_of_ble_eq_true hs
     have exec:∀b o,a.eval x = .pointer (some ⟨b,o,none⟩)→∀w',(Instr.fieldAt t (a.eval x) f).run P w' = .ok (.pointer (some ⟨b,o+off,none⟩)) w':=by
      intro b o hv w'
      obtain⟨i,hi⟩:=Option.isSome_iff_exists.1 hin
      have hsize:(sizeOf fl.type).run P w' = .ok (P.cellsOf fl.type) w':=by simp[sizeOf,typeInfo,hi,Program.cellsOf]
      rw[hv]
      unfold Instr.fieldAt
      simp only[Sem.run_bind,run_underlying hu,Result.andThen_ok,hfl,Instr.sureAddr,Sem.run_pure,fieldPlace,hsize]
      rw[if_neg (by omega)]
      simp only[Sem.run_pure,Result.andThen_ok,add_addr,hoff]
     split at hrun
     ·rename_i r o
      rw[pure1_eq hrun]
      obtain⟨hL,b,hb,hv⟩:=hr.evO x _ hx
      exact⟨_,exec _ _ hv,hL,b,hb,rfl⟩
     ·rename_i cs
      rw[pure1_eq hrun]
      obtain⟨b,o,hv,hb,hc⟩:=hr.evO x _ hx
      refine⟨_,exec _ _ hv,b,o+off,rfl,hb,fun j y hy => ?_⟩
      rw[List.getElem?_drop] at hy
      have:=hc _ y hy
      rw[Nat.add_assoc]
      exact this
     ·rename_i r o
      rw[pure1_eq hrun]
      obtain⟨hL,b,hb,hv⟩:=hr.evO x _ hx
      exact⟨_,exec _ _ hv,hL,b,hb,rfl⟩
     ·cases hrun
   ·cases hrun
  ·cases hrun
 ·cases hrun
theorem float_sound(hT:TOk P T){o:Oper}{e:EV}(hr:Rel Γ s a w)(h:floatEV T Γ.n o s=some e):∃v,Yields P ops o v a∧Rel Γ ⟨setD s.env o.dst e,s.sto⟩ (a.put o.dst v) w:=by
 obtain⟨β,I,hr⟩:=hr
 unfold floatEV at h
 split at h
 ·cases h
 ·rename_i hg
  cases hd:dstOk Γ.n o.dst with
  |false=>simp[hd] at h
  |true =>
   simp only[hd,cond_true] at h
   have hw:Region.wanted o (yielded ops a.tmps)=true:=by simp[Region.wanted,hg]
   split at h
   ·rename_i x hop
    refine⟨a.eval x,.inl ⟨hw,fun w' => ?_⟩,β,I,hr.put (dstOk_spec hd) (hr.evO x e h)⟩
    unfold execOp;rw[hop];rfl
   ·rename_i t x f hop
    split at h
    ·rename_i res hres
     injection h with h;subst h
     obtain⟨v,h1,h2⟩:=fieldAddr_all hT hr hres
     refine⟨v,.inl ⟨hw,fun w' => ?_⟩,β,I,hr.put (dstOk_spec hd) h2⟩
     unfold execOp;rw[hop];simp[h1 w']
    ·cases h
   ·cases h
def floats(T:Tab)(n:Nat)(ops:Array Oper):List Nat→Array Bool→St→Option St
 |[],_,s=>some s
 |i::r,listed,s=>match ops[i]? with
  |some o=>bif Region.free .any ops listed i&&(Region.ready .any ops listed).contains i then
    match floatEV T n o s with
    |some e=>floats T n ops r (listed.setIfInBounds i true) ⟨setD s.env o.dst e,s.sto⟩
    |none=>none
   else none
  |none=>none
def headRun(P:Program)(T:Tab)(n:Nat)(ops:Array Oper):List Nat→List Hint→St→Option (List HR×St)
 |[],_,s=>some ([],s)
 |i::r,hs,s=>match ops[i]? with
  |some o=>match hRes P T n ops o (hs.headD .none) s with
   |some res=>match headRun P T n ops r hs.tail (hAdd s o.dst res) with
    |some (rs,s')=>some ((i,o,res)::rs,s')
    |none=>none
   |none=>none
  |none=>none
theorem headRun_spec{n:Nat} : ∀(hd:List Nat) (hs:List Hint) (s:St) (rs:List HR) (s':St),headRun P T n ops hd hs s=some (rs,s')→rs.map (·.1)=hd∧HRun P T n ops rs hs s∧s'=app [] rs s
 |[],hs,s,rs,s',h=>by
  injection h with h;injection h with h1 h2
  subst h1;subst h2
  exact⟨rfl,trivial,rfl⟩
 |i::r,hs,s,rs,s',h=>by
  unfold headRun at h
  split at h
  ·rename_i o ho
   split at h
   ·rename_i res hres
    split at h
    ·rename_i rs' s'' hrec
     injection h with h;injection h with h1 h2
     subst h1;subst h2
     obtain⟨g1,g2,g3⟩:=headRun_spec r hs.tail _ rs' s'' hrec
     exact⟨by simp[g1],⟨ho,hres,g2⟩,by rw[app_nil_cons];exact g3⟩
    ·cases h
   ·cases h
  ·cases h
def obsOf:List HR→List Prop
 |[]=>[]
 |(_,_,res)::rs=>res.ob++obsOf rs
theorem obsOf_spec:∀{rs:List HR},Alls (obsOf rs)→∀x∈rs,Alls x.2.2.ob
 |[],_,x,hx=>by cases hx
 |(i,o,res)::rs,h,x,hx=>by
  obtain⟨h1,h2⟩:=Alls.app h
  rcases List.mem_cons.1 hx with hx|hx
  ·subst hx;exact h1
  ·exact obsOf_spec h2 x hx
def drwStep(P:Program)(T:Tab)(n:Nat)(ops:Array Oper)(fl hd tl:List Nat)(hs:List Hint)(s:St):Option (St×List Prop) :=
 bif drawOk ops fl hd tl then
  match floats T n ops fl (Array.replicate ops.size false) s with
  |some s0=>match headRun P T n ops hd hs s0 with
   |some (rs,s1)=>bif indepB (masks ops) rs then (match stepsI P T n ops tl (hs.drop hd.length) s1 with
    |some (s2,ob)=>some (s2,obsOf rs++ob)
    |none=>none) else none
   |none=>none
  |none=>none
 else none
theorem full_cover{l:List Nat}{n:Nat}(hn:l.Nodup)(hl:l.length=n)(hs:∀i∈l,i<n)(i:Nat)(hi:i<n):i∈l:=by
 refine Classical.byContradiction fun hc => ?_
 have h1:(i::l).Nodup:=List.nodup_cons.2 ⟨hc,hn⟩
 have h2:=List.Nodup.length_le_of_subset (l₁:=i::l) (l₂:=List.range n) h1 (fun j hj=>by
  rw[List.mem_range]
  rcases List.mem_cons.1 hj with rfl|hj
  ·exact hi
  ·exact hs j hj)
 simp at h2
 omega
theorem fwd_prefix:∀(l m seen:List Nat),fwd ops seen (l++m)=true→fwd ops seen l=true
 |[],_,_,_=>rfl
 |i::l,m,seen,h=>by
  simp only[List.cons_append,fwd,Bool.and_eq_true] at h ⊢
  exact⟨h.1,fwd_prefix l m _ h.2⟩
theorem floats_any(hT:TOk P T)(hsel:Region.noSelect ops=true)(hQ:∀c a w d v,Q (.panic c) (Act.put a d v) w→Q (.panic c) a w){s0:St}{rest:Nat}(U:List Nat)
  (hnext:∀(listed:Array Bool) (a:Act) (w:World),Lst ops listed U→Rel Γ s0 a w→wpAny P .any ops Q rest listed a w) :
  ∀(fl:List Nat) (V:List Nat) (listed:Array Bool) (s:St) (a:Act) (w:World),(∀j,j∈V↔j∈U∨j∈fl)→(∀i∈fl,i ∉ U)→fl.Nodup→(∀i∈fl,i<ops.size)→Lst ops listed V→Rel Γ s a w →
   floats T Γ.n ops fl listed s=some s0→wpAny P .any ops Q (fl.length+rest) listed a w
 |[],V,listed,s,a,w,hV,_,_,_,hl,hr,h=>by
  injection h with h;subst h
  simp only[List.length_nil,Nat.zero_add]
  exact hnext listed a w ⟨hl.1,fun j hj=>by rw[hl.2 j hj,hV];simp⟩ hr
 |i::fl,V,listed,s,a,w,hV,hd,hn,hsz,hl,hr,h=>by
  unfold floats at h
  split at h
  ·rename_i o ho
   cases hb:(Region.free .any ops listed i&&(Region.ready .any ops listed).contains i) with
   |false=>rw[hb] at h;cases h
   |true =>
    rw[hb] at h
    simp only[cond_true] at h
    simp only[Bool.and_eq_true] at hb
    split at h
    ·rename_i e he
     obtain⟨v,hy,hr'⟩:=float_sound (ops:=ops) hT hr he
     obtain⟨hn1,hn2⟩:=List.nodup_cons.1 hn
     have hlt:=hsz i (by simp)
     have ih:=floats_any hT hsel hQ U hnext fl (ErU V i) (listed.setIfInBounds i true) _ (a.put o.dst v) w (fun j=>by
      rw[mem_ErU,hV]
      constructor
      ·rintro ⟨h1,h2⟩
       rcases h1 with h1|h1
       ·exact .inl h1
       ·rcases List.mem_cons.1 h1 with h1|h1
        ·exact absurd h1 h2
        ·exact .inr h1
      ·rintro (h1|h1)
       ·exact⟨.inl h1,fun e=>hd i (by simp) (e ▸ h1)⟩
       ·exact⟨.inr (by simp[h1]),fun e=>hn1 (e ▸ h1)⟩) (fun j hj=>hd j (by simp[hj])) hn2 (fun j hj=>hsz j (by simp[hj])) (hl.set hlt) hr' h
     rw[show (i::fl).length+rest=(fl.length+rest)+1 from by simp;omega]
     exact wpAny_take ho hsel hb.1 hb.2 (fun c a w hq=>hQ c a w _ _ hq) hy ih
    ·cases h
  ·cases h
theorem app_all(U:List Nat):∀(rs:List HR) (s:St),(∀x∈rs,x.1∈U)→app U rs s=s
 |[],_,_=>rfl
 |(i,o,res)::rs,s,h=>by
  show app U rs (if i∈U then s else hAdd s o.dst res)=s
  rw[if_pos (h (i,o,res) (by simp))]
  exact app_all U rs s (fun x hx=>h x (by simp[hx]))
theorem region_drw(hm:P.follows .mixedOrders=true)(hT:TOk P T)(hs:∀r,dom Γ.sin r→Γ.n≤r)(hQ:∀c a w d v,Q (.panic c) (Act.put a d v) w→Q (.panic c) a w){id:Nat}{fl hd tl:List Nat}{hints:List Hint}{ob:List Prop}(hr:Rel Γ s a w)
  (hst:drwStep P T Γ.n ops fl hd tl hints s=some (s',ob)) (hob:Alls ob) (hk:∀a' w',Rel Γ s' a' w'→Q .normal a' w'):(Code.region id ops true).wp P Q a w:=by
 refine wp_region_any hm ?_
 unfold drwStep at hst
 cases hd1:drawOk ops fl hd tl with
 |false=>simp[hd1] at hst
 |true =>
  simp only[hd1,cond_true] at hst
  split at hst
  ·rename_i s0 hfl
   split at hst
   ·rename_i rs s1 hhr
    cases hind:indepB (masks ops) rs with
    |false=>simp[hind] at hst
    |true =>
    simp only[hind,cond_true] at hst
    split at hst
    ·rename_i s2 ob2 htl
     injection hst with hst;injection hst with e1 e2
     subst e1;subst e2
     obtain⟨g1,g2⟩:=hob.app
     unfold drawOk at hd1
     simp only[Bool.and_eq_true,List.all_eq_true] at hd1
     obtain⟨⟨⟨⟨⟨⟨⟨c1,c2'⟩,c3⟩,c4⟩,c5⟩,c6⟩,c7⟩,c8⟩:=hd1
     have hlen:(fl++(hd++tl)).length=ops.size:=Nat.eq_of_beq_eq_true c1
     have hlt:∀i∈fl++(hd++tl),i<ops.size:=fun i hi=>Nat.le_of_ble_eq_true (c2' i hi)
     have hnd:=nodupB_spec c3
     have hcov:=full_cover hnd hlen hlt
     have hfw:∀i,i<ops.size→∀e∈dirOf ops i,e<ops.size:=fun i hi e he=>by
      rcases fwd_closed ops _ _ c4 i (hcov i hi) e he with h|h
      ·cases h
      ·exact hlt e h
     obtain⟨q1,q2,q3⟩:=headRun_spec hd hints s0 rs s1 hhr
     rw[q3] at htl
     have hnd2:(hd++tl).Nodup:=(List.nodup_append.1 hnd).2.1
     have hdis:∀i∈fl,i ∉ hd++tl:=fun i hi h=>(List.nodup_append.1 hnd).2.2 i hi i h rfl
     have hr':Rel Γ s a w.drew:=by
      obtain⟨β,I,hr⟩:=hr
      exact⟨β,I,hr.grow ((Bel.refl _ _).drew) (fun b h=>h) (fun b h => .inl h)⟩
     have key:=floats_any (Q:=Q) (s0:=s0) (rest:=(hd++tl).length) hT c8 hQ (hd++tl) (fun listed a w hl hrel =>
      head_any hT hs hfw (rs:=rs) q1 q2 c6 c5 c7 hind hnd2 (fun i hi=>hlt i (by simp at hi ⊢;rcases hi with h|h<;>simp[h])) (fun r hrr hne=>by
        obtain⟨i,hi⟩:=List.exists_mem_of_ne_nil r hne
        obtain⟨j,_,hj2,hj3⟩:=fwd_first ops r _ [] c4 (fun e he=>by cases he) ⟨i,by have:=hrr i hi;simp at this ⊢;rcases this with h|h<;>simp[h],hi⟩
        exact⟨j,hj2,hj3⟩) (obsOf_spec g1) htl g2 hk (hd++tl).length (hd++tl) listed a w rfl hnd2 (fun i hi=>hi) (fun i hi=>by simp[hi]) hl (fun i hi hiU e he heU=>by
        have hif:i∈fl:=by
         have:=hcov i hi
         rcases List.mem_append.1 this with h|h
         ·exact h
         ·exact absurd h hiU
        rcases fwd_closed ops fl [] (fwd_prefix fl _ [] c4) i hif e he with h|h
        ·cases h
        ·exact hdis e h heU) (by rw[app_all (hd++tl) rs s0 (fun x hx=>List.mem_append_left _ (by rw[←q1];exact List.mem_map.2 ⟨x,hx,rfl⟩))];exact hrel))
      fl (fl++(hd++tl)) (Array.replicate ops.size false) s a w.drew (fun j=>by rw[List.mem_append];exact Or.comm) hdis (List.nodup_append.1 hnd).1 (fun i hi=>hlt i (by simp[hi]))
      ⟨by simp,fun j hj=>by
       constructor
       ·intro h
        have hf:(Array.replicate ops.size false).getD j false=false:=by simp[Array.getD_eq_getD_getElem?,hj]
        rw[hf] at h;cases h
       ·intro h;exact absurd (hcov j hj) h⟩ hr' hfl
     rw[show fl.length+(hd++tl).length=ops.size from by rw[←hlen];simp] at key
     exact key
    ·cases hst
   ·cases hst
  ·cases hst
end
end Go.Proofs.YtboilcfohmmpbaaGreatDoor.Sym
