/- Lemmas for the statements of this seat. -/
import Derived.Test.YtfjfekodeplcoaaGreatWSymS
namespace Go.Proofs.YtfjfekodeplcoaaGreat.Sym
open Go Go.RowKit
section
variable {P:Program} {T:jZ} {fn:Func} {Γ:Ctx} {R:Ending→World→Prop} {s s':St} {a:Act} {w:World} {ops:Array Oper} {Q:Exit→Act→World→Prop}
def AZ(T:jZ)(n:Nat)(o:Oper)(s:St):Option EV :=
 match o.guard with
 |some _=>none
 |none=>bif jH n o.dst then
   match o.op with
   |.move x=>c9 s.env x
   |.fieldAddr t x f=>match b9 T s.sto o.dst (.fieldAddr t x f) (c9 s.env) .none with
    |some res=>some res.val
    |none=>none
   |_=>none
  else none
theorem zG{t:TypeId}{x:Operand}{f:Nat}{dst:Option Nat}{res:mW}{β:Nat→Option Nat}{I:Nat→Prop}(hT:mN P T)(hr:cO Γ s a w β I)(ax:b9 T s.sto dst (.fieldAddr t x f) (c9 s.env) .none=some res) :
  ∃v,(∀w',(Instr.fieldAt t (a.eval x) f).run P w' = .ok v w')∧RE β (bk s.sto) I w res.val v:=by
 simp only[b9] at ax
 split at ax
 ·rename_i d e hd hx
  split at ax
  ·rename_i fs hk
   split at ax
   ·rename_i off size agg hf
    obtain⟨ff,fl,hu,FV,G9,jo,_,tf,_⟩:=qn (hT t d hd) hk hf
    cases hs:Nat.ble 1 size with
    |false=>simp[hs] at ax
    |true =>
     simp only[hs,cond_true] at ax
     have G7:1≤size:=Nat.le_of_ble_eq_true hs
     have exec:∀b o,a.eval x = .pointer (some ⟨b,o,none⟩)→∀w',(Instr.fieldAt t (a.eval x) f).run P w' = .ok (.pointer (some ⟨b,o+off,none⟩)) w':=by
      intro b o hv w'
      obtain⟨i,hi⟩:=Option.isSome_iff_exists.1 tf
      have pI:(sizeOf fl.type).run P w' = .ok (P.cellsOf fl.type) w':=by simp[sizeOf,typeInfo,hi,Program.cellsOf]
      rw[hv]
      unfold Instr.fieldAt
      simp only[Sem.run_bind,run_underlying hu,Result.andThen_ok,FV,Instr.sureAddr,Sem.run_pure,fieldPlace,pI]
      rw[if_neg (by omega)]
      simp only[Sem.run_pure,Result.andThen_ok,gk,G9]
     split at ax
     ·rename_i r o
      rw[cp ax]
      obtain⟨hL,b,hb,hv⟩:=hr.BW x _ hx
      exact⟨_,exec _ _ hv,hL,b,hb,rfl⟩
     ·rename_i cs
      rw[cp ax]
      obtain⟨b,o,hv,hb,hc⟩:=hr.BW x _ hx
      refine⟨_,exec _ _ hv,b,o+off,rfl,hb,fun j y hy => ?_⟩
      rw[List.getElem?_drop] at hy
      have:=hc _ y hy
      rw[Nat.add_assoc]
      exact this
     ·rename_i r o
      rw[cp ax]
      obtain⟨hL,b,hb,hv⟩:=hr.BW x _ hx
      exact⟨_,exec _ _ hv,hL,b,hb,rfl⟩
     ·cases ax
   ·cases ax
  ·cases ax
 ·cases ax
theorem CF(hT:mN P T){o:Oper}{e:EV}(hr:Rel Γ s a w)(h:AZ T Γ.n o s=some e):∃v,Yields P ops o v a∧Rel Γ ⟨nj s.env o.dst e,s.sto⟩ (a.put o.dst v) w:=by
 obtain⟨β,I,hr⟩:=hr
 unfold AZ at h
 split at h
 ·cases h
 ·rename_i hg
  cases hd:jH Γ.n o.dst with
  |false=>simp[hd] at h
  |true =>
   simp only[hd,cond_true] at h
   have hw:Region.wanted o (yielded ops a.tmps)=true:=by simp[Region.wanted,hg]
   split at h
   ·rename_i x rh
    refine⟨a.eval x,.inl ⟨hw,fun w' => ?_⟩,β,I,hr.put (eb hd) (hr.BW x e h)⟩
    unfold execOp;rw[rh];rfl
   ·rename_i t x f rh
    split at h
    ·rename_i res nQ
     injection h with h;subst h
     obtain⟨v,h1,h2⟩:=zG hT hr nQ
     refine⟨v,.inl ⟨hw,fun w' => ?_⟩,β,I,hr.put (eb hd) h2⟩
     unfold execOp;rw[rh];simp[h1 w']
    ·cases h
   ·cases h
def vo(T:jZ)(n:Nat)(ops:Array Oper):List Nat→Array Bool→St→Option St
 |[],_,s=>some s
 |i::r,bI,s=>match ops[i]? with
  |some o=>bif Region.free .any ops bI i&&(Region.ready .any ops bI).contains i then
    match AZ T n o s with
    |some e=>vo T n ops r (bI.setIfInBounds i true) ⟨nj s.env o.dst e,s.sto⟩
    |none=>none
   else none
  |none=>none
def w8(P:Program)(T:jZ)(n:Nat)(ops:Array Oper):List Nat→List Hint→St→Option (List HR×St)
 |[],_,s=>some ([],s)
 |i::r,hs,s=>match ops[i]? with
  |some o=>match AW P T n ops o (hs.headD .none) s with
   |some res=>match w8 P T n ops r hs.tail (hAdd s o.dst res) with
    |some (rs,s')=>some ((i,o,res)::rs,s')
    |none=>none
   |none=>none
  |none=>none
theorem uu{n:Nat} : ∀(hd:List Nat) (hs:List Hint) (s:St) (rs:List HR) (s':St),w8 P T n ops hd hs s=some (rs,s')→rs.map (·.1)=hd∧zF P T n ops rs hs s∧s'=app [] rs s
 |[],hs,s,rs,s',h=>by
  injection h with h;injection h with h1 h2
  subst h1;subst h2
  exact⟨rfl,trivial,rfl⟩
 |i::r,hs,s,rs,s',h=>by
  unfold w8 at h
  split at h
  ·rename_i o ho
   split at h
   ·rename_i res nQ
    split at h
    ·rename_i T1 Pp QF
     injection h with h;injection h with h1 h2
     subst h1;subst h2
     obtain⟨g1,g2,g3⟩:=uu r hs.tail _ T1 Pp QF
     exact⟨by simp[g1],⟨ho,nQ,g2⟩,by rw[qw];exact g3⟩
    ·cases h
   ·cases h
  ·cases h
def obsOf:List HR→List Prop
 |[]=>[]
 |(_,_,res)::rs=>res.ob++obsOf rs
theorem ye:∀{rs:List HR},dw (obsOf rs)→∀x∈rs,dw x.2.2.ob
 |[],_,x,hx=>by cases hx
 |(i,o,res)::rs,h,x,hx=>by
  obtain⟨h1,h2⟩:=dw.app h
  rcases List.mem_cons.1 hx with hx|hx
  ·subst hx;exact h1
  ·exact ye h2 x hx
def A0(P:Program)(T:jZ)(n:Nat)(ops:Array Oper)(fl hd tl:List Nat)(hs:List Hint)(s:St):Option (St×List Prop) :=
 bif Eb ops fl hd tl then
  match vo T n ops fl (Array.replicate ops.size false) s with
  |some s0=>match w8 P T n ops hd hs s0 with
   |some (rs,s1)=>bif tv (nV ops) rs then (match yb P T n ops tl (hs.drop hd.length) s1 with
    |some (s2,ob)=>some (s2,obsOf rs++ob)
    |none=>none) else none
   |none=>none
  |none=>none
 else none
theorem Ed{l:List Nat}{n:Nat}(hn:l.Nodup)(hl:l.length=n)(hs:∀i∈l,i<n)(i:Nat)(hi:i<n):i∈l:=by
 refine Classical.byContradiction fun hc => ?_
 have h1:(i::l).Nodup:=List.nodup_cons.2 ⟨hc,hn⟩
 have h2:=List.Nodup.length_le_of_subset (l₁:=i::l) (l₂:=List.range n) h1 (fun j hj=>by
  rw[List.mem_range]
  rcases List.mem_cons.1 hj with rfl|hj
  ·exact hi
  ·exact hs j hj)
 simp at h2
 omega
theorem yf:∀(l m seen:List Nat),fwd ops seen (l++m)=true→fwd ops seen l=true
 |[],_,_,_=>rfl
 |i::l,m,seen,h=>by
  simp only[List.cons_append,fwd,Bool.and_eq_true] at h ⊢
  exact⟨h.1,yf l m _ h.2⟩
theorem tx(hT:mN P T)(Og:Region.noSelect ops=true)(hQ:∀c a w d v,Q (.panic c) (Act.put a d v) w→Q (.panic c) a w){s0:St}{rest:Nat}(U:List Nat)
  (zX:∀(bI:Array Bool) (a:Act) (w:World),HA ops bI U→Rel Γ s0 a w→wpAny P .any ops Q rest bI a w) :
  ∀(fl:List Nat) (V:List Nat) (bI:Array Bool) (s:St) (a:Act) (w:World),(∀j,j∈V↔j∈U∨j∈fl)→(∀i∈fl,i ∉ U)→fl.Nodup→(∀i∈fl,i<ops.size)→HA ops bI V→Rel Γ s a w →
   vo T Γ.n ops fl bI s=some s0→wpAny P .any ops Q (fl.length+rest) bI a w
 |[],V,bI,s,a,w,hV,_,_,_,hl,hr,h=>by
  injection h with h;subst h
  simp only[List.length_nil,Nat.zero_add]
  exact zX bI a w ⟨hl.1,fun j hj=>by rw[hl.2 j hj,hV];simp⟩ hr
 |i::fl,V,bI,s,a,w,hV,hd,hn,jo,hl,hr,h=>by
  unfold vo at h
  split at h
  ·rename_i o ho
   cases hb:(Region.free .any ops bI i&&(Region.ready .any ops bI).contains i) with
   |false=>rw[hb] at h;cases h
   |true =>
    rw[hb] at h
    simp only[cond_true] at h
    simp only[Bool.and_eq_true] at hb
    split at h
    ·rename_i e he
     obtain⟨v,hy,dx⟩:=CF (ops:=ops) hT hr he
     obtain⟨Dx,zp⟩:=List.nodup_cons.1 hn
     have cN:=jo i (by simp)
     have ih:=tx hT Og hQ U zX fl (CC V i) (bI.setIfInBounds i true) _ (a.put o.dst v) w (fun j=>by
      rw[np,hV]
      constructor
      ·rintro ⟨h1,h2⟩
       rcases h1 with h1|h1
       ·exact .inl h1
       ·rcases List.mem_cons.1 h1 with h1|h1
        ·exact absurd h1 h2
        ·exact .inr h1
      ·rintro (h1|h1)
       ·exact⟨.inl h1,fun e=>hd i (by simp) (e ▸ h1)⟩
       ·exact⟨.inr (by simp[h1]),fun e=>Dx (e ▸ h1)⟩) (fun j hj=>hd j (by simp[hj])) zp (fun j hj=>jo j (by simp[hj])) (hl.set cN) dx h
     rw[show (i::fl).length+rest=(fl.length+rest)+1 from by simp;omega]
     exact wpAny_take ho Og hb.1 hb.2 (fun c a w hq=>hQ c a w _ _ hq) hy ih
    ·cases h
  ·cases h
theorem E5(U:List Nat):∀(rs:List HR) (s:St),(∀x∈rs,x.1∈U)→app U rs s=s
 |[],_,_=>rfl
 |(i,o,res)::rs,s,h=>by
  show app U rs (if i∈U then s else hAdd s o.dst res)=s
  rw[if_pos (h (i,o,res) (by simp))]
  exact E5 U rs s (fun x hx=>h x (by simp[hx]))
theorem Ee(hm:P.follows .mixedOrders=true)(hT:mN P T)(hs:∀r,bk Γ.sin r→Γ.n≤r)(hQ:∀c a w d v,Q (.panic c) (Act.put a d v) w→Q (.panic c) a w){id:Nat}{fl hd tl:List Nat}{hints:List Hint}{ob:List Prop}(hr:Rel Γ s a w)
  (aP:A0 P T Γ.n ops fl hd tl hints s=some (s',ob)) (cd:dw ob) (hk:∀a' w',Rel Γ s' a' w'→Q .normal a' w'):(Code.region id ops true).wp P Q a w:=by
 refine wp_region_any hm ?_
 unfold A0 at aP
 cases ri:Eb ops fl hd tl with
 |false=>simp[ri] at aP
 |true =>
  simp only[ri,cond_true] at aP
  split at aP
  ·rename_i s0 FV
   split at aP
   ·rename_i rs s1 T2
    cases HF:tv (nV ops) rs with
    |false=>simp[HF] at aP
    |true =>
    simp only[HF,cond_true] at aP
    split at aP
    ·rename_i s2 ob2 vn
     injection aP with aP;injection aP with e1 e2
     subst e1;subst e2
     obtain⟨g1,g2⟩:=cd.app
     unfold Eb at ri
     simp only[Bool.and_eq_true,List.all_eq_true] at ri
     obtain⟨⟨⟨⟨⟨⟨⟨c1,T3⟩,c3⟩,c4⟩,c5⟩,c6⟩,c7⟩,c8⟩:=ri
     have hlen:(fl++(hd++tl)).length=ops.size:=Nat.eq_of_beq_eq_true c1
     have cN:∀i∈fl++(hd++tl),i<ops.size:=fun i hi=>Nat.le_of_ble_eq_true (T3 i hi)
     have sN:=rE c3
     have L8:=Ed sN hlen cN
     have Ah:∀i,i<ops.size→∀e∈iq ops i,e<ops.size:=fun i hi e he=>by
      rcases tt ops _ _ c4 i (L8 i hi) e he with h|h
      ·cases h
      ·exact cN e h
     obtain⟨q1,q2,q3⟩:=uu hd hints s0 rs s1 T2
     rw[q3] at vn
     have HG:(hd++tl).Nodup:=(List.nodup_append.1 sN).2.1
     have HK:∀i∈fl,i ∉ hd++tl:=fun i hi h=>(List.nodup_append.1 sN).2.2 i hi i h rfl
     have dx:Rel Γ s a w.drew:=by
      obtain⟨β,I,hr⟩:=hr
      exact⟨β,I,hr.grow ((wx.refl _ _).drew) (fun b h=>h) (fun b h => .inl h)⟩
     have key:=tx (Q:=Q) (s0:=s0) (rest:=(hd++tl).length) hT c8 hQ (hd++tl) (fun bI a w hl jL =>
      HD hT hs Ah (rs:=rs) q1 q2 c6 c5 c7 HF HG (fun i hi=>cN i (by simp at hi ⊢;rcases hi with h|h<;>simp[h])) (fun r QC iN=>by
        obtain⟨i,hi⟩:=List.exists_mem_of_ne_nil r iN
        obtain⟨j,_,DZ,QG⟩:=vl ops r _ [] c4 (fun e he=>by cases he) ⟨i,by have:=QC i hi;simp at this ⊢;rcases this with h|h<;>simp[h],hi⟩
        exact⟨j,DZ,QG⟩) (ye g1) vn g2 hk (hd++tl).length (hd++tl) bI a w rfl HG (fun i hi=>hi) (fun i hi=>by simp[hi]) hl (fun i hi GM e he QE=>by
        have T4:i∈fl:=by
         have:=L8 i hi
         rcases List.mem_append.1 this with h|h
         ·exact h
         ·exact absurd h GM
        rcases tt ops fl [] (yf fl _ [] c4) i T4 e he with h|h
        ·cases h
        ·exact HK e h QE) (by rw[E5 (hd++tl) rs s0 (fun x hx=>List.mem_append_left _ (by rw[←q1];exact List.mem_map.2 ⟨x,hx,rfl⟩))];exact jL))
      fl (fl++(hd++tl)) (Array.replicate ops.size false) s a w.drew (fun j=>by rw[List.mem_append];exact Or.comm) HK (List.nodup_append.1 sN).1 (fun i hi=>cN i (by simp[hi]))
      ⟨by simp,fun j hj=>by
       constructor
       ·intro h
        have hf:(Array.replicate ops.size false).getD j false=false:=by simp[Array.getD_eq_getD_getElem?,hj]
        rw[hf] at h;cases h
       ·intro h;exact absurd (L8 j hj) h⟩ dx FV
     rw[show fl.length+(hd++tl).length=ops.size from by rw[←hlen];simp] at key
     exact key
    ·cases aP
   ·cases aP
  ·cases aP
end
end Go.Proofs.YtfjfekodeplcoaaGreat.Sym
