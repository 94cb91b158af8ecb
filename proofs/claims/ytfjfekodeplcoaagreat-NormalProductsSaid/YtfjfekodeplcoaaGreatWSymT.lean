/- Lemmas for the statements of this seat. -/
import Derived.Test.YtfjfekodeplcoaaGreatWSymS
namespace Go.Proofs.YtfjfekodeplcoaaGreat.Sym
open Go Go.RowKit
section
variable {P:Program} {T:ja} {fn:Func} {Γ:Ctx} {R:Ending→World→Prop} {s s':St} {a:Act} {w:World} {ops:Array Oper} {Q:Exit→Act→World→Prop}
def BU(T:ja)(n:Nat)(o:Oper)(s:St):Option EV :=
 match o.guard with
 |some _=>none
 |none=>bif gp n o.dst then
   match o.op with
   |.move x=>cA s.env x
   |.fieldAddr t x f=>match cr T s.sto o.dst (.fieldAddr t x f) (cA s.env) .none with
    |some res=>some res.val
    |none=>none
   |_=>none
  else none
theorem AI{t:TypeId}{x:Operand}{f:Nat}{dst:Option Nat}{res:mU}{β:Nat→Option Nat}{I:Nat→Prop}(hT:lH P T)(hr:cq Γ s a w β I)(aw:cr T s.sto dst (.fieldAddr t x f) (cA s.env) .none=some res) :
  ∃v,(∀w',(Instr.fieldAt t (a.eval x) f).run P w' = .ok v w')∧RE β (aS s.sto) I w res.val v:=by
 simp only[cr] at aw
 split at aw
 ·rename_i d e hd hx
  split at aw
  ·rename_i fs hk
   split at aw
   ·rename_i off size agg hf
    obtain⟨ff,fl,hu,FO,HQ,jC,_,tD,_⟩:=qm (hT t d hd) hk hf
    cases hs:Nat.ble 1 size with
    |false=>simp[hs] at aw
    |true =>
     simp only[hs,cond_true] at aw
     have EB:1≤size:=Nat.le_of_ble_eq_true hs
     have exec:∀b o,a.eval x = .pointer (some ⟨b,o,none⟩)→∀w',(Instr.fieldAt t (a.eval x) f).run P w' = .ok (.pointer (some ⟨b,o+off,none⟩)) w':=by
      intro b o hv w'
      obtain⟨i,hi⟩:=Option.isSome_iff_exists.1 tD
      have pG:(sizeOf fl.type).run P w' = .ok (P.cellsOf fl.type) w':=by simp[sizeOf,typeInfo,hi,Program.cellsOf]
      rw[hv]
      unfold Instr.fieldAt
      simp only[Sem.run_bind,run_underlying hu,Result.andThen_ok,FO,Instr.sureAddr,Sem.run_pure,fieldPlace,pG]
      rw[if_neg (by omega)]
      simp only[Sem.run_pure,Result.andThen_ok,eC,HQ]
     split at aw
     ·rename_i r o
      rw[cz aw]
      obtain⟨hL,b,hb,hv⟩:=hr.uD x _ hx
      exact⟨_,exec _ _ hv,hL,b,hb,rfl⟩
     ·rename_i cs
      rw[cz aw]
      obtain⟨b,o,hv,hb,hc⟩:=hr.uD x _ hx
      refine⟨_,exec _ _ hv,b,o+off,rfl,hb,fun j y hy => ?_⟩
      rw[List.getElem?_drop] at hy
      have:=hc _ y hy
      rw[Nat.add_assoc]
      exact this
     ·rename_i r o
      rw[cz aw]
      obtain⟨hL,b,hb,hv⟩:=hr.uD x _ hx
      exact⟨_,exec _ _ hv,hL,b,hb,rfl⟩
     ·cases aw
   ·cases aw
  ·cases aw
 ·cases aw
theorem Dm(hT:lH P T){o:Oper}{e:EV}(hr:Rel Γ s a w)(h:BU T Γ.n o s=some e):∃v,Yields P ops o v a∧Rel Γ ⟨jg s.env o.dst e,s.sto⟩ (a.put o.dst v) w:=by
 obtain⟨β,I,hr⟩:=hr
 unfold BU at h
 split at h
 ·cases h
 ·rename_i hg
  cases hd:gp Γ.n o.dst with
  |false=>simp[hd] at h
  |true =>
   simp only[hd,cond_true] at h
   have hw:Region.wanted o (yielded ops a.tmps)=true:=by simp[Region.wanted,hg]
   split at h
   ·rename_i x ml
    refine⟨a.eval x,.inl ⟨hw,fun w' => ?_⟩,β,I,hr.put (c9 hd) (hr.uD x e h)⟩
    unfold execOp;rw[ml];rfl
   ·rename_i t x f ml
    split at h
    ·rename_i res nP
     injection h with h;subst h
     obtain⟨v,h1,h2⟩:=AI hT hr nP
     refine⟨v,.inl ⟨hw,fun w' => ?_⟩,β,I,hr.put (c9 hd) h2⟩
     unfold execOp;rw[ml];simp[h1 w']
    ·cases h
   ·cases h
def wo(T:ja)(n:Nat)(ops:Array Oper):List Nat→Array Bool→St→Option St
 |[],_,s=>some s
 |i::r,bQ,s=>match ops[i]? with
  |some o=>bif Region.free .any ops bQ i&&(Region.ready .any ops bQ).contains i then
    match BU T n o s with
    |some e=>wo T n ops r (bQ.setIfInBounds i true) ⟨jg s.env o.dst e,s.sto⟩
    |none=>none
   else none
  |none=>none
def x6(P:Program)(T:ja)(n:Nat)(ops:Array Oper):List Nat→List Hint→St→Option (List HR×St)
 |[],_,s=>some ([],s)
 |i::r,hs,s=>match ops[i]? with
  |some o=>match BR P T n ops o (hs.headD .none) s with
   |some res=>match x6 P T n ops r hs.tail (hAdd s o.dst res) with
    |some (rs,s')=>some ((i,o,res)::rs,s')
    |none=>none
   |none=>none
  |none=>none
theorem uW{n:Nat} : ∀(hd:List Nat) (hs:List Hint) (s:St) (rs:List HR) (s':St),x6 P T n ops hd hs s=some (rs,s')→rs.map (·.1)=hd∧AH P T n ops rs hs s∧s'=app [] rs s
 |[],hs,s,rs,s',h=>by
  injection h with h;injection h with h1 h2
  subst h1;subst h2
  exact⟨rfl,trivial,rfl⟩
 |i::r,hs,s,rs,s',h=>by
  unfold x6 at h
  split at h
  ·rename_i o ho
   split at h
   ·rename_i res nP
    split at h
    ·rename_i VH QJ R1
     injection h with h;injection h with h1 h2
     subst h1;subst h2
     obtain⟨g1,g2,g3⟩:=uW r hs.tail _ VH QJ R1
     exact⟨by simp[g1],⟨ho,nP,g2⟩,by rw[qx];exact g3⟩
    ·cases h
   ·cases h
  ·cases h
def obsOf:List HR→List Prop
 |[]=>[]
 |(_,_,res)::rs=>res.ob++obsOf rs
theorem zq:∀{rs:List HR},cW (obsOf rs)→∀x∈rs,cW x.2.2.ob
 |[],_,x,hx=>by cases hx
 |(i,o,res)::rs,h,x,hx=>by
  obtain⟨h1,h2⟩:=cW.app h
  rcases List.mem_cons.1 hx with hx|hx
  ·subst hx;exact h1
  ·exact zq h2 x hx
def BV(P:Program)(T:ja)(n:Nat)(ops:Array Oper)(fl hd tl:List Nat)(hs:List Hint)(s:St):Option (St×List Prop) :=
 bif E4 ops fl hd tl then
  match wo T n ops fl (Array.replicate ops.size false) s with
  |some s0=>match x6 P T n ops hd hs s0 with
   |some (rs,s1)=>bif tR (nS ops) rs then (match zn P T n ops tl (hs.drop hd.length) s1 with
    |some (s2,ob)=>some (s2,obsOf rs++ob)
    |none=>none) else none
   |none=>none
  |none=>none
 else none
theorem E6{l:List Nat}{n:Nat}(hn:l.Nodup)(hl:l.length=n)(hs:∀i∈l,i<n)(i:Nat)(hi:i<n):i∈l:=by
 refine Classical.byContradiction fun hc => ?_
 have h1:(i::l).Nodup:=List.nodup_cons.2 ⟨hc,hn⟩
 have h2:=List.Nodup.length_le_of_subset (l₁:=i::l) (l₂:=List.range n) h1 (fun j hj=>by
  rw[List.mem_range]
  rcases List.mem_cons.1 hj with rfl|hj
  ·exact hi
  ·exact hs j hj)
 simp at h2
 omega
theorem zr:∀(l m seen:List Nat),fwd ops seen (l++m)=true→fwd ops seen l=true
 |[],_,_,_=>rfl
 |i::l,m,seen,h=>by
  simp only[List.cons_append,fwd,Bool.and_eq_true] at h ⊢
  exact⟨h.1,zr l m _ h.2⟩
theorem tS(hT:lH P T)(Pz:Region.noSelect ops=true)(hQ:∀c a w d v,Q (.panic c) (Act.put a d v) w→Q (.panic c) a w){s0:St}{rest:Nat}(U:List Nat)
  (AY:∀(bQ:Array Bool) (a:Act) (w:World),Iu ops bQ U→Rel Γ s0 a w→wpAny P .any ops Q rest bQ a w) :
  ∀(fl:List Nat) (V:List Nat) (bQ:Array Bool) (s:St) (a:Act) (w:World),(∀j,j∈V↔j∈U∨j∈fl)→(∀i∈fl,i ∉ U)→fl.Nodup→(∀i∈fl,i<ops.size)→Iu ops bQ V→Rel Γ s a w →
   wo T Γ.n ops fl bQ s=some s0→wpAny P .any ops Q (fl.length+rest) bQ a w
 |[],V,bQ,s,a,w,hV,_,_,_,hl,hr,h=>by
  injection h with h;subst h
  simp only[List.length_nil,Nat.zero_add]
  exact AY bQ a w ⟨hl.1,fun j hj=>by rw[hl.2 j hj,hV];simp⟩ hr
 |i::fl,V,bQ,s,a,w,hV,hd,hn,jC,hl,hr,h=>by
  unfold wo at h
  split at h
  ·rename_i o ho
   cases hb:(Region.free .any ops bQ i&&(Region.ready .any ops bQ).contains i) with
   |false=>rw[hb] at h;cases h
   |true =>
    rw[hb] at h
    simp only[cond_true] at h
    simp only[Bool.and_eq_true] at hb
    split at h
    ·rename_i e he
     obtain⟨v,hy,dy⟩:=Dm (ops:=ops) hT hr he
     obtain⟨Kg,Dj⟩:=List.nodup_cons.1 hn
     have cQ:=jC i (by simp)
     have ih:=tS hT Pz hQ U AY fl (Di V i) (bQ.setIfInBounds i true) _ (a.put o.dst v) w (fun j=>by
      rw[np,hV]
      constructor
      ·rintro ⟨h1,h2⟩
       rcases h1 with h1|h1
       ·exact .inl h1
       ·rcases List.mem_cons.1 h1 with h1|h1
        ·exact absurd h1 h2
        ·exact .inr h1
      ·rintro (h1|h1)
       ·exact⟨.inl h1,fun e=>hd i (by simp) (e ▸ h1)⟩
       ·exact⟨.inr (by simp[h1]),fun e=>Kg (e ▸ h1)⟩) (fun j hj=>hd j (by simp[hj])) Dj (fun j hj=>jC j (by simp[hj])) (hl.set cQ) dy h
     rw[show (i::fl).length+rest=(fl.length+rest)+1 from by simp;omega]
     exact wpAny_take ho Pz hb.1 hb.2 (fun c a w hq=>hQ c a w _ _ hq) hy ih
    ·cases h
  ·cases h
theorem F1(U:List Nat):∀(rs:List HR) (s:St),(∀x∈rs,x.1∈U)→app U rs s=s
 |[],_,_=>rfl
 |(i,o,res)::rs,s,h=>by
  show app U rs (if i∈U then s else hAdd s o.dst res)=s
  rw[if_pos (h (i,o,res) (by simp))]
  exact F1 U rs s (fun x hx=>h x (by simp[hx]))
theorem E7(hm:P.follows .mixedOrders=true)(hT:lH P T)(hs:∀r,aS Γ.sin r→Γ.n≤r)(hQ:∀c a w d v,Q (.panic c) (Act.put a d v) w→Q (.panic c) a w){id:Nat}{fl hd tl:List Nat}{hints:List Hint}{ob:List Prop}(hr:Rel Γ s a w)
  (aD:BV P T Γ.n ops fl hd tl hints s=some (s',ob)) (bK:cW ob) (hk:∀a' w',Rel Γ s' a' w'→Q .normal a' w'):(Code.region id ops true).wp P Q a w:=by
 refine wp_region_any hm ?_
 unfold BV at aD
 cases rf:E4 ops fl hd tl with
 |false=>simp[rf] at aD
 |true =>
  simp only[rf,cond_true] at aD
  split at aD
  ·rename_i s0 FO
   split at aD
   ·rename_i rs s1 VI
    cases Iy:tR (nS ops) rs with
    |false=>simp[Iy] at aD
    |true =>
    simp only[Iy,cond_true] at aD
    split at aD
    ·rename_i s2 ob2 wm
     injection aD with aD;injection aD with e1 e2
     subst e1;subst e2
     obtain⟨g1,g2⟩:=bK.app
     unfold E4 at rf
     simp only[Bool.and_eq_true,List.all_eq_true] at rf
     obtain⟨⟨⟨⟨⟨⟨⟨c1,VJ⟩,c3⟩,c4⟩,c5⟩,c6⟩,c7⟩,c8⟩:=rf
     have hlen:(fl++(hd++tl)).length=ops.size:=Nat.eq_of_beq_eq_true c1
     have cQ:∀i∈fl++(hd++tl),i<ops.size:=fun i hi=>Nat.le_of_ble_eq_true (VJ i hi)
     have rb:=rW c3
     have M7:=E6 rb hlen cQ
     have A9:∀i,i<ops.size→∀e∈ix ops i,e<ops.size:=fun i hi e he=>by
      rcases tP ops _ _ c4 i (M7 i hi) e he with h|h
      ·cases h
      ·exact cQ e h
     obtain⟨q1,q2,q3⟩:=uW hd hints s0 rs s1 VI
     rw[q3] at wm
     have Iz:(hd++tl).Nodup:=(List.nodup_append.1 rb).2.1
     have IC:∀i∈fl,i ∉ hd++tl:=fun i hi h=>(List.nodup_append.1 rb).2.2 i hi i h rfl
     have dy:Rel Γ s a w.drew:=by
      obtain⟨β,I,hr⟩:=hr
      exact⟨β,I,hr.grow ((ur.refl _ _).drew) (fun b h=>h) (fun b h => .inl h)⟩
     have key:=tS (Q:=Q) (s0:=s0) (rest:=(hd++tl).length) hT c8 hQ (hd++tl) (fun bQ a w hl gY =>
      Ix hT hs A9 (rs:=rs) q1 q2 c6 c5 c7 Iy Iz (fun i hi=>cQ i (by simp at hi ⊢;rcases hi with h|h<;>simp[h])) (fun r GZ iO=>by
        obtain⟨i,hi⟩:=List.exists_mem_of_ne_nil r iO
        obtain⟨j,_,xE,R2⟩:=wj ops r _ [] c4 (fun e he=>by cases he) ⟨i,by have:=GZ i hi;simp at this ⊢;rcases this with h|h<;>simp[h],hi⟩
        exact⟨j,xE,R2⟩) (zq g1) wm g2 hk (hd++tl).length (hd++tl) bQ a w rfl Iz (fun i hi=>hi) (fun i hi=>by simp[hi]) hl (fun i hi Hx e he R0=>by
        have VK:i∈fl:=by
         have:=M7 i hi
         rcases List.mem_append.1 this with h|h
         ·exact h
         ·exact absurd h Hx
        rcases tP ops fl [] (zr fl _ [] c4) i VK e he with h|h
        ·cases h
        ·exact IC e h R0) (by rw[F1 (hd++tl) rs s0 (fun x hx=>List.mem_append_left _ (by rw[←q1];exact List.mem_map.2 ⟨x,hx,rfl⟩))];exact gY))
      fl (fl++(hd++tl)) (Array.replicate ops.size false) s a w.drew (fun j=>by rw[List.mem_append];exact Or.comm) IC (List.nodup_append.1 rb).1 (fun i hi=>cQ i (by simp[hi]))
      ⟨by simp,fun j hj=>by
       constructor
       ·intro h
        have hf:(Array.replicate ops.size false).getD j false=false:=by simp[Array.getD_eq_getD_getElem?,hj]
        rw[hf] at h;cases h
       ·intro h;exact absurd (M7 j hj) h⟩ dy FO
     rw[show fl.length+(hd++tl).length=ops.size from by rw[←hlen];simp] at key
     exact key
    ·cases aD
   ·cases aD
  ·cases aD
end
end Go.Proofs.YtfjfekodeplcoaaGreat.Sym
