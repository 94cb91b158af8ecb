/- Lemmas for the statements of this seat. -/
import Derived.Test.YtllmkadmohkbfaaGreatDoorVSymS
namespace Go.Proofs.YtllmkadmohkbfaaGreatDoor.Sym
open Go Go.RowKit
section
variable {P:Program} {T:kL} {fn:Func} {Γ:Ctx} {R:Ending→World→Prop} {s s':St} {a:Act} {w:World} {ops:Array Oper} {Q:Exit→Act→World→Prop}
def Eg(T:kL)(n:Nat)(o:Oper)(s:St):Option EV :=
 match o.guard with
 |some _=>none
 |none=>bif lu n o.dst then
   match o.op with
   |.move x=>dw s.env x
   |.fieldAddr t x f=>match cf T s.aG o.dst (.fieldAddr t x f) (dw s.env) .none with
    |some res=>some res.val
    |none=>none
   |_=>none
  else none
theorem CK{t:TypeId}{x:Operand}{f:Nat}{dst:Option Nat}{res:nZ}{β:Nat→Option Nat}{I:Nat→Prop}(hT:nM P T)(hr:dD Γ s a w β I)(aq:cf T s.aG dst (.fieldAddr t x f) (dw s.env) .none=some res) :
  ∃v,(∀w',(Instr.fieldAt t (a.eval x) f).run P w' = .ok v w')∧RE β (bS s.aG) I w res.val v:=by
 simp only[cf] at aq
 split at aq
 ·rename_i d e hd hx
  split at aq
  ·rename_i fs hk
   split at aq
   ·rename_i off size agg hf
    obtain⟨ff,fl,hu,Ff,Ly,lI,_,AL,_⟩:=rF (hT t d hd) hk hf
    cases hs:Nat.ble 1 size with
    |false=>simp[hs] at aq
    |true =>
     simp only[hs,cond_true] at aq
     have Kk:1≤size:=Nat.le_of_ble_eq_true hs
     have exec:∀b o,a.eval x = .pointer (some ⟨b,o,none⟩)→∀w',(Instr.fieldAt t (a.eval x) f).run P w' = .ok (.pointer (some ⟨b,o+off,none⟩)) w':=by
      intro b o hv w'
      obtain⟨i,hi⟩:=Option.isSome_iff_exists.1 AL
      have wg:(sizeOf fl.type).run P w' = .ok (P.cellsOf fl.type) w':=by simp[sizeOf,typeInfo,hi,Program.cellsOf]
      rw[hv]
      unfold Instr.fieldAt
      simp only[Sem.run_bind,run_underlying hu,Result.andThen_ok,Ff,Instr.sureAddr,Sem.run_pure,fieldPlace,wg]
      rw[if_neg (by omega)]
      simp only[Sem.run_pure,Result.andThen_ok,iZ,Ly]
     split at aq
     ·rename_i r o
      rw[cJ aq]
      obtain⟨hL,b,hb,hv⟩:=hr.Fg x _ hx
      exact⟨_,exec _ _ hv,hL,b,hb,rfl⟩
     ·rename_i cs
      rw[cJ aq]
      obtain⟨b,o,hv,hb,hc⟩:=hr.Fg x _ hx
      refine⟨_,exec _ _ hv,b,o+off,rfl,hb,fun j y hy => ?_⟩
      rw[List.getElem?_drop] at hy
      have:=hc _ y hy
      rw[Nat.add_assoc]
      exact this
     ·rename_i r o
      rw[cJ aq]
      obtain⟨hL,b,hb,hv⟩:=hr.Fg x _ hx
      exact⟨_,exec _ _ hv,hL,b,hb,rfl⟩
     ·cases aq
   ·cases aq
  ·cases aq
 ·cases aq
theorem F0(hT:nM P T){o:Oper}{e:EV}(hr:Rel Γ s a w)(h:Eg T Γ.n o s=some e):∃v,Yields P ops o v a∧Rel Γ ⟨oC s.env o.dst e,s.aG⟩ (a.put o.dst v) w:=by
 obtain⟨β,I,hr⟩:=hr
 unfold Eg at h
 split at h
 ·cases h
 ·rename_i hg
  cases hd:lu Γ.n o.dst with
  |false=>simp[hd] at h
  |true =>
   simp only[hd,cond_true] at h
   have hw:Region.wanted o (yielded ops a.tmps)=true:=by simp[Region.wanted,hg]
   split at h
   ·rename_i x uH
    refine⟨a.eval x,.inl ⟨hw,fun w' => ?_⟩,β,I,hr.put (eT hd) (hr.Fg x e h)⟩
    unfold execOp;rw[uH];rfl
   ·rename_i t x f uH
    split at h
    ·rename_i res oD
     injection h with h;subst h
     obtain⟨v,h1,h2⟩:=CK hT hr oD
     refine⟨v,.inl ⟨hw,fun w' => ?_⟩,β,I,hr.put (eT hd) h2⟩
     unfold execOp;rw[uH];simp[h1 w']
    ·cases h
   ·cases h
def xY(T:kL)(n:Nat)(ops:Array Oper):List Nat→Array Bool→St→Option St
 |[],_,s=>some s
 |i::r,listed,s=>match ops[i]? with
  |some o=>bif Region.free .any ops listed i&&(Region.ready .any ops listed).contains i then
    match Eg T n o s with
    |some e=>xY T n ops r (listed.setIfInBounds i true) ⟨oC s.env o.dst e,s.aG⟩
    |none=>none
   else none
  |none=>none
def Aa(P:Program)(T:kL)(n:Nat)(ops:Array Oper):List Nat→List Hint→St→Option (List HR×St)
 |[],_,s=>some ([],s)
 |i::r,hs,s=>match ops[i]? with
  |some o=>match Ed P T n ops o (hs.headD .none) s with
   |some res=>match Aa P T n ops r hs.tail (hAdd s o.dst res) with
    |some (rs,s')=>some ((i,o,res)::rs,s')
    |none=>none
   |none=>none
  |none=>none
theorem wF{n:Nat} : ∀(hd:List Nat) (hs:List Hint) (s:St) (rs:List HR) (s':St),Aa P T n ops hd hs s=some (rs,s')→rs.map (·.1)=hd∧CJ P T n ops rs hs s∧s'=app [] rs s
 |[],hs,s,rs,s',h=>by
  injection h with h;injection h with h1 h2
  subst h1;subst h2
  exact⟨rfl,trivial,rfl⟩
 |i::r,hs,s,rs,s',h=>by
  unfold Aa at h
  split at h
  ·rename_i o ho
   split at h
   ·rename_i res oD
    split at h
    ·rename_i ZL U4 Wl
     injection h with h;injection h with h1 h2
     subst h1;subst h2
     obtain⟨g1,g2,g3⟩:=wF r hs.tail _ ZL U4 Wl
     exact⟨by simp[g1],⟨ho,oD,g2⟩,by rw[rM];exact g3⟩
    ·cases h
   ·cases h
  ·cases h
def obsOf:List HR→List Prop
 |[]=>[]
 |(_,_,res)::rs=>res.ob++obsOf rs
theorem Bj:∀{rs:List HR},dP (obsOf rs)→∀x∈rs,dP x.2.2.ob
 |[],_,x,hx=>by cases hx
 |(i,o,res)::rs,h,x,hx=>by
  obtain⟨h1,h2⟩:=dP.app h
  rcases List.mem_cons.1 hx with hx|hx
  ·subst hx;exact h1
  ·exact Bj h2 x hx
def Eh(P:Program)(T:kL)(n:Nat)(ops:Array Oper)(fl hd tl:List Nat)(hs:List Hint)(s:St):Option (St×List Prop) :=
 bif H2 ops fl hd tl then
  match xY T n ops fl (Array.replicate ops.size false) s with
  |some s0=>match Aa P T n ops hd hs s0 with
   |some (rs,s1)=>bif vq (oI ops) rs then (match Bg P T n ops tl (hs.drop hd.length) s1 with
    |some (s2,ob)=>some (s2,obsOf rs++ob)
    |none=>none) else none
   |none=>none
  |none=>none
 else none
theorem H4{l:List Nat}{n:Nat}(hn:l.Nodup)(hl:l.length=n)(hs:∀i∈l,i<n)(i:Nat)(hi:i<n):i∈l:=by
 refine Classical.byContradiction fun hc => ?_
 have h1:(i::l).Nodup:=List.nodup_cons.2 ⟨hc,hn⟩
 have h2:=List.Nodup.length_le_of_subset (l₁:=i::l) (l₂:=List.range n) h1 (fun j hj=>by
  rw[List.mem_range]
  rcases List.mem_cons.1 hj with rfl|hj
  ·exact hi
  ·exact hs j hj)
 simp at h2
 omega
theorem Bk:∀(l m seen:List Nat),fwd ops seen (l++m)=true→fwd ops seen l=true
 |[],_,_,_=>rfl
 |i::l,m,seen,h=>by
  simp only[List.cons_append,fwd,Bool.and_eq_true] at h ⊢
  exact⟨h.1,Bk l m _ h.2⟩
theorem vr(hT:nM P T)(TA:Region.noSelect ops=true)(hQ:∀c a w d v,Q (.panic c) (Act.put a d v) w→Q (.panic c) a w){s0:St}{rest:Nat}(U:List Nat)
  (I2:∀(listed:Array Bool) (a:Act) (w:World),L6 ops listed U→Rel Γ s0 a w→wpAny P .any ops Q rest listed a w) :
  ∀(fl:List Nat) (V:List Nat) (listed:Array Bool) (s:St) (a:Act) (w:World),(∀j,j∈V↔j∈U∨j∈fl)→(∀i∈fl,i ∉ U)→fl.Nodup→(∀i∈fl,i<ops.size)→L6 ops listed V→Rel Γ s a w →
   xY T Γ.n ops fl listed s=some s0→wpAny P .any ops Q (fl.length+rest) listed a w
 |[],V,listed,s,a,w,hV,_,_,_,hl,hr,h=>by
  injection h with h;subst h
  simp only[List.length_nil,Nat.zero_add]
  exact I2 listed a w ⟨hl.1,fun j hj=>by rw[hl.2 j hj,hV];simp⟩ hr
 |i::fl,V,listed,s,a,w,hV,hd,hn,lI,hl,hr,h=>by
  unfold xY at h
  split at h
  ·rename_i o ho
   cases hb:(Region.free .any ops listed i&&(Region.ready .any ops listed).contains i) with
   |false=>rw[hb] at h;cases h
   |true =>
    rw[hb] at h
    simp only[cond_true] at h
    simp only[Bool.and_eq_true] at hb
    split at h
    ·rename_i e he
     obtain⟨v,hy,eb⟩:=F0 (ops:=ops) hT hr he
     obtain⟨Tt,KA⟩:=List.nodup_cons.1 hn
     have ba:=lI i (by simp)
     have ih:=vr hT TA hQ U I2 fl (FX V i) (listed.setIfInBounds i true) _ (a.put o.dst v) w (fun j=>by
      rw[og,hV]
      constructor
      ·rintro ⟨h1,h2⟩
       rcases h1 with h1|h1
       ·exact .inl h1
       ·rcases List.mem_cons.1 h1 with h1|h1
        ·exact absurd h1 h2
        ·exact .inr h1
      ·rintro (h1|h1)
       ·exact⟨.inl h1,fun e=>hd i (by simp) (e ▸ h1)⟩
       ·exact⟨.inr (by simp[h1]),fun e=>Tt (e ▸ h1)⟩) (fun j hj=>hd j (by simp[hj])) KA (fun j hj=>lI j (by simp[hj])) (hl.set ba) eb h
     rw[show (i::fl).length+rest=(fl.length+rest)+1 from by simp;omega]
     exact wpAny_take ho TA hb.1 hb.2 (fun c a w hq=>hQ c a w _ _ hq) hy ih
    ·cases h
  ·cases h
theorem Jh(U:List Nat):∀(rs:List HR) (s:St),(∀x∈rs,x.1∈U)→app U rs s=s
 |[],_,_=>rfl
 |(i,o,res)::rs,s,h=>by
  show app U rs (if i∈U then s else hAdd s o.dst res)=s
  rw[if_pos (h (i,o,res) (by simp))]
  exact Jh U rs s (fun x hx=>h x (by simp[hx]))
theorem H5(hm:P.follows .mixedOrders=true)(hT:nM P T)(hs:∀r,bS Γ.sin r→Γ.n≤r)(hQ:∀c a w d v,Q (.panic c) (Act.put a d v) w→Q (.panic c) a w){id:Nat}{fl hd tl:List Nat}{hints:List Hint}{ob:List Prop}(hr:Rel Γ s a w)
  (aI:Eh P T Γ.n ops fl hd tl hints s=some (s',ob)) (cr:dP ob) (hk:∀a' w',Rel Γ s' a' w'→Q .normal a' w'):(Code.region id ops true).wp P Q a w:=by
 refine wp_region_any hm ?_
 unfold Eh at aI
 cases tV:H2 ops fl hd tl with
 |false=>simp[tV] at aI
 |true =>
  simp only[tV,cond_true] at aI
  split at aI
  ·rename_i s0 Ff
   split at aI
   ·rename_i rs s1 ZM
    cases Ma:vq (oI ops) rs with
    |false=>simp[Ma] at aI
    |true =>
    simp only[Ma,cond_true] at aI
    split at aI
    ·rename_i s2 ob2 xw
     injection aI with aI;injection aI with e1 e2
     subst e1;subst e2
     obtain⟨g1,g2⟩:=cr.app
     unfold H2 at tV
     simp only[Bool.and_eq_true,List.all_eq_true] at tV
     obtain⟨⟨⟨⟨⟨⟨⟨c1,ZN⟩,c3⟩,c4⟩,c5⟩,c6⟩,c7⟩,c8⟩:=tV
     have hlen:(fl++(hd++tl)).length=ops.size:=Nat.eq_of_beq_eq_true c1
     have ba:∀i∈fl++(hd++tl),i<ops.size:=fun i hi=>Nat.le_of_ble_eq_true (ZN i hi)
     have zZ:=tj c3
     have Ra:=H4 zZ hlen ba
     have Dc:∀i,i<ops.size→∀e∈jc ops i,e<ops.size:=fun i hi e he=>by
      rcases vo ops _ _ c4 i (Ra i hi) e he with h|h
      ·cases h
      ·exact ba e h
     obtain⟨q1,q2,q3⟩:=wF hd hints s0 rs s1 ZM
     rw[q3] at xw
     have Mb:(hd++tl).Nodup:=(List.nodup_append.1 zZ).2.1
     have Me:∀i∈fl,i ∉ hd++tl:=fun i hi h=>(List.nodup_append.1 zZ).2.2 i hi i h rfl
     have eb:Rel Γ s a w.drew:=by
      obtain⟨β,I,hr⟩:=hr
      exact⟨β,I,hr.grow ((Cy.refl _ _).drew) (fun b h=>h) (fun b h => .inl h)⟩
     have key:=vr (Q:=Q) (s0:=s0) (rest:=(hd++tl).length) hT c8 hQ (hd++tl) (fun listed a w hl kl =>
      L9 hT hs Dc (rs:=rs) q1 q2 c6 c5 c7 Ma Mb (fun i hi=>ba i (by simp at hi ⊢;rcases hi with h|h<;>simp[h])) (fun r OK di=>by
        obtain⟨i,hi⟩:=List.exists_mem_of_ne_nil r di
        obtain⟨j,_,FL,Wm⟩:=xW ops r _ [] c4 (fun e he=>by cases he) ⟨i,by have:=OK i hi;simp at this ⊢;rcases this with h|h<;>simp[h],hi⟩
        exact⟨j,FL,Wm⟩) (Bj g1) xw g2 hk (hd++tl).length (hd++tl) listed a w rfl Mb (fun i hi=>hi) (fun i hi=>by simp[hi]) hl (fun i hi Lj e he Wk=>by
        have ZO:i∈fl:=by
         have:=Ra i hi
         rcases List.mem_append.1 this with h|h
         ·exact h
         ·exact absurd h Lj
        rcases vo ops fl [] (Bk fl _ [] c4) i ZO e he with h|h
        ·cases h
        ·exact Me e h Wk) (by rw[Jh (hd++tl) rs s0 (fun x hx=>List.mem_append_left _ (by rw[←q1];exact List.mem_map.2 ⟨x,hx,rfl⟩))];exact kl))
      fl (fl++(hd++tl)) (Array.replicate ops.size false) s a w.drew (fun j=>by rw[List.mem_append];exact Or.comm) Me (List.nodup_append.1 zZ).1 (fun i hi=>ba i (by simp[hi]))
      ⟨by simp,fun j hj=>by
       constructor
       ·intro h
        have hf:(Array.replicate ops.size false).getD j false=false:=by simp[Array.getD_eq_getD_getElem?,hj]
        rw[hf] at h;cases h
       ·intro h;exact absurd (Ra j hj) h⟩ eb Ff
     rw[show fl.length+(hd++tl).length=ops.size from by rw[←hlen];simp] at key
     exact key
    ·cases aI
   ·cases aI
  ·cases aI
end
end Go.Proofs.YtllmkadmohkbfaaGreatDoor.Sym
