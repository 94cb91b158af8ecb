/- Lemmas for the statements of this seat. -/
import Derived.Test.YtnjhplhbmapclaaGreatDoorWSymS
namespace Go.Proofs.YtnjhplhbmapclaaGreatDoor.Sym
open Go Go.RowKit
section
variable {P:Program} {T:gi} {fn:Func} {Γ:Ctx} {R:Ending→World→Prop} {s s':St} {a:Act} {w:World} {ops:Array Oper} {Q:Exit→Act→World→Prop}
def wk(T:gi)(n:Nat)(o:Oper)(s:St):Option EV :=
 match o.guard with
 |some _=>none
 |none=>bif gG n o.dst then
   match o.op with
   |.move x=>bL s.env x
   |.fieldAddr t x f=>match bk T s.aw o.dst (.fieldAddr t x f) (bL s.env) .none with
    |some res=>some res.val
    |none=>none
   |_=>none
  else none
theorem uV{t:TypeId}{x:Operand}{f:Nat}{dst:Option Nat}{res:jv}{β:Nat→Option Nat}{I:Nat→Prop}(hT:jh P T)(hr:bK Γ s a w β I)(ai:bk T s.aw dst (.fieldAddr t x f) (bL s.env) .none=some res) :
  ∃v,(∀w',(Instr.fieldAt t (a.eval x) f).run P w' = .ok v w')∧RE β (aT s.aw) I w res.val v:=by
 simp only[bk] at ai
 split at ai
 ·rename_i d e hd hx
  split at ai
  ·rename_i fs hk
   split at ai
   ·rename_i off size agg hf
    obtain⟨ff,fl,hu,B7,CC,gn,_,sZ,_⟩:=lP (hT t d hd) hk hf
    cases hs:Nat.ble 1 size with
    |false=>simp[hs] at ai
    |true =>
     simp only[hs,cond_true] at ai
     have Cy:1≤size:=Nat.le_of_ble_eq_true hs
     have exec:∀b o,a.eval x = .pointer (some ⟨b,o,none⟩)→∀w',(Instr.fieldAt t (a.eval x) f).run P w' = .ok (.pointer (some ⟨b,o+off,none⟩)) w':=by
      intro b o hv w'
      obtain⟨i,hi⟩:=Option.isSome_iff_exists.1 sZ
      have pf:(sizeOf fl.type).run P w' = .ok (P.cellsOf fl.type) w':=by simp[sizeOf,typeInfo,hi,Program.cellsOf]
      rw[hv]
      unfold Instr.fieldAt
      simp only[Sem.run_bind,run_underlying hu,Result.andThen_ok,B7,Instr.sureAddr,Sem.run_pure,fieldPlace,pf]
      rw[if_neg (by omega)]
      simp only[Sem.run_pure,Result.andThen_ok,dC,CC]
     split at ai
     ·rename_i r o
      rw[br ai]
      obtain⟨hL,b,hb,hv⟩:=hr.xb x _ hx
      exact⟨_,exec _ _ hv,hL,b,hb,rfl⟩
     ·rename_i cs
      rw[br ai]
      obtain⟨b,o,hv,hb,hc⟩:=hr.xb x _ hx
      refine⟨_,exec _ _ hv,b,o+off,rfl,hb,fun j y hy => ?_⟩
      rw[List.getElem?_drop] at hy
      have:=hc _ y hy
      rw[Nat.add_assoc]
      exact this
     ·rename_i r o
      rw[br ai]
      obtain⟨hL,b,hb,hv⟩:=hr.xb x _ hx
      exact⟨_,exec _ _ hv,hL,b,hb,rfl⟩
     ·cases ai
   ·cases ai
  ·cases ai
 ·cases ai
theorem xU(hT:jh P T){o:Oper}{e:EV}(hr:Rel Γ s a w)(h:wk T Γ.n o s=some e):∃v,Yields P ops o v a∧Rel Γ ⟨jU s.env o.dst e,s.aw⟩ (a.put o.dst v) w:=by
 obtain⟨β,I,hr⟩:=hr
 unfold wk at h
 split at h
 ·cases h
 ·rename_i hg
  cases hd:gG Γ.n o.dst with
  |false=>simp[hd] at h
  |true =>
   simp only[hd,cond_true] at h
   have hw:Region.wanted o (yielded ops a.tmps)=true:=by simp[Region.wanted,hg]
   split at h
   ·rename_i x nZ
    refine⟨a.eval x,.inl ⟨hw,fun w' => ?_⟩,β,I,hr.put (cD hd) (hr.xb x e h)⟩
    unfold execOp;rw[nZ];rfl
   ·rename_i t x f nZ
    split at h
    ·rename_i res jV
     injection h with h;subst h
     obtain⟨v,h1,h2⟩:=uV hT hr jV
     refine⟨v,.inl ⟨hw,fun w' => ?_⟩,β,I,hr.put (cD hd) h2⟩
     unfold execOp;rw[nZ];simp[h1 w']
    ·cases h
   ·cases h
def qQ(T:gi)(n:Nat)(ops:Array Oper):List Nat→Array Bool→St→Option St
 |[],_,s=>some s
 |i::r,listed,s=>match ops[i]? with
  |some o=>bif Region.free .any ops listed i&&(Region.ready .any ops listed).contains i then
    match wk T n o s with
    |some e=>qQ T n ops r (listed.setIfInBounds i true) ⟨jU s.env o.dst e,s.aw⟩
    |none=>none
   else none
  |none=>none
def sw(P:Program)(T:gi)(n:Nat)(ops:Array Oper):List Nat→List Hint→St→Option (List HR×St)
 |[],_,s=>some ([],s)
 |i::r,hs,s=>match ops[i]? with
  |some o=>match wh P T n ops o (hs.headD .none) s with
   |some res=>match sw P T n ops r hs.tail (hAdd s o.dst res) with
    |some (rs,s')=>some ((i,o,res)::rs,s')
    |none=>none
   |none=>none
  |none=>none
theorem pE{n:Nat} : ∀(hd:List Nat) (hs:List Hint) (s:St) (rs:List HR) (s':St),sw P T n ops hd hs s=some (rs,s')→rs.map (·.1)=hd∧uU P T n ops rs hs s∧s'=app [] rs s
 |[],hs,s,rs,s',h=>by
  injection h with h;injection h with h1 h2
  subst h1;subst h2
  exact⟨rfl,trivial,rfl⟩
 |i::r,hs,s,rs,s',h=>by
  unfold sw at h
  split at h
  ·rename_i o ho
   split at h
   ·rename_i res jV
    split at h
    ·rename_i Ob J6 Lg
     injection h with h;injection h with h1 h2
     subst h1;subst h2
     obtain⟨g1,g2,g3⟩:=pE r hs.tail _ Ob J6 Lg
     exact⟨by simp[g1],⟨ho,jV,g2⟩,by rw[lV];exact g3⟩
    ·cases h
   ·cases h
  ·cases h
def obsOf:List HR→List Prop
 |[]=>[]
 |(_,_,res)::rs=>res.ob++obsOf rs
theorem tH:∀{rs:List HR},bV (obsOf rs)→∀x∈rs,bV x.2.2.ob
 |[],_,x,hx=>by cases hx
 |(i,o,res)::rs,h,x,hx=>by
  obtain⟨h1,h2⟩:=bV.app h
  rcases List.mem_cons.1 hx with hx|hx
  ·subst hx;exact h1
  ·exact tH h2 x hx
def wm(P:Program)(T:gi)(n:Nat)(ops:Array Oper)(fl hd tl:List Nat)(hs:List Hint)(s:St):Option (St×List Prop) :=
 bif zv ops fl hd tl then
  match qQ T n ops fl (Array.replicate ops.size false) s with
  |some s0=>match sw P T n ops hd hs s0 with
   |some (rs,s1)=>bif oH (jY ops) rs then (match tE P T n ops tl (hs.drop hd.length) s1 with
    |some (s2,ob)=>some (s2,obsOf rs++ob)
    |none=>none) else none
   |none=>none
  |none=>none
 else none
theorem zx{l:List Nat}{n:Nat}(hn:l.Nodup)(hl:l.length=n)(hs:∀i∈l,i<n)(i:Nat)(hi:i<n):i∈l:=by
 refine Classical.byContradiction fun hc => ?_
 have h1:(i::l).Nodup:=List.nodup_cons.2 ⟨hc,hn⟩
 have h2:=List.Nodup.length_le_of_subset (l₁:=i::l) (l₂:=List.range n) h1 (fun j hj=>by
  rw[List.mem_range]
  rcases List.mem_cons.1 hj with rfl|hj
  ·exact hi
  ·exact hs j hj)
 simp at h2
 omega
theorem tI:∀(l m seen:List Nat),fwd ops seen (l++m)=true→fwd ops seen l=true
 |[],_,_,_=>rfl
 |i::l,m,seen,h=>by
  simp only[List.cons_append,fwd,Bool.and_eq_true] at h ⊢
  exact⟨h.1,tI l m _ h.2⟩
theorem oI(hT:jh P T)(Jd:Region.noSelect ops=true)(hQ:∀c a w d v,Q (.panic c) (Act.put a d v) w→Q (.panic c) a w){s0:St}{rest:Nat}(U:List Nat)
  (va:∀(listed:Array Bool) (a:Act) (w:World),C3 ops listed U→Rel Γ s0 a w→wpAny P .any ops Q rest listed a w) :
  ∀(fl:List Nat) (V:List Nat) (listed:Array Bool) (s:St) (a:Act) (w:World),(∀j,j∈V↔j∈U∨j∈fl)→(∀i∈fl,i ∉ U)→fl.Nodup→(∀i∈fl,i<ops.size)→C3 ops listed V→Rel Γ s a w →
   qQ T Γ.n ops fl listed s=some s0→wpAny P .any ops Q (fl.length+rest) listed a w
 |[],V,listed,s,a,w,hV,_,_,_,hl,hr,h=>by
  injection h with h;subst h
  simp only[List.length_nil,Nat.zero_add]
  exact va listed a w ⟨hl.1,fun j hj=>by rw[hl.2 j hj,hV];simp⟩ hr
 |i::fl,V,listed,s,a,w,hV,hd,hn,gn,hl,hr,h=>by
  unfold qQ at h
  split at h
  ·rename_i o ho
   cases hb:(Region.free .any ops listed i&&(Region.ready .any ops listed).contains i) with
   |false=>rw[hb] at h;cases h
   |true =>
    rw[hb] at h
    simp only[cond_true] at h
    simp only[Bool.and_eq_true] at hb
    split at h
    ·rename_i e he
     obtain⟨v,hy,bU⟩:=xU (ops:=ops) hT hr he
     obtain⟨K5,Ga⟩:=List.nodup_cons.1 hn
     have cS:=gn i (by simp)
     have ih:=oI hT Jd hQ U va fl (xR V i) (listed.setIfInBounds i true) _ (a.put o.dst v) w (fun j=>by
      rw[jJ,hV]
      constructor
      ·rintro ⟨h1,h2⟩
       rcases h1 with h1|h1
       ·exact .inl h1
       ·rcases List.mem_cons.1 h1 with h1|h1
        ·exact absurd h1 h2
        ·exact .inr h1
      ·rintro (h1|h1)
       ·exact⟨.inl h1,fun e=>hd i (by simp) (e ▸ h1)⟩
       ·exact⟨.inr (by simp[h1]),fun e=>K5 (e ▸ h1)⟩) (fun j hj=>hd j (by simp[hj])) Ga (fun j hj=>gn j (by simp[hj])) (hl.set cS) bU h
     rw[show (i::fl).length+rest=(fl.length+rest)+1 from by simp;omega]
     exact wpAny_take ho Jd hb.1 hb.2 (fun c a w hq=>hQ c a w _ _ hq) hy ih
    ·cases h
  ·cases h
theorem AH(U:List Nat):∀(rs:List HR) (s:St),(∀x∈rs,x.1∈U)→app U rs s=s
 |[],_,_=>rfl
 |(i,o,res)::rs,s,h=>by
  show app U rs (if i∈U then s else hAdd s o.dst res)=s
  rw[if_pos (h (i,o,res) (by simp))]
  exact AH U rs s (fun x hx=>h x (by simp[hx]))
theorem zy(hm:P.follows .mixedOrders=true)(hT:jh P T)(hs:∀r,aT Γ.sin r→Γ.n≤r)(hQ:∀c a w d v,Q (.panic c) (Act.put a d v) w→Q (.panic c) a w){id:Nat}{fl hd tl:List Nat}{hints:List Hint}{ob:List Prop}(hr:Rel Γ s a w)
  (ay:wm P T Γ.n ops fl hd tl hints s=some (s',ob)) (bj:bV ob) (hk:∀a' w',Rel Γ s' a' w'→Q .normal a' w'):(Code.region id ops true).wp P Q a w:=by
 refine wp_region_any hm ?_
 unfold wm at ay
 cases ss:zv ops fl hd tl with
 |false=>simp[ss] at ay
 |true =>
  simp only[ss,cond_true] at ay
  split at ay
  ·rename_i s0 B7
   split at ay
   ·rename_i rs s1 Oc
    cases C8:oH (jY ops) rs with
    |false=>simp[C8] at ay
    |true =>
    simp only[C8,cond_true] at ay
    split at ay
    ·rename_i s2 ob2 qP
     injection ay with ay;injection ay with e1 e2
     subst e1;subst e2
     obtain⟨g1,g2⟩:=bj.app
     unfold zv at ss
     simp only[Bool.and_eq_true,List.all_eq_true] at ss
     obtain⟨⟨⟨⟨⟨⟨⟨c1,Od⟩,c3⟩,c4⟩,c5⟩,c6⟩,c7⟩,c8⟩:=ss
     have hlen:(fl++(hd++tl)).length=ops.size:=Nat.eq_of_beq_eq_true c1
     have cS:∀i∈fl++(hd++tl),i<ops.size:=fun i hi=>Nat.le_of_ble_eq_true (Od i hi)
     have sr:=nd c3
     have Ha:=zx sr hlen cS
     have vl:∀i,i<ops.size→∀e∈eJ ops i,e<ops.size:=fun i hi e he=>by
      rcases oF ops _ _ c4 i (Ha i hi) e he with h|h
      ·cases h
      ·exact cS e h
     obtain⟨q1,q2,q3⟩:=pE hd hints s0 rs s1 Oc
     rw[q3] at qP
     have C9:(hd++tl).Nodup:=(List.nodup_append.1 sr).2.1
     have Dc:∀i∈fl,i ∉ hd++tl:=fun i hi h=>(List.nodup_append.1 sr).2.2 i hi i h rfl
     have bU:Rel Γ s a w.drew:=by
      obtain⟨β,I,hr⟩:=hr
      exact⟨β,I,hr.grow ((uE.refl _ _).drew) (fun b h=>h) (fun b h => .inl h)⟩
     have key:=oI (Q:=Q) (s0:=s0) (rest:=(hd++tl).length) hT c8 hQ (hd++tl) (fun listed a w hl fR =>
      C6 hT hs vl (rs:=rs) q1 q2 c6 c5 c7 C8 C9 (fun i hi=>cS i (by simp at hi ⊢;rcases hi with h|h<;>simp[h])) (fun r Ld fP=>by
        obtain⟨i,hi⟩:=List.exists_mem_of_ne_nil r fP
        obtain⟨j,_,ze,Lh⟩:=qN ops r _ [] c4 (fun e he=>by cases he) ⟨i,by have:=Ld i hi;simp at this ⊢;rcases this with h|h<;>simp[h],hi⟩
        exact⟨j,ze,Lh⟩) (tH g1) qP g2 hk (hd++tl).length (hd++tl) listed a w rfl C9 (fun i hi=>hi) (fun i hi=>by simp[hi]) hl (fun i hi Cf e he Lf=>by
        have Oe:i∈fl:=by
         have:=Ha i hi
         rcases List.mem_append.1 this with h|h
         ·exact h
         ·exact absurd h Cf
        rcases oF ops fl [] (tI fl _ [] c4) i Oe e he with h|h
        ·cases h
        ·exact Dc e h Lf) (by rw[AH (hd++tl) rs s0 (fun x hx=>List.mem_append_left _ (by rw[←q1];exact List.mem_map.2 ⟨x,hx,rfl⟩))];exact fR))
      fl (fl++(hd++tl)) (Array.replicate ops.size false) s a w.drew (fun j=>by rw[List.mem_append];exact Or.comm) Dc (List.nodup_append.1 sr).1 (fun i hi=>cS i (by simp[hi]))
      ⟨by simp,fun j hj=>by
       constructor
       ·intro h
        have hf:(Array.replicate ops.size false).getD j false=false:=by simp[Array.getD_eq_getD_getElem?,hj]
        rw[hf] at h;cases h
       ·intro h;exact absurd (Ha j hj) h⟩ bU B7
     rw[show fl.length+(hd++tl).length=ops.size from by rw[←hlen];simp] at key
     exact key
    ·cases ay
   ·cases ay
  ·cases ay
end
end Go.Proofs.YtnjhplhbmapclaaGreatDoor.Sym
