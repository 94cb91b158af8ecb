/- The comparison of algebraic numbers is a total order that agrees with the comparison with fractions. The law AlgebraicOrder returns true for every input, with the tables of numerals of the Go library that the row lists as they are laid. -/
import Derived.Test.YtllmkadmohkbfaaGreatDoorYSymS
namespace Go.Proofs.YtllmkadmohkbfaaGreatDoor.Sym
open Go Go.RowKit
section
variable {P:Program} {T:j0} {fn:Func} {Γ:Ctx} {R:Ending→World→Prop} {s s':St} {a:Act} {w:World} {ops:Array Oper} {Q:Exit→Act→World→Prop}
def CK(T:j0)(n:Nat)(o:Oper)(s:St):Option EV :=
 match o.guard with
 |some _=>none
 |none=>bif ky n o.dst then
   match o.op with
   |.move x=>cZ s.env x
   |.fieldAddr t x f=>match b8 T s.aG o.dst (.fieldAddr t x f) (cZ s.env) .none with
    |some res=>some res.val
    |none=>none
   |_=>none
  else none
theorem Bb{t:TypeId}{x:Operand}{f:Nat}{dst:Option Nat}{res:mN}{β:Nat→Option Nat}{I:Nat→Prop}(hT:mC P T)(hr:dh Γ s a w β I)(aq:b8 T s.aG dst (.fieldAddr t x f) (cZ s.env) .none=some res) :
  ∃v,(∀w',(Instr.fieldAt t (a.eval x) f).run P w' = .ok v w')∧RE β (bM s.aG) I w res.val v:=by
 simp only[b8] at aq
 split at aq
 ·rename_i d e hd hx
  split at aq
  ·rename_i fs hk
   split at aq
   ·rename_i off size agg hf
    obtain⟨ff,fl,hu,DM,Jy,kF,_,yO,_⟩:=pY (hT t d hd) hk hf
    cases hs:Nat.ble 1 size with
    |false=>simp[hs] at aq
    |true =>
     simp only[hs,cond_true] at aq
     have Io:1≤size:=Nat.le_of_ble_eq_true hs
     have exec:∀b o,a.eval x = .pointer (some ⟨b,o,none⟩)→∀w',(Instr.fieldAt t (a.eval x) f).run P w' = .ok (.pointer (some ⟨b,o+off,none⟩)) w':=by
      intro b o hv w'
      obtain⟨i,hi⟩:=Option.isSome_iff_exists.1 yO
      have uG:(sizeOf fl.type).run P w' = .ok (P.cellsOf fl.type) w':=by simp[sizeOf,typeInfo,hi,Program.cellsOf]
      rw[hv]
      unfold Instr.fieldAt
      simp only[Sem.run_bind,run_underlying hu,Result.andThen_ok,DM,Instr.sureAddr,Sem.run_pure,fieldPlace,uG]
      rw[if_neg (by omega)]
      simp only[Sem.run_pure,Result.andThen_ok,ia,Jy]
     split at aq
     ·rename_i r o
      rw[cx aq]
      obtain⟨hL,b,hb,hv⟩:=hr.DN x _ hx
      exact⟨_,exec _ _ hv,hL,b,hb,rfl⟩
     ·rename_i cs
      rw[cx aq]
      obtain⟨b,o,hv,hb,hc⟩:=hr.DN x _ hx
      refine⟨_,exec _ _ hv,b,o+off,rfl,hb,fun j y hy => ?_⟩
      rw[List.getElem?_drop] at hy
      have:=hc _ y hy
      rw[Nat.add_assoc]
      exact this
     ·rename_i r o
      rw[cx aq]
      obtain⟨hL,b,hb,hv⟩:=hr.DN x _ hx
      exact⟨_,exec _ _ hv,hL,b,hb,rfl⟩
     ·cases aq
   ·cases aq
  ·cases aq
 ·cases aq
theorem Es(hT:mC P T){o:Oper}{e:EV}(hr:Rel Γ s a w)(h:CK T Γ.n o s=some e):∃v,Yields P ops o v a∧Rel Γ ⟨nm s.env o.dst e,s.aG⟩ (a.put o.dst v) w:=by
 obtain⟨β,I,hr⟩:=hr
 unfold CK at h
 split at h
 ·cases h
 ·rename_i hg
  cases hd:ky Γ.n o.dst with
  |false=>simp[hd] at h
  |true =>
   simp only[hd,cond_true] at h
   have hw:Region.wanted o (yielded ops a.tmps)=true:=by simp[Region.wanted,hg]
   split at h
   ·rename_i x s6
    refine⟨a.eval x,.inl ⟨hw,fun w' => ?_⟩,β,I,hr.put (ej hd) (hr.DN x e h)⟩
    unfold execOp;rw[s6];rfl
   ·rename_i t x f s6
    split at h
    ·rename_i res np
     injection h with h;subst h
     obtain⟨v,h1,h2⟩:=Bb hT hr np
     refine⟨v,.inl ⟨hw,fun w' => ?_⟩,β,I,hr.put (ej hd) h2⟩
     unfold execOp;rw[s6];simp[h1 w']
    ·cases h
   ·cases h
def wz(T:j0)(n:Nat)(ops:Array Oper):List Nat→Array Bool→St→Option St
 |[],_,s=>some s
 |i::r,listed,s=>match ops[i]? with
  |some o=>bif Region.free .any ops listed i&&(Region.ready .any ops listed).contains i then
    match CK T n o s with
    |some e=>wz T n ops r (listed.setIfInBounds i true) ⟨nm s.env o.dst e,s.aG⟩
    |none=>none
   else none
  |none=>none
def yh(P:Program)(T:j0)(n:Nat)(ops:Array Oper):List Nat→List Hint→St→Option (List HR×St)
 |[],_,s=>some ([],s)
 |i::r,hs,s=>match ops[i]? with
  |some o=>match CG P T n ops o (hs.headD .none) s with
   |some res=>match yh P T n ops r hs.tail (hAdd s o.dst res) with
    |some (rs,s')=>some ((i,o,res)::rs,s')
    |none=>none
   |none=>none
  |none=>none
theorem uW{n:Nat} : ∀(hd:List Nat) (hs:List Hint) (s:St) (rs:List HR) (s':St),yh P T n ops hd hs s=some (rs,s')→rs.map (·.1)=hd∧Ba P T n ops rs hs s∧s'=app [] rs s
 |[],hs,s,rs,s',h=>by
  injection h with h;injection h with h1 h2
  subst h1;subst h2
  exact⟨rfl,trivial,rfl⟩
 |i::r,hs,s,rs,s',h=>by
  unfold yh at h
  split at h
  ·rename_i o ho
   split at h
   ·rename_i res np
    split at h
    ·rename_i XA SV Ua
     injection h with h;injection h with h1 h2
     subst h1;subst h2
     obtain⟨g1,g2,g3⟩:=uW r hs.tail _ XA SV Ua
     exact⟨by simp[g1],⟨ho,np,g2⟩,by rw[qf];exact g3⟩
    ·cases h
   ·cases h
  ·cases h
def obsOf:List HR→List Prop
 |[]=>[]
 |(_,_,res)::rs=>res.ob++obsOf rs
theorem zD:∀{rs:List HR},dA (obsOf rs)→∀x∈rs,dA x.2.2.ob
 |[],_,x,hx=>by cases hx
 |(i,o,res)::rs,h,x,hx=>by
  obtain⟨h1,h2⟩:=dA.app h
  rcases List.mem_cons.1 hx with hx|hx
  ·subst hx;exact h1
  ·exact zD h2 x hx
def CL(P:Program)(T:j0)(n:Nat)(ops:Array Oper)(fl hd tl:List Nat)(hs:List Hint)(s:St):Option (St×List Prop) :=
 bif Ge ops fl hd tl then
  match wz T n ops fl (Array.replicate ops.size false) s with
  |some s0=>match yh P T n ops hd hs s0 with
   |some (rs,s1)=>bif tS (nv ops) rs then (match zA P T n ops tl (hs.drop hd.length) s1 with
    |some (s2,ob)=>some (s2,obsOf rs++ob)
    |none=>none) else none
   |none=>none
  |none=>none
 else none
theorem Gg{l:List Nat}{n:Nat}(hn:l.Nodup)(hl:l.length=n)(hs:∀i∈l,i<n)(i:Nat)(hi:i<n):i∈l:=by
 refine Classical.byContradiction fun hc => ?_
 have h1:(i::l).Nodup:=List.nodup_cons.2 ⟨hc,hn⟩
 have h2:=List.Nodup.length_le_of_subset (l₁:=i::l) (l₂:=List.range n) h1 (fun j hj=>by
  rw[List.mem_range]
  rcases List.mem_cons.1 hj with rfl|hj
  ·exact hi
  ·exact hs j hj)
 simp at h2
 omega
theorem zE:∀(l m seen:List Nat),fwd ops seen (l++m)=true→fwd ops seen l=true
 |[],_,_,_=>rfl
 |i::l,m,seen,h=>by
  simp only[List.cons_append,fwd,Bool.and_eq_true] at h ⊢
  exact⟨h.1,zE l m _ h.2⟩
theorem tT(hT:mC P T)(Rw:Region.noSelect ops=true)(hQ:∀c a w d v,Q (.panic c) (Act.put a d v) w→Q (.panic c) a w){s0:St}{rest:Nat}(U:List Nat)
  (GZ:∀(listed:Array Bool) (a:Act) (w:World),JZ ops listed U→Rel Γ s0 a w→wpAny P .any ops Q rest listed a w) :
  ∀(fl:List Nat) (V:List Nat) (listed:Array Bool) (s:St) (a:Act) (w:World),(∀j,j∈V↔j∈U∨j∈fl)→(∀i∈fl,i ∉ U)→fl.Nodup→(∀i∈fl,i<ops.size)→JZ ops listed V→Rel Γ s a w →
   wz T Γ.n ops fl listed s=some s0→wpAny P .any ops Q (fl.length+rest) listed a w
 |[],V,listed,s,a,w,hV,_,_,_,hl,hr,h=>by
  injection h with h;subst h
  simp only[List.length_nil,Nat.zero_add]
  exact GZ listed a w ⟨hl.1,fun j hj=>by rw[hl.2 j hj,hV];simp⟩ hr
 |i::fl,V,listed,s,a,w,hV,hd,hn,kF,hl,hr,h=>by
  unfold wz at h
  split at h
  ·rename_i o ho
   cases hb:(Region.free .any ops listed i&&(Region.ready .any ops listed).contains i) with
   |false=>rw[hb] at h;cases h
   |true =>
    rw[hb] at h
    simp only[cond_true] at h
    simp only[Bool.and_eq_true] at hb
    split at h
    ·rename_i e he
     obtain⟨v,hy,dG⟩:=Es (ops:=ops) hT hr he
     obtain⟨Ro,Jh⟩:=List.nodup_cons.1 hn
     have bh:=kF i (by simp)
     have ih:=tT hT Rw hQ U GZ fl (Eo V i) (listed.setIfInBounds i true) _ (a.put o.dst v) w (fun j=>by
      rw[mT,hV]
      constructor
      ·rintro ⟨h1,h2⟩
       rcases h1 with h1|h1
       ·exact .inl h1
       ·rcases List.mem_cons.1 h1 with h1|h1
        ·exact absurd h1 h2
        ·exact .inr h1
      ·rintro (h1|h1)
       ·exact⟨.inl h1,fun e=>hd i (by simp) (e ▸ h1)⟩
       ·exact⟨.inr (by simp[h1]),fun e=>Ro (e ▸ h1)⟩) (fun j hj=>hd j (by simp[hj])) Jh (fun j hj=>kF j (by simp[hj])) (hl.set bh) dG h
     rw[show (i::fl).length+rest=(fl.length+rest)+1 from by simp;omega]
     exact wpAny_take ho Rw hb.1 hb.2 (fun c a w hq=>hQ c a w _ _ hq) hy ih
    ·cases h
  ·cases h
theorem Hi(U:List Nat):∀(rs:List HR) (s:St),(∀x∈rs,x.1∈U)→app U rs s=s
 |[],_,_=>rfl
 |(i,o,res)::rs,s,h=>by
  show app U rs (if i∈U then s else hAdd s o.dst res)=s
  rw[if_pos (h (i,o,res) (by simp))]
  exact Hi U rs s (fun x hx=>h x (by simp[hx]))
theorem Gh(hm:P.follows .mixedOrders=true)(hT:mC P T)(hs:∀r,bM Γ.sin r→Γ.n≤r)(hQ:∀c a w d v,Q (.panic c) (Act.put a d v) w→Q (.panic c) a w){id:Nat}{fl hd tl:List Nat}{hints:List Hint}{ob:List Prop}(hr:Rel Γ s a w)
  (aI:CL P T Γ.n ops fl hd tl hints s=some (s',ob)) (cb:dA ob) (hk:∀a' w',Rel Γ s' a' w'→Q .normal a' w'):(Code.region id ops true).wp P Q a w:=by
 refine wp_region_any hm ?_
 unfold CL at aI
 cases sl:Ge ops fl hd tl with
 |false=>simp[sl] at aI
 |true =>
  simp only[sl,cond_true] at aI
  split at aI
  ·rename_i s0 DM
   split at aI
   ·rename_i rs s1 XB
    cases J3:tS (nv ops) rs with
    |false=>simp[J3] at aI
    |true =>
    simp only[J3,cond_true] at aI
    split at aI
    ·rename_i s2 ob2 vO
     injection aI with aI;injection aI with e1 e2
     subst e1;subst e2
     obtain⟨g1,g2⟩:=cb.app
     unfold Ge at sl
     simp only[Bool.and_eq_true,List.all_eq_true] at sl
     obtain⟨⟨⟨⟨⟨⟨⟨c1,XC⟩,c3⟩,c4⟩,c5⟩,c6⟩,c7⟩,c8⟩:=sl
     have hlen:(fl++(hd++tl)).length=ops.size:=Nat.eq_of_beq_eq_true c1
     have bh:∀i∈fl++(hd++tl),i<ops.size:=fun i hi=>Nat.le_of_ble_eq_true (XC i hi)
     have ye:=rA c3
     have O6:=Gg ye hlen bh
     have BE:∀i,i<ops.size→∀e∈ig ops i,e<ops.size:=fun i hi e he=>by
      rcases tQ ops _ _ c4 i (O6 i hi) e he with h|h
      ·cases h
      ·exact bh e h
     obtain⟨q1,q2,q3⟩:=uW hd hints s0 rs s1 XB
     rw[q3] at vO
     have J4:(hd++tl).Nodup:=(List.nodup_append.1 ye).2.1
     have J7:∀i∈fl,i ∉ hd++tl:=fun i hi h=>(List.nodup_append.1 ye).2.2 i hi i h rfl
     have dG:Rel Γ s a w.drew:=by
      obtain⟨β,I,hr⟩:=hr
      exact⟨β,I,hr.grow ((AY.refl _ _).drew) (fun b h=>h) (fun b h => .inl h)⟩
     have key:=tT (Q:=Q) (s0:=s0) (rest:=(hd++tl).length) hT c8 hQ (hd++tl) (fun listed a w hl jD =>
      J2 hT hs BE (rs:=rs) q1 q2 c6 c5 c7 J3 J4 (fun i hi=>bh i (by simp at hi ⊢;rcases hi with h|h<;>simp[h])) (fun r ML df=>by
        obtain⟨i,hi⟩:=List.exists_mem_of_ne_nil r df
        obtain⟨j,_,Ec,Ub⟩:=wv ops r _ [] c4 (fun e he=>by cases he) ⟨i,by have:=ML i hi;simp at this ⊢;rcases this with h|h<;>simp[h],hi⟩
        exact⟨j,Ec,Ub⟩) (zD g1) vO g2 hk (hd++tl).length (hd++tl) listed a w rfl J4 (fun i hi=>hi) (fun i hi=>by simp[hi]) hl (fun i hi Ji e he T9=>by
        have XD:i∈fl:=by
         have:=O6 i hi
         rcases List.mem_append.1 this with h|h
         ·exact h
         ·exact absurd h Ji
        rcases tQ ops fl [] (zE fl _ [] c4) i XD e he with h|h
        ·cases h
        ·exact J7 e h T9) (by rw[Hi (hd++tl) rs s0 (fun x hx=>List.mem_append_left _ (by rw[←q1];exact List.mem_map.2 ⟨x,hx,rfl⟩))];exact jD))
      fl (fl++(hd++tl)) (Array.replicate ops.size false) s a w.drew (fun j=>by rw[List.mem_append];exact Or.comm) J7 (List.nodup_append.1 ye).1 (fun i hi=>bh i (by simp[hi]))
      ⟨by simp,fun j hj=>by
       constructor
       ·intro h
        have hf:(Array.replicate ops.size false).getD j false=false:=by simp[Array.getD_eq_getD_getElem?,hj]
        rw[hf] at h;cases h
       ·intro h;exact absurd (O6 j hj) h⟩ dG DM
     rw[show fl.length+(hd++tl).length=ops.size from by rw[←hlen];simp] at key
     exact key
    ·cases aI
   ·cases aI
  ·cases aI
end
end Go.Proofs.YtllmkadmohkbfaaGreatDoor.Sym
