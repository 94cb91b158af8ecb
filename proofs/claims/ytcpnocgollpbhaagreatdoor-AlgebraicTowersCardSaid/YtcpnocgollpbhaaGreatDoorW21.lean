/- Lemmas for the statements of this seat. -/
import Derived.Test.YtcpnocgollpbhaaGreatDoorW20
namespace Go.Proofs.YtcpnocgollpbhaaGreatDoor.Sym
open Go Go.RowKit
section
variable {P:Program} {T:lh} {fn:Func} {Γ:Ctx} {R:Ending→World→Prop} {s s':St} {a:Act} {w:World} {ops:Array Oper} {Q:Exit→Act→World→Prop}
def Gs(T:lh)(n:Nat)(o:Oper)(s:St):Option EV :=
 match o.guard with
 |some _=>none
 |none=>bif l7 n o.dst then
   match o.op with
   |.move x=>dA s.env x
   |.fieldAddr t x f=>match cw T s.aK o.dst (.fieldAddr t x f) (dA s.env) .none with
    |some res=>some res.val
    |none=>none
   |_=>none
  else none
theorem EI{t:TypeId}{x:Operand}{f:Nat}{dst:Option Nat}{res:oP}{β:Nat→Option Nat}{I:Nat→Prop}(hT:oE P T)(hr:dz Γ s a w β I)(aw:cw T s.aK dst (.fieldAddr t x f) (dA s.env) .none=some res) :
  ∃v,(∀w',(Instr.fieldAt t (a.eval x) f).run P w' = .ok v w')∧RE β (bK s.aK) I w res.val v:=by
 simp only[cw] at aw;split at aw
 ·rename_i d e hd hx;split at aw
  ·rename_i fs hk;split at aw
   ·rename_i off size agg hf;obtain⟨ff,fl,hu,HH,OG,mg,_,xU,_⟩:=sO (hT t d hd) hk hf;cases hs:Nat.ble 1 size with
    |false=>simp[hs] at aw
    |true =>
     simp only[hs,cond_true] at aw;have OD:1≤size:=afv hs;have exec:∀b o,a.eval x = .pointer (some ⟨b,o,none⟩)→∀w',(Instr.fieldAt t (a.eval x) f).run P w' = .ok (.pointer (some ⟨b,o+off,none⟩)) w':=by
      intro b o hv w';obtain⟨i,hi⟩:=afS.1 xU;have xV:(sizeOf fl.type).run P w' = .ok (P.cellsOf fl.type) w':=by simp[sizeOf,typeInfo,hi,Program.cellsOf]
      rw[hv];unfold Instr.fieldAt;simp only[Sem.run_bind,run_underlying hu,Result.andThen_ok,HH,Instr.sureAddr,Sem.run_pure,fieldPlace,xV];rw[afG (by omega)];simp only[Sem.run_pure,Result.andThen_ok,gU,OG]
     split at aw
     ·rename_i r o;rw[cH aw];obtain⟨hL,b,hb,hv⟩:=hr.HI x _ hx;exact⟨_,exec _ _ hv,hL,b,hb,rfl⟩
     ·rename_i cs;rw[cH aw];obtain⟨b,o,hv,hb,hc⟩:=hr.HI x _ hx;refine⟨_,exec _ _ hv,b,o+off,rfl,hb,fun j y hy => ?_⟩;rw[agn] at hy;have:=hc _ y hy;rw[aiQ];exact this
     ·rename_i r o;rw[cH aw];obtain⟨hL,b,hb,hv⟩:=hr.HI x _ hx;exact⟨_,exec _ _ hv,hL,b,hb,rfl⟩
     ·cases aw
   ·cases aw
  ·cases aw
 ·cases aw
theorem IA(hT:oE P T){o:Oper}{e:EV}(hr:Rel Γ s a w)(h:Gs T Γ.n o s=some e):∃v,Yields P ops o v a∧Rel Γ ⟨pF s.env o.dst e,s.aK⟩ (a.put o.dst v) w:=by
 obtain⟨β,I,hr⟩:=hr;unfold Gs at h;split at h
 ·cases h
 ·rename_i hg;cases hd:l7 Γ.n o.dst with
  |false=>simp[hd] at h
  |true =>
   simp only[hd,cond_true] at h;have hw:Region.wanted o (yielded ops a.tmps)=true:=by simp[Region.wanted,hg]
   split at h
   ·rename_i x v7;refine⟨a.eval x,.inl ⟨hw,fun w' => ?_⟩,β,I,hr.put (fo hd) (hr.HI x e h)⟩;unfold execOp;rw[v7];rfl
   ·rename_i t x f v7;split at h
    ·rename_i res pG;injection h with h;subst h
     obtain⟨v,h1,h2⟩:=EI hT hr pG;refine⟨v,.inl ⟨hw,fun w' => ?_⟩,β,I,hr.put (fo hd) h2⟩;unfold execOp;rw[v7];simp[h1 w']
    ·cases h
   ·cases h
def zZ(T:lh)(n:Nat)(ops:Array Oper):List Nat→Array Bool→St→Option St
 |[],_,s=>some s
 |i::r,listed,s=>match ops[i]? with
  |some o=>bif Region.free .any ops listed i&&(Region.ready .any ops listed).contains i then
    match Gs T n o s with
    |some e=>zZ T n ops r (listed.setIfInBounds i true) ⟨pF s.env o.dst e,s.aK⟩
    |none=>none
   else none
  |none=>none
def BO(P:Program)(T:lh)(n:Nat)(ops:Array Oper):List Nat→List Hint→St→Option (List HR×St)
 |[],_,s=>some ([],s)
 |i::r,hs,s=>match ops[i]? with
  |some o=>match Gp P T n ops o (hs.headD .none) s with
   |some res=>match BO P T n ops r hs.tail (hAdd s o.dst res) with
    |some (rs,s')=>some ((i,o,res)::rs,s')
    |none=>none
   |none=>none
  |none=>none
theorem yf{n:Nat} : ∀(hd:List Nat) (hs:List Hint) (s:St) (rs:List HR) (s':St),BO P T n ops hd hs s=some (rs,s')→rs.map (·.1)=hd∧EH P T n ops rs hs s∧s'=app [] rs s
 |[],hs,s,rs,s',h=>by
  injection h with h;injection h with h1 h2
  subst h1;subst h2;exact⟨rfl,trivial,rfl⟩
 |i::r,hs,s,rs,s',h=>by
  unfold BO at h;split at h
  ·rename_i o ho;split at h
   ·rename_i res pG;split at h
    ·rename_i rs' YN Z2;injection h with h;injection h with h1 h2
     subst h1;subst h2;obtain⟨g1,g2,g3⟩:=yf r hs.tail _ rs' YN Z2;exact⟨by simp[g1],⟨ho,pG,g2⟩,by rw[sW];exact g3⟩
    ·cases h
   ·cases h
  ·cases h
def obsOf:List HR→List Prop
 |[]=>[]
 |(_,_,res)::rs=>res.ob++obsOf rs
theorem C6:∀{rs:List HR},dX (obsOf rs)→∀x∈rs,dX x.2.2.ob
 |[],_,x,hx=>by cases hx
 |(i,o,res)::rs,h,x,hx=>by
  obtain⟨h1,h2⟩:=dX.app h;rcases afY.1 hx with hx|hx
  ·subst hx;exact h1
  ·exact C6 h2 x hx
def Gt(P:Program)(T:lh)(n:Nat)(ops:Array Oper)(fl hd tl:List Nat)(hs:List Hint)(s:St):Option (St×List Prop) :=
 bif Kv ops fl hd tl then
  match zZ T n ops fl (Array.replicate ops.size false) s with
  |some s0=>match BO P T n ops hd hs s0 with
   |some (rs,s1)=>bif w8 (pJ ops) rs then (match CY P T n ops tl (hs.drop hd.length) s1 with
    |some (s2,ob)=>some (s2,obsOf rs++ob)
    |none=>none) else none
   |none=>none
  |none=>none
 else none
theorem Ky{l:List Nat}{n:Nat}(hn:l.Nodup)(hl:l.length=n)(hs:∀i∈l,i<n)(i:Nat)(hi:i<n):i∈l:=by
 refine afE fun hc => ?_
 have h1:(i::l).Nodup:=ai0.2 ⟨hc,hn⟩;have h2:=ahc (l₁:=i::l) (l₂:=List.range n) h1 (fun j hj=>by
  rw[ahV];rcases afY.1 hj with rfl|hj
  ·exact hi
  ·exact hs j hj)
 simp at h2;omega
theorem C7:∀(l m seen:List Nat),fwd ops seen (l++m)=true→fwd ops seen l=true
 |[],_,_,_=>rfl
 |i::l,m,seen,h=>by simp only[List.cons_append,fwd,Bool.and_eq_true] at h ⊢;exact⟨h.1,C7 l m _ h.2⟩
theorem w9(hT:oE P T)(Xn:Region.noSelect ops=true)(hQ:∀c a w d v,Q (.panic c) (Act.put a d v) w→Q (.panic c) a w){s0:St}{rest:Nat}(U:List Nat)
  (E0:∀(listed:Array Bool) (a:Act) (w:World),O9 ops listed U→Rel Γ s0 a w→wpAny P .any ops Q rest listed a w) :
  ∀(fl:List Nat) (V:List Nat) (listed:Array Bool) (s:St) (a:Act) (w:World),(∀j,j∈V↔j∈U∨j∈fl)→(∀i∈fl,i ∉ U)→fl.Nodup→(∀i∈fl,i<ops.size)→O9 ops listed V→Rel Γ s a w →
   zZ T Γ.n ops fl listed s=some s0→wpAny P .any ops Q (fl.length+rest) listed a w
 |[],V,listed,s,a,w,hV,_,_,_,hl,hr,h=>by
  injection h with h;subst h
  simp only[List.length_nil,Nat.zero_add];exact E0 listed a w ⟨hl.1,fun j hj=>by rw[hl.2 j hj,hV];simp⟩ hr
 |i::fl,V,listed,s,a,w,hV,hd,hn,mg,hl,hr,h=>by
  unfold zZ at h;split at h
  ·rename_i o ho;cases hb:(Region.free .any ops listed i&&(Region.ready .any ops listed).contains i) with
   |false=>rw[hb] at h;cases h
   |true =>
    rw[hb] at h;simp only[cond_true] at h;simp only[Bool.and_eq_true] at hb;split at h
    ·rename_i e he;obtain⟨v,hy,dS⟩:=IA (ops:=ops) hT hr he;obtain⟨Xg,Oe⟩:=ai0.1 hn;have dI:=mg i (by simp);have ih:=w9 hT Xn hQ U E0 fl (Ix V i) (listed.setIfInBounds i true) _ (a.put o.dst v) w (fun j=>by
      rw[o6,hV];constructor
      ·rintro ⟨h1,h2⟩
       rcases h1 with h1|h1
       ·exact .inl h1
       ·rcases afY.1 h1 with h1|h1
        ·exact absurd h1 h2
        ·exact .inr h1
      ·rintro (h1|h1)
       ·exact⟨.inl h1,fun e=>hd i (by simp) (e ▸ h1)⟩
       ·exact⟨.inr (by simp[h1]),fun e=>Xg (e ▸ h1)⟩) (fun j hj=>hd j (by simp[hj])) Oe (fun j hj=>mg j (by simp[hj])) (hl.set dI) dS h
     rw[show (i::fl).length+rest=(fl.length+rest)+1 from by simp;omega];exact wpAny_take ho Xn hb.1 hb.2 (fun c a w hq=>hQ c a w _ _ hq) hy ih
    ·cases h
  ·cases h
theorem LM(U:List Nat):∀(rs:List HR) (s:St),(∀x∈rs,x.1∈U)→app U rs s=s
 |[],_,_=>rfl
 |(i,o,res)::rs,s,h=>by show app U rs (if i∈U then s else hAdd s o.dst res)=s;rw[afI (h (i,o,res) (by simp))];exact LM U rs s (fun x hx=>h x (by simp[hx]))
theorem Kz(hm:P.follows .mixedOrders=true)(hT:oE P T)(hs:∀r,bK Γ.sin r→Γ.n≤r)(hQ:∀c a w d v,Q (.panic c) (Act.put a d v) w→Q (.panic c) a w){id:Nat}{fl hd tl:List Nat}{hints:List Hint}{ob:List Prop}(hr:Rel Γ s a w)
  (aO:Gt P T Γ.n ops fl hd tl hints s=some (s',ob)) (cv:dX ob) (hk:∀a' w',Rel Γ s' a' w'→Q .normal a' w'):(Code.region id ops true).wp P Q a w:=by
 refine wp_region_any hm ?_;unfold Gt at aO;cases vj:Kv ops fl hd tl with
 |false=>simp[vj] at aO
 |true =>
  simp only[vj,cond_true] at aO;split at aO
  ·rename_i s0 HH;split at aO
   ·rename_i rs s1 hhr;cases Pd:w8 (pJ ops) rs with
    |false=>simp[Pd] at aO
    |true =>
    simp only[Pd,cond_true] at aO;split at aO
    ·rename_i s2 ob2 zu;injection aO with aO;injection aO with e1 e2
     subst e1;subst e2;obtain⟨g1,g2⟩:=cv.app;unfold Kv at vj;simp only[Bool.and_eq_true,List.all_eq_true] at vj;obtain⟨⟨⟨⟨⟨⟨⟨c1,c2'⟩,c3⟩,c4⟩,c5⟩,c6⟩,c7⟩,c8⟩:=vj;have hlen:(fl++(hd++tl)).length=ops.size:=afB c1;have dI:∀i∈fl++(hd++tl),i<ops.size:=fun i hi=>afv (c2' i hi)
     have BL:=uy c3;have UQ:=Ky BL hlen dI;have Fe:∀i,i<ops.size→∀e∈jE ops i,e<ops.size:=fun i hi e he=>by
      rcases w6 ops _ _ c4 i (UQ i hi) e he with h|h
      ·cases h
      ·exact dI e h
     obtain⟨q1,q2,q3⟩:=yf hd hints s0 rs s1 hhr;rw[q3] at zu;have Pe:(hd++tl).Nodup:=(aho.1 BL).2.1;have Ph:∀i∈fl,i ∉ hd++tl:=fun i hi h=>(aho.1 BL).2.2 i hi i h rfl
     have dS:Rel Γ s a w.drew:=by obtain⟨β,I,hr⟩:=hr;exact⟨β,I,hr.grow ((Eu.refl _ _).drew) (fun b h=>h) (fun b h => .inl h)⟩
     have key:=w9 (Q:=Q) (s0:=s0) (rest:=(hd++tl).length) hT c8 hQ (hd++tl) (fun listed a w hl kT =>
      Pc hT hs Fe (rs:=rs) q1 q2 c6 c5 c7 Pd Pe (fun i hi=>dI i (by simp at hi ⊢;rcases hi with h|h<;>simp[h])) (fun r R0 fT=>by
        obtain⟨i,hi⟩:=List.exists_mem_of_ne_nil r fT;obtain⟨j,_,Gi,Z3⟩:=zX ops r _ [] c4 (fun e he=>by cases he) ⟨i,by have:=R0 i hi;simp at this ⊢;rcases this with h|h<;>simp[h],hi⟩;exact⟨j,Gi,Z3⟩) (C6 g1) zu g2 hk (hd++tl).length (hd++tl) listed a w rfl Pe (fun i hi=>hi) (fun i hi=>by simp[hi]) hl (fun i hi Og e he Z1=>by
        have hif:i∈fl:=by
         have:=UQ i hi;rcases agO.1 this with h|h
         ·exact h
         ·exact absurd h Og
        rcases w6 ops fl [] (C7 fl _ [] c4) i hif e he with h|h
        ·cases h
        ·exact Ph e h Z1) (by rw[LM (hd++tl) rs s0 (fun x hx=>aio _ (by rw[←q1];exact agj.2 ⟨x,hx,rfl⟩))];exact kT))
      fl (fl++(hd++tl)) (Array.replicate ops.size false) s a w.drew (fun j=>by rw[agO];exact Or.comm) Ph (aho.1 BL).1 (fun i hi=>dI i (by simp[hi]))
      ⟨by simp,fun j hj=>by
       constructor
       ·intro h;have hf:(Array.replicate ops.size false).getD j false=false:=by simp[Array.getD_eq_getD_getElem?,hj]
        rw[hf] at h;cases h
       ·intro h;exact absurd (UQ j hj) h⟩ dS HH
     rw[show fl.length+(hd++tl).length=ops.size from by rw[←hlen];simp] at key;exact key
    ·cases aO
   ·cases aO
  ·cases aO
end
end Go.Proofs.YtcpnocgollpbhaaGreatDoor.Sym
