/- Lemmas for the statements of this seat. -/
import Derived.Test.YtneklnlpgfeplaaGreatW22
namespace Go.Proofs.YtneklnlpgfeplaaGreat.Sym
open Go Go.RowKit
section
variable {P:Program} {T:ja} {fn:Func} {Γ:Ctx} {R:Ending→World→Prop} {s s':St} {a:Act} {w:World} {ops:Array Oper} {Q:Exit→Act→World→Prop}
def DK(T:ja)(n:Nat)(o:Oper)(s:St):Option EV :=
 match o.guard with
 |some _=>none
 |none=>bif jC n o.dst then
   match o.op with
   |.move x=>cU s.env x
   |.fieldAddr t x f=>match cI T s.aP o.dst (.fieldAddr t x f) (cU s.env) .none with
    |some res=>some res.val
    |none=>none
   |_=>none
  else none
theorem Cc{t:TypeId}{x:Operand}{f:Nat}{dst:Option Nat}{res:nX}{β:Nat→Option Nat}{I:Nat→Prop}(hT:mm P T)(hr:dh Γ s a w β I)(aJ:cI T s.aP dst (.fieldAddr t x f) (cU s.env) .none=some res) :
  ∃v,(∀w',(Instr.fieldAt t (a.eval x) f).run P w' = .ok v w')∧RE β (bz s.aP) I w res.val v:=by
 simp only[cI] at aJ;split at aJ
 ·rename_i d e hd hx;split at aJ
  ·rename_i fs hk;split at aJ
   ·rename_i off size agg hf;obtain⟨ff,fl,hu,JV,JW,ji,_,zX,_⟩:=re (hT t d hd) hk hf;cases hs:Nat.ble 1 size with
    |false=>simp[hs] at aJ
    |true =>
     simp only[hs,cond_true] at aJ;have Jt:1≤size:=abM hs;have exec:∀b o,a.eval x = .pointer (some ⟨b,o,none⟩)→∀w',(Instr.fieldAt t (a.eval x) f).run P w' = .ok (.pointer (some ⟨b,o+off,none⟩)) w':=by
      intro b o hv w';obtain⟨i,hi⟩:=abP.1 zX;have sM:(sizeOf fl.type).run P w' = .ok (P.cellsOf fl.type) w':=by simp[sizeOf,typeInfo,hi,Program.cellsOf]
      rw[hv];unfold Instr.fieldAt;simp only[Sem.run_bind,run_underlying hu,Result.andThen_ok,JV,Instr.sureAddr,Sem.run_pure,fieldPlace,sM];rw[ac3 (by omega)];simp only[Sem.run_pure,Result.andThen_ok,gw,JW]
     split at aJ
     ·rename_i r o;rw[cF aJ];obtain⟨hL,b,hb,hv⟩:=hr.zZ x _ hx;exact⟨_,exec _ _ hv,hL,b,hb,rfl⟩
     ·rename_i cs;rw[cF aJ];obtain⟨b,o,hv,hb,hc⟩:=hr.zZ x _ hx;refine⟨_,exec _ _ hv,b,o+off,rfl,hb,fun j y hy => ?_⟩;rw[acq] at hy;have:=hc _ y hy;rw[ael];exact this
     ·rename_i r o;rw[cF aJ];obtain⟨hL,b,hb,hv⟩:=hr.zZ x _ hx;exact⟨_,exec _ _ hv,hL,b,hb,rfl⟩
     ·cases aJ
   ·cases aJ
  ·cases aJ
 ·cases aJ
theorem E7(hT:mm P T){o:Oper}{e:EV}(hr:Rel Γ s a w)(h:DK T Γ.n o s=some e):∃v,Yields P ops o v a∧Rel Γ ⟨nN s.env o.dst e,s.aP⟩ (a.put o.dst v) w:=by
 obtain⟨β,I,hr⟩:=hr;unfold DK at h;split at h
 ·cases h
 ·rename_i hg;cases hd:jC Γ.n o.dst with
  |false=>simp[hd] at h
  |true =>
   simp only[hd,cond_true] at h;have hw:Region.wanted o (yielded ops a.tmps)=true:=by simp[Region.wanted,hg]
   split at h
   ·rename_i x pB;refine⟨a.eval x,.inl ⟨hw,fun w' => ?_⟩,β,I,hr.put (eO hd) (hr.zZ x e h)⟩;unfold execOp;rw[pB];rfl
   ·rename_i t x f pB;split at h
    ·rename_i res mq;injection h with h;subst h
     obtain⟨v,h1,h2⟩:=Cc hT hr mq;refine⟨v,.inl ⟨hw,fun w' => ?_⟩,β,I,hr.put (eO hd) h2⟩;unfold execOp;rw[pB];simp[h1 w']
    ·cases h
   ·cases h
def xF(T:ja)(n:Nat)(ops:Array Oper):List Nat→Array Bool→St→Option St
 |[],_,s=>some s
 |i::r,bT,s=>match ops[i]? with
  |some o=>bif Region.free .any ops bT i&&(Region.ready .any ops bT).contains i then
    match DK T n o s with
    |some e=>xF T n ops r (bT.setIfInBounds i true) ⟨nN s.env o.dst e,s.aP⟩
    |none=>none
   else none
  |none=>none
def zt(P:Program)(T:ja)(n:Nat)(ops:Array Oper):List Nat→List Hint→St→Option (List HR×St)
 |[],_,s=>some ([],s)
 |i::r,hs,s=>match ops[i]? with
  |some o=>match DG P T n ops o (hs.headD .none) s with
   |some res=>match zt P T n ops r hs.tail (hAdd s o.dst res) with
    |some (rs,s')=>some ((i,o,res)::rs,s')
    |none=>none
   |none=>none
  |none=>none
theorem wG{n:Nat} : ∀(hd:List Nat) (hs:List Hint) (s:St) (rs:List HR) (s':St),zt P T n ops hd hs s=some (rs,s')→rs.map (·.1)=hd∧Cb P T n ops rs hs s∧s'=app [] rs s
 |[],hs,s,rs,s',h=>by
  injection h with h;injection h with h1 h2
  subst h1;subst h2;exact⟨rfl,trivial,rfl⟩
 |i::r,hs,s,rs,s',h=>by
  unfold zt at h;split at h
  ·rename_i o ho;split at h
   ·rename_i res mq;split at h
    ·rename_i Om Ur V3;injection h with h;injection h with h1 h2
     subst h1;subst h2;obtain⟨g1,g2,g3⟩:=wG r hs.tail _ Om Ur V3;exact⟨by simp[g1],⟨ho,mq,g2⟩,by rw[ry];exact g3⟩
    ·cases h
   ·cases h
  ·cases h
def obsOf:List HR→List Prop
 |[]=>[]
 |(_,_,res)::rs=>res.ob++obsOf rs
theorem AD:∀{rs:List HR},dW (obsOf rs)→∀x∈rs,dW x.2.2.ob
 |[],_,x,hx=>by cases hx
 |(i,o,res)::rs,h,x,hx=>by
  obtain⟨h1,h2⟩:=dW.app h;rcases ac0.1 hx with hx|hx
  ·subst hx;exact h1
  ·exact AD h2 x hx
def DL(P:Program)(T:ja)(n:Nat)(ops:Array Oper)(fl hd tl:List Nat)(hs:List Hint)(s:St):Option (St×List Prop) :=
 bif GH ops fl hd tl then
  match xF T n ops fl (Array.replicate ops.size false) s with
  |some s0=>match zt P T n ops hd hs s0 with
   |some (rs,s1)=>bif vu (oK ops) rs then (match Az P T n ops tl (hs.drop hd.length) s1 with
    |some (s2,ob)=>some (s2,obsOf rs++ob)
    |none=>none) else none
   |none=>none
  |none=>none
 else none
theorem GK{l:List Nat}{n:Nat}(hn:l.Nodup)(hl:l.length=n)(hs:∀i∈l,i<n)(i:Nat)(hi:i<n):i∈l:=by
 refine aco fun hc => ?_
 have h1:(i::l).Nodup:=adP.2 ⟨hc,hn⟩;have h2:=acK (l₁:=i::l) (l₂:=List.range n) h1 (fun j hj=>by
  rw[adf];rcases ac0.1 hj with rfl|hj
  ·exact hi
  ·exact hs j hj)
 simp at h2;omega
theorem AE:∀(l m seen:List Nat),fwd ops seen (l++m)=true→fwd ops seen l=true
 |[],_,_,_=>rfl
 |i::l,m,seen,h=>by simp only[List.cons_append,fwd,Bool.and_eq_true] at h ⊢;exact⟨h.1,AE l m _ h.2⟩
theorem rz(hT:mm P T)(Ss:Region.noSelect ops=true)(hQ:∀c a w d v,Q (.panic c) (Act.put a d v) w→Q (.panic c) a w){s0:St}{rest:Nat}(U:List Nat)
  (Cq:∀(bT:Array Bool) (a:Act) (w:World),Es ops bT U→Rel Γ s0 a w→wpAny P .any ops Q rest bT a w) :
  ∀(fl:List Nat) (V:List Nat) (bT:Array Bool) (s:St) (a:Act) (w:World),(∀j,j∈V↔j∈U∨j∈fl)→(∀i∈fl,i ∉ U)→fl.Nodup→(∀i∈fl,i<ops.size)→Es ops bT V→Rel Γ s a w →
   xF T Γ.n ops fl bT s=some s0→wpAny P .any ops Q (fl.length+rest) bT a w
 |[],V,bT,s,a,w,hV,_,_,_,hl,hr,h=>by
  injection h with h;subst h
  simp only[List.length_nil,Nat.zero_add];exact Cq bT a w ⟨hl.1,fun j hj=>by rw[hl.2 j hj,hV];simp⟩ hr
 |i::fl,V,bT,s,a,w,hV,hd,hn,ji,hl,hr,h=>by
  unfold xF at h;split at h
  ·rename_i o ho;cases hb:(Region.free .any ops bT i&&(Region.ready .any ops bT).contains i) with
   |false=>rw[hb] at h;cases h
   |true =>
    rw[hb] at h;simp only[cond_true] at h;simp only[Bool.and_eq_true] at hb;split at h
    ·rename_i e he;obtain⟨v,hy,dx⟩:=E7 (ops:=ops) hT hr he;obtain⟨Ox,M9⟩:=adP.1 hn;have cT:=ji i (by simp);have ih:=rz hT Ss hQ U Cq fl (CE V i) (bT.setIfInBounds i true) _ (a.put o.dst v) w (fun j=>by
      rw[nc,hV];constructor
      ·rintro ⟨h1,h2⟩
       rcases h1 with h1|h1
       ·exact .inl h1
       ·rcases ac0.1 h1 with h1|h1
        ·exact absurd h1 h2
        ·exact .inr h1
      ·rintro (h1|h1)
       ·exact⟨.inl h1,fun e=>hd i (by simp) (e ▸ h1)⟩
       ·exact⟨.inr (by simp[h1]),fun e=>Ox (e ▸ h1)⟩) (fun j hj=>hd j (by simp[hj])) M9 (fun j hj=>ji j (by simp[hj])) (hl.set cT) dx h
     rw[show (i::fl).length+rest=(fl.length+rest)+1 from by simp;omega];exact wpAny_take ho Ss hb.1 hb.2 (fun c a w hq=>hQ c a w _ _ hq) hy ih
    ·cases h
  ·cases h
theorem H4(U:List Nat):∀(rs:List HR) (s:St),(∀x∈rs,x.1∈U)→app U rs s=s
 |[],_,_=>rfl
 |(i,o,res)::rs,s,h=>by show app U rs (if i∈U then s else hAdd s o.dst res)=s;rw[ac7 (h (i,o,res) (by simp))];exact H4 U rs s (fun x hx=>h x (by simp[hx]))
theorem GL(hm:P.follows .mixedOrders=true)(hT:mm P T)(hs:∀r,bz Γ.sin r→Γ.n≤r)(hQ:∀c a w d v,Q (.panic c) (Act.put a d v) w→Q (.panic c) a w){id:Nat}{fl hd tl:List Nat}{hints:List Hint}{ob:List Prop}(hr:Rel Γ s a w)
  (bc:DL P T Γ.n ops fl hd tl hints s=some (s',ob)) (cf:dW ob) (hk:∀a' w',Rel Γ s' a' w'→Q .normal a' w'):(Code.region id ops true).wp P Q a w:=by
 refine wp_region_any hm ?_;unfold DL at bc;cases r8:GH ops fl hd tl with
 |false=>simp[r8] at bc
 |true =>
  simp only[r8,cond_true] at bc;split at bc
  ·rename_i s0 JV;split at bc
   ·rename_i rs s1 ZZ;cases Ky:vu (oK ops) rs with
    |false=>simp[Ky] at bc
    |true =>
    simp only[Ky,cond_true] at bc;split at bc
    ·rename_i s2 ob2 xE;injection bc with bc;injection bc with e1 e2
     subst e1;subst e2;obtain⟨g1,g2⟩:=cf.app;unfold GH at r8;simp only[Bool.and_eq_true,List.all_eq_true] at r8;obtain⟨⟨⟨⟨⟨⟨⟨c1,Z0⟩,c3⟩,c4⟩,c5⟩,c6⟩,c7⟩,c8⟩:=r8;have hlen:(fl++(hd++tl)).length=ops.size:=abO c1;have cT:∀i∈fl++(hd++tl),i<ops.size:=fun i hi=>abM (Z0 i hi)
     have zk:=pN c3;have PL:=GK zk hlen cT;have zr:∀i,i<ops.size→∀e∈gX ops i,e<ops.size:=fun i hi e he=>by
      rcases vq ops _ _ c4 i (PL i hi) e he with h|h
      ·cases h
      ·exact cT e h
     obtain⟨q1,q2,q3⟩:=wG hd hints s0 rs s1 ZZ;rw[q3] at xE;have Kz:(hd++tl).Nodup:=(ad7.1 zk).2.1;have E8:∀i∈fl,i ∉ hd++tl:=fun i hi h=>(ad7.1 zk).2.2 i hi i h rfl
     have dx:Rel Γ s a w.drew:=by obtain⟨β,I,hr⟩:=hr;exact⟨β,I,hr.grow ((yK.refl _ _).drew) (fun b h=>h) (fun b h => .inl h)⟩
     have key:=rz (Q:=Q) (s0:=s0) (rest:=(hd++tl).length) hT c8 hQ (hd++tl) (fun bT a w hl gW =>
      Kx hT hs zr (rs:=rs) q1 q2 c6 c5 c7 Ky Kz (fun i hi=>cT i (by simp at hi ⊢;rcases hi with h|h<;>simp[h])) (fun r V0 nZ=>by
        obtain⟨i,hi⟩:=List.exists_mem_of_ne_nil r nZ;obtain⟨j,_,Dw,Su⟩:=uc ops r _ [] c4 (fun e he=>by cases he) ⟨i,by have:=V0 i hi;simp at this ⊢;rcases this with h|h<;>simp[h],hi⟩;exact⟨j,Dw,Su⟩) (AD g1) xE g2 hk (hd++tl).length (hd++tl) bT a w rfl Kz (fun i hi=>hi) (fun i hi=>by simp[hi]) hl (fun i hi GI e he V2=>by
        have Z1:i∈fl:=by
         have:=PL i hi;rcases acs.1 this with h|h
         ·exact h
         ·exact absurd h GI
        rcases vq ops fl [] (AE fl _ [] c4) i Z1 e he with h|h
        ·cases h
        ·exact E8 e h V2) (by rw[H4 (hd++tl) rs s0 (fun x hx=>acH _ (by rw[←q1];exact aca.2 ⟨x,hx,rfl⟩))];exact gW))
      fl (fl++(hd++tl)) (Array.replicate ops.size false) s a w.drew (fun j=>by rw[acs];exact Or.comm) E8 (ad7.1 zk).1 (fun i hi=>cT i (by simp[hi]))
      ⟨by simp,fun j hj=>by
       constructor
       ·intro h;have hf:(Array.replicate ops.size false).getD j false=false:=by simp[Array.getD_eq_getD_getElem?,hj]
        rw[hf] at h;cases h
       ·intro h;exact absurd (PL j hj) h⟩ dx JV
     rw[show fl.length+(hd++tl).length=ops.size from by rw[←hlen];simp] at key;exact key
    ·cases bc
   ·cases bc
  ·cases bc
end
end Go.Proofs.YtneklnlpgfeplaaGreat.Sym
