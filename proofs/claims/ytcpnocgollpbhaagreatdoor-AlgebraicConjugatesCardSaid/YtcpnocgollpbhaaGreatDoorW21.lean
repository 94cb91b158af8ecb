/- Lemmas for the statements of this seat. -/
import Derived.Test.YtcpnocgollpbhaaGreatDoorW20
namespace Go.Proofs.YtcpnocgollpbhaaGreatDoor.Sym
open Go Go.RowKit
section
variable {P:Program} {T:kL} {fn:Func} {Γ:Ctx} {R:Ending→World→Prop} {s s':St} {a:Act} {w:World} {ops:Array Oper} {Q:Exit→Act→World→Prop}
def Fx(T:kL)(n:Nat)(o:Oper)(s:St):Option EV :=
 match o.guard with
 |some _=>none
 |none=>bif lK n o.dst then
   match o.op with
   |.move x=>dh s.env x
   |.fieldAddr t x f=>match bW T s.aG o.dst (.fieldAddr t x f) (dh s.env) .none with
    |some res=>some res.val
    |none=>none
   |_=>none
  else none
theorem DJ{t:TypeId}{x:Operand}{f:Nat}{dst:Option Nat}{res:oq}{β:Nat→Option Nat}{I:Nat→Prop}(hT:n8 P T)(hr:df Γ s a w β I)(ar:bW T s.aG dst (.fieldAddr t x f) (dh s.env) .none=some res) :
  ∃v,(∀w',(Instr.fieldAt t (a.eval x) f).run P w' = .ok v w')∧RE β (bB s.aG) I w res.val v:=by
 simp only[bW] at ar;split at ar
 ·rename_i d e hd hx;split at ar
  ·rename_i fs hk;split at ar
   ·rename_i off size agg hf;obtain⟨ff,fl,hu,Hr,N3,lT,_,wL,_⟩:=rW (hT t d hd) hk hf;cases hs:Nat.ble 1 size with
    |false=>simp[hs] at ar
    |true =>
     simp only[hs,cond_true] at ar;have NY:1≤size:=afS hs;have exec:∀b o,a.eval x = .pointer (some ⟨b,o,none⟩)→∀w',(Instr.fieldAt t (a.eval x) f).run P w' = .ok (.pointer (some ⟨b,o+off,none⟩)) w':=by
      intro b o hv w';obtain⟨i,hi⟩:=agk.1 wL;have wV:(sizeOf fl.type).run P w' = .ok (P.cellsOf fl.type) w':=by simp[sizeOf,typeInfo,hi,Program.cellsOf]
      rw[hv];unfold Instr.fieldAt;simp only[Sem.run_bind,run_underlying hu,Result.andThen_ok,Hr,Instr.sureAddr,Sem.run_pure,fieldPlace,wV];rw[ag7 (by omega)];simp only[Sem.run_pure,Result.andThen_ok,gD,N3]
     split at ar
     ·rename_i r o;rw[cz ar];obtain⟨hL,b,hb,hv⟩:=hr.G7 x _ hx;exact⟨_,exec _ _ hv,hL,b,hb,rfl⟩
     ·rename_i cs;rw[cz ar];obtain⟨b,o,hv,hb,hc⟩:=hr.G7 x _ hx;refine⟨_,exec _ _ hv,b,o+off,rfl,hb,fun j y hy => ?_⟩;rw[agS] at hy;have:=hc _ y hy;rw[ajf];exact this
     ·rename_i r o;rw[cz ar];obtain⟨hL,b,hb,hv⟩:=hr.G7 x _ hx;exact⟨_,exec _ _ hv,hL,b,hb,rfl⟩
     ·cases ar
   ·cases ar
  ·cases ar
 ·cases ar
theorem HU(hT:n8 P T){o:Oper}{e:EV}(hr:Rel Γ s a w)(h:Fx T Γ.n o s=some e):∃v,Yields P ops o v a∧Rel Γ ⟨oY s.env o.dst e,s.aG⟩ (a.put o.dst v) w:=by
 obtain⟨β,I,hr⟩:=hr;unfold Fx at h;split at h
 ·cases h
 ·rename_i hg;cases hd:lK Γ.n o.dst with
  |false=>simp[hd] at h
  |true =>
   simp only[hd,cond_true] at h;have hw:Region.wanted o (yielded ops a.tmps)=true:=by simp[Region.wanted,hg]
   split at h
   ·rename_i x uV;refine⟨a.eval x,.inl ⟨hw,fun w' => ?_⟩,β,I,hr.put (fc hd) (hr.G7 x e h)⟩;unfold execOp;rw[uV];rfl
   ·rename_i t x f uV;split at h
    ·rename_i res oZ;injection h with h;subst h
     obtain⟨v,h1,h2⟩:=DJ hT hr oZ;refine⟨v,.inl ⟨hw,fun w' => ?_⟩,β,I,hr.put (fc hd) h2⟩;unfold execOp;rw[uV];simp[h1 w']
    ·cases h
   ·cases h
def yD(T:kL)(n:Nat)(ops:Array Oper):List Nat→Array Bool→St→Option St
 |[],_,s=>some s
 |i::r,listed,s=>match ops[i]? with
  |some o=>bif Region.free .any ops listed i&&(Region.ready .any ops listed).contains i then
    match Fx T n o s with
    |some e=>yD T n ops r (listed.setIfInBounds i true) ⟨oY s.env o.dst e,s.aG⟩
    |none=>none
   else none
  |none=>none
def AD(P:Program)(T:kL)(n:Nat)(ops:Array Oper):List Nat→List Hint→St→Option (List HR×St)
 |[],_,s=>some ([],s)
 |i::r,hs,s=>match ops[i]? with
  |some o=>match Fu P T n ops o (hs.headD .none) s with
   |some res=>match AD P T n ops r hs.tail (hAdd s o.dst res) with
    |some (rs,s')=>some ((i,o,res)::rs,s')
    |none=>none
   |none=>none
  |none=>none
theorem xh{n:Nat} : ∀(hd:List Nat) (hs:List Hint) (s:St) (rs:List HR) (s':St),AD P T n ops hd hs s=some (rs,s')→rs.map (·.1)=hd∧DI P T n ops rs hs s∧s'=app [] rs s
 |[],hs,s,rs,s',h=>by
  injection h with h;injection h with h1 h2
  subst h1;subst h2;exact⟨rfl,trivial,rfl⟩
 |i::r,hs,s,rs,s',h=>by
  unfold AD at h;split at h
  ·rename_i o ho;split at h
   ·rename_i res oZ;split at h
    ·rename_i rs' YG Z0;injection h with h;injection h with h1 h2
     subst h1;subst h2;obtain⟨g1,g2,g3⟩:=xh r hs.tail _ rs' YG Z0;exact⟨by simp[g1],⟨ho,oZ,g2⟩,by rw[r8];exact g3⟩
    ·cases h
   ·cases h
  ·cases h
def obsOf:List HR→List Prop
 |[]=>[]
 |(_,_,res)::rs=>res.ob++obsOf rs
theorem BM:∀{rs:List HR},dK (obsOf rs)→∀x∈rs,dK x.2.2.ob
 |[],_,x,hx=>by cases hx
 |(i,o,res)::rs,h,x,hx=>by
  obtain⟨h1,h2⟩:=dK.app h;rcases agp.1 hx with hx|hx
  ·subst hx;exact h1
  ·exact BM h2 x hx
def Fy(P:Program)(T:kL)(n:Nat)(ops:Array Oper)(fl hd tl:List Nat)(hs:List Hint)(s:St):Option (St×List Prop) :=
 bif JM ops fl hd tl then
  match yD T n ops fl (Array.replicate ops.size false) s with
  |some s0=>match AD P T n ops hd hs s0 with
   |some (rs,s1)=>bif vQ (o6 ops) rs then (match BJ P T n ops tl (hs.drop hd.length) s1 with
    |some (s2,ob)=>some (s2,obsOf rs++ob)
    |none=>none) else none
   |none=>none
  |none=>none
 else none
theorem JO{l:List Nat}{n:Nat}(hn:l.Nodup)(hl:l.length=n)(hs:∀i∈l,i<n)(i:Nat)(hi:i<n):i∈l:=by
 refine afV fun hc => ?_
 have h1:(i::l).Nodup:=aio.2 ⟨hc,hn⟩;have h2:=ahx (l₁:=i::l) (l₂:=List.range n) h1 (fun j hj=>by
  rw[aiw];rcases agp.1 hj with rfl|hj
  ·exact hi
  ·exact hs j hj)
 simp at h2;omega
theorem BN:∀(l m seen:List Nat),fwd ops seen (l++m)=true→fwd ops seen l=true
 |[],_,_,_=>rfl
 |i::l,m,seen,h=>by simp only[List.cons_append,fwd,Bool.and_eq_true] at h ⊢;exact⟨h.1,BN l m _ h.2⟩
theorem vR(hT:n8 P T)(W1:Region.noSelect ops=true)(hQ:∀c a w d v,Q (.panic c) (Act.put a d v) w→Q (.panic c) a w){s0:St}{rest:Nat}(U:List Nat)
  (D5:∀(listed:Array Bool) (a:Act) (w:World),OB ops listed U→Rel Γ s0 a w→wpAny P .any ops Q rest listed a w) :
  ∀(fl:List Nat) (V:List Nat) (listed:Array Bool) (s:St) (a:Act) (w:World),(∀j,j∈V↔j∈U∨j∈fl)→(∀i∈fl,i ∉ U)→fl.Nodup→(∀i∈fl,i<ops.size)→OB ops listed V→Rel Γ s a w →
   yD T Γ.n ops fl listed s=some s0→wpAny P .any ops Q (fl.length+rest) listed a w
 |[],V,listed,s,a,w,hV,_,_,_,hl,hr,h=>by
  injection h with h;subst h
  simp only[List.length_nil,Nat.zero_add];exact D5 listed a w ⟨hl.1,fun j hj=>by rw[hl.2 j hj,hV];simp⟩ hr
 |i::fl,V,listed,s,a,w,hV,hd,hn,lT,hl,hr,h=>by
  unfold yD at h;split at h
  ·rename_i o ho;cases hb:(Region.free .any ops listed i&&(Region.ready .any ops listed).contains i) with
   |false=>rw[hb] at h;cases h
   |true =>
    rw[hb] at h;simp only[cond_true] at h;simp only[Bool.and_eq_true] at hb;split at h
    ·rename_i e he;obtain⟨v,hy,dI⟩:=HU (ops:=ops) hT hr he;obtain⟨WU,Ej⟩:=aio.1 hn;have bH:=lT i (by simp);have ih:=vR hT W1 hQ U D5 fl (HO V i) (listed.setIfInBounds i true) _ (a.put o.dst v) w (fun j=>by
      rw[oA,hV];constructor
      ·rintro ⟨h1,h2⟩
       rcases h1 with h1|h1
       ·exact .inl h1
       ·rcases agp.1 h1 with h1|h1
        ·exact absurd h1 h2
        ·exact .inr h1
      ·rintro (h1|h1)
       ·exact⟨.inl h1,fun e=>hd i (by simp) (e ▸ h1)⟩
       ·exact⟨.inr (by simp[h1]),fun e=>WU (e ▸ h1)⟩) (fun j hj=>hd j (by simp[hj])) Ej (fun j hj=>lT j (by simp[hj])) (hl.set bH) dI h
     rw[show (i::fl).length+rest=(fl.length+rest)+1 from by simp;omega];exact wpAny_take ho W1 hb.1 hb.2 (fun c a w hq=>hQ c a w _ _ hq) hy ih
    ·cases h
  ·cases h
theorem K5(U:List Nat):∀(rs:List HR) (s:St),(∀x∈rs,x.1∈U)→app U rs s=s
 |[],_,_=>rfl
 |(i,o,res)::rs,s,h=>by show app U rs (if i∈U then s else hAdd s o.dst res)=s;rw[ag9 (h (i,o,res) (by simp))];exact K5 U rs s (fun x hx=>h x (by simp[hx]))
theorem JP(hm:P.follows .mixedOrders=true)(hT:n8 P T)(hs:∀r,bB Γ.sin r→Γ.n≤r)(hQ:∀c a w d v,Q (.panic c) (Act.put a d v) w→Q (.panic c) a w){id:Nat}{fl hd tl:List Nat}{hints:List Hint}{ob:List Prop}(hr:Rel Γ s a w)
  (aK:Fy P T Γ.n ops fl hd tl hints s=some (s',ob)) (bT:dK ob) (hk:∀a' w',Rel Γ s' a' w'→Q .normal a' w'):(Code.region id ops true).wp P Q a w:=by
 refine wp_region_any hm ?_;unfold Fy at aK;cases s9:JM ops fl hd tl with
 |false=>simp[s9] at aK
 |true =>
  simp only[s9,cond_true] at aK;split at aK
  ·rename_i s0 Hr;split at aK
   ·rename_i rs s1 hhr;cases OF:vQ (o6 ops) rs with
    |false=>simp[OF] at aK
    |true =>
    simp only[OF,cond_true] at aK;split at aK
    ·rename_i s2 ob2 x7;injection aK with aK;injection aK with e1 e2
     subst e1;subst e2;obtain⟨g1,g2⟩:=bT.app;unfold JM at s9;simp only[Bool.and_eq_true,List.all_eq_true] at s9;obtain⟨⟨⟨⟨⟨⟨⟨c1,c2'⟩,c3⟩,c4⟩,c5⟩,c6⟩,c7⟩,c8⟩:=s9;have hlen:(fl++(hd++tl)).length=ops.size:=ag0 c1;have bH:∀i∈fl++(hd++tl),i<ops.size:=fun i hi=>afS (c2' i hi)
     have Ay:=tG c3;have Uk:=JO Ay hlen bH;have Ei:∀i,i<ops.size→∀e∈jm ops i,e<ops.size:=fun i hi e he=>by
      rcases vO ops _ _ c4 i (Uk i hi) e he with h|h
      ·cases h
      ·exact bH e h
     obtain⟨q1,q2,q3⟩:=xh hd hints s0 rs s1 hhr;rw[q3] at x7;have OG:(hd++tl).Nodup:=(ahL.1 Ay).2.1;have OJ:∀i∈fl,i ∉ hd++tl:=fun i hi h=>(ahL.1 Ay).2.2 i hi i h rfl
     have dI:Rel Γ s a w.drew:=by obtain⟨β,I,hr⟩:=hr;exact⟨β,I,hr.grow ((Ds.refl _ _).drew) (fun b h=>h) (fun b h => .inl h)⟩
     have key:=vR (Q:=Q) (s0:=s0) (rest:=(hd++tl).length) hT c8 hQ (hd++tl) (fun listed a w hl kC =>
      OE hT hs Ei (rs:=rs) q1 q2 c6 c5 c7 OF OG (fun i hi=>bH i (by simp at hi ⊢;rcases hi with h|h<;>simp[h])) (fun r Rp et=>by
        obtain⟨i,hi⟩:=List.exists_mem_of_ne_nil r et;obtain⟨j,_,HC,Z1⟩:=yB ops r _ [] c4 (fun e he=>by cases he) ⟨i,by have:=Rp i hi;simp at this ⊢;rcases this with h|h<;>simp[h],hi⟩;exact⟨j,HC,Z1⟩) (BM g1) x7 g2 hk (hd++tl).length (hd++tl) listed a w rfl OG (fun i hi=>hi) (fun i hi=>by simp[hi]) hl (fun i hi NG e he ZZ=>by
        have hif:i∈fl:=by
         have:=Uk i hi;rcases ah6.1 this with h|h
         ·exact h
         ·exact absurd h NG
        rcases vO ops fl [] (BN fl _ [] c4) i hif e he with h|h
        ·cases h
        ·exact OJ e h ZZ) (by rw[K5 (hd++tl) rs s0 (fun x hx=>aiO _ (by rw[←q1];exact agI.2 ⟨x,hx,rfl⟩))];exact kC))
      fl (fl++(hd++tl)) (Array.replicate ops.size false) s a w.drew (fun j=>by rw[ah6];exact Or.comm) OJ (ahL.1 Ay).1 (fun i hi=>bH i (by simp[hi]))
      ⟨by simp,fun j hj=>by
       constructor
       ·intro h;have hf:(Array.replicate ops.size false).getD j false=false:=by simp[Array.getD_eq_getD_getElem?,hj]
        rw[hf] at h;cases h
       ·intro h;exact absurd (Uk j hj) h⟩ dI Hr
     rw[show fl.length+(hd++tl).length=ops.size from by rw[←hlen];simp] at key;exact key
    ·cases aK
   ·cases aK
  ·cases aK
end
end Go.Proofs.YtcpnocgollpbhaaGreatDoor.Sym
