/- Lemmas for the statements of this seat. -/
import Derived.Test.YtfjfekodeplcoaaGreatWSymMc
namespace Go.Proofs.YtfjfekodeplcoaaGreat.Sym
open Go Go.RowKit
section
variable {P:Program} {T:jZ} {Γ:Ctx} {s s':St} {a:Act} {w:World} {β:Nat→Option Nat} {I:Nat→Prop} {o:Oper} {h:Hint} {ob:List Prop}
def EZ(P:Program)(T:jZ)(n:Nat)(o:Oper)(h:Hint)(s:St):Option (St×List Prop) :=
 match o.op with
 |.store _ _ _=>pK T o h s
 |.call c=>match c.callee with
  |.value _=>match h with
   |.bz _ _ _ _=>pO P n o h s
   |.vO _ _ _=>vf P n o h s
   |_=>rr P n o h s
  |.builtin .append=>xR T n o h s
  |.builtin .copy=>xM T n o h s
  |_=>wW T n o h s
 |_=>wW T n o h s
theorem vT(hT:mN P T)(hs:∀r,bk Γ.sin r→Γ.n≤r)(hr:Rel Γ s a w)(aP:EZ P T Γ.n o h s=some (s',ob))(cd:dw ob){K:Act→World→Prop}{Q:Exit→Act→World→Prop}
  (hk:∀a' w',Rel Γ s' a' w'→K a' w'):o.wp P a w K Q:=by
 unfold EZ at aP
 split at aP
 ·exact qU hT hr aP cd hk
 ·split at aP
  ·split at aP
   ·exact qV hs hr aP cd hk
   ·exact wK hs hr aP cd hk
   ·exact ru hr aP cd hk
  ·exact xS hT hs hr aP cd hk
  ·exact xN hT hr aP cd hk
  ·exact sO hT hs hr aP cd hk
 ·exact sO hT hs hr aP cd hk
def stepG(P:Program)(T:jZ)(n:Nat)(ops:Array Oper)(o:Oper)(h:Hint)(s:St):Option (St×List Prop) :=
 match o.guard with
 |none=>EZ P T n o h s
 |some (j,want)=>match (ops[j]?).bind (·.dst) with
  |some t=>match s.env.get t with
   |some (.pv (.bool b))=>match h with
    |.skip=>bif jH n o.dst then some (⟨nj s.env o.dst (.pv (.bh [])),s.sto⟩,[b = !want]) else none
    |h=>match EZ P T n o h s with
     |some (s',ob)=>some (s',(b=want)::ob)
     |none=>none
   |some (.pv (.bh _))=>match h with
    |.skip=>bif jH n o.dst then some (⟨nj s.env o.dst (.pv (.bh [])),s.sto⟩,[]) else none
    |_=>none
   |_=>none
  |none=>none
theorem um(I:Nat→Prop)(w:World):Rd I w (.bh []) undef := .bh [] #[] rfl (fun j c u h=>by simp at h)
theorem xX{ops:Array Oper}{j t:Nat}{vs:List PV}{I:Nat→Prop}(ht:(ops[j]?).bind (·.dst)=some t)(hv:Rd I w (.bh vs) (a.tmps.getD t undef)){o:Oper}{want:Bool}(hg:o.guard=some (j,want)):Region.wanted o (yielded ops a.tmps)=false:=by
 have hy:yielded ops a.tmps j=none:=by
  unfold yielded
  rw[ht]
  simp only[Option.bind_some]
  rw[Array.getD_eq_getD_getElem?] at hv
  cases hx:a.tmps[t]? with
  |none=>rfl
  |some v =>
   rw[hx] at hv
   simp only[Option.getD_some] at hv
   cases hv;rfl
 simp[Region.wanted,hg,hy]
theorem rA(hT:mN P T)(hs:∀r,bk Γ.sin r→Γ.n≤r){ops:Array Oper}(hr:Rel Γ s a w)(aP:stepG P T Γ.n ops o h s=some (s',ob))(cd:dw ob){K:Act→World→Prop}{Q:Exit→Act→World→Prop}
  (hk:∀a' w',Rel Γ s' a' w'→K a' w'):if Region.wanted o (yielded ops a.tmps) then o.wp P a w K Q∨(o.asks P a w∧LetsOut Q) else K (a.put o.dst undef) w:=by
 unfold stepG at aP
 split at aP
 ·rename_i hg
  have:Region.wanted o (yielded ops a.tmps)=true:=by simp[Region.wanted,hg]
  rw[if_pos this]
  exact .inl (vT hT hs hr aP cd hk)
 ·rename_i j want hg
  split at aP
  ·rename_i t ht
   split at aP
   ·rename_i b hb
    have hy:yielded ops a.tmps j=some b:=by
     obtain⟨β,I,dx⟩:=hr
     have hv:Rd I w (.bool b) (a.tmps.getD t undef):=dx.env t _ hb
     have zn:a.tmps.getD t undef = .bool b:=by generalize a.tmps.getD t undef=v at hv;cases hv;rfl
     unfold yielded
     rw[ht]
     simp only[Option.bind_some]
     rw[Array.getD_eq_getD_getElem?] at zn
     cases hx:a.tmps[t]? with
     |none=>rw[hx] at zn;simp[undef] at zn
     |some v=>rw[hx] at zn;simp at zn;subst zn;rfl
    have hw:Region.wanted o (yielded ops a.tmps)=(b==want):=by
     simp only[Region.wanted,hg,hy]
     cases b<;>cases want<;>rfl
    split at aP
    ·cases hd:jH Γ.n o.dst with
     |false=>simp[hd] at aP
     |true =>
      simp only[hd,cond_true] at aP
      injection aP with aP;injection aP with h1 h2
      subst h1;subst h2
      have Ql:b = !want:=cd
      rw[if_neg (by rw[hw,Ql];cases want<;>simp)]
      obtain⟨β,I,dx⟩:=hr
      exact hk _ _ ⟨β,I,dx.put (eb hd) (um _ _)⟩
    ·split at aP
     ·rename_i Pp Pf JI
      injection aP with aP;injection aP with h1 h2
      subst h1;subst h2
      obtain⟨g1,g2⟩:=cd.cons
      rw[if_pos (by rw[hw,g1];simp)]
      exact .inl (vT hT hs hr JI g2 hk)
     ·cases aP
   ·rename_i vs hb
    split at aP
    ·cases hd:jH Γ.n o.dst with
     |false=>simp[hd] at aP
     |true =>
      simp only[hd,cond_true] at aP
      injection aP with aP;injection aP with h1 h2
      subst h1;subst h2
      obtain⟨β,I,dx⟩:=hr
      rw[if_neg (by rw[xX ht (dx.env t _ hb) hg];simp)]
      exact hk _ _ ⟨β,I,dx.put (eb hd) (um _ _)⟩
    ·cases aP
   ·cases aP
  ·cases aP
def xY(P:Program)(T:jZ)(n:Nat)(ops:Array Oper):List Oper→List Hint→St→Option (St×List Prop)
 |[],_,s=>some (s,[])
 |o::r,hs,s=>match stepG P T n ops o (hs.headD .none) s with
  |some (s1,GK)=>match xY P T n ops r hs.tail s1 with
   |some (s2,ob2)=>some (s2,GK++ob2)
   |none=>none
  |none=>none
theorem uo(hT:mN P T)(hs:∀r,bk Γ.sin r→Γ.n≤r){ops:Array Oper}{Q:Exit→Act→World→Prop} : ∀(l:List Oper) (k:Nat) (hints:List Hint) (s s':St) (ob:List Prop) (a:Act) (w:World),
  (∀j,l[j]? = ops[k+j]?)→Rel Γ s a w→xY P T Γ.n ops l hints s=some (s',ob)→dw ob→(∀a' w',Rel Γ s' a' w'→Q .normal a' w')→wpOps P ops Q (List.range' k l.length) a w
 |[],k,hints,s,s',ob,a,w,_,hr,aP,_,hk=>by
  injection aP with aP;injection aP with h1 h2
  subst h1
  exact hk a w hr
 |o::r,k,hints,s,s',ob,a,w,hl,hr,aP,cd,hk=>by
  unfold xY at aP
  split at aP
  ·rename_i s1 GK h1
   split at aP
   ·rename_i s2 ob2 h2
    injection aP with aP;injection aP with e1 e2
    subst e1;subst e2
    obtain⟨g1,g2⟩:=cd.app
    have mL:ops[k]? = some o:=by have:=hl 0;simpa using this.symm
    rw[show List.range' k (o::r).length=k::List.range' (k+1) r.length from by simp[List.range'_succ]]
    unfold wpOps
    rw[mL]
    exact rA hT hs hr h1 g1 fun a' w' dx=>uo hT hs r (k+1) hints.tail s1 s2 ob2 a' w' (fun j=>by
     have:=hl (j+1)
     simp only[List.getElem?_cons_succ] at this
     rw[this];congr 1;omega) dx h2 g2 hk
   ·cases aP
  ·cases aP
theorem D5(hT:mN P T)(hs:∀r,bk Γ.sin r→Γ.n≤r){id:Nat}{ops:Array Oper}{hints:List Hint}{Q:Exit→Act→World→Prop}(hr:Rel Γ s a w)
  (aP:xY P T Γ.n ops ops.toList hints s=some (s',ob)) (cd:dw ob) (hk:∀a' w',Rel Γ s' a' w'→Q .normal a' w'):(Code.region id ops false).wp P Q a w:=by
 refine wp_region ?_
 have:=uo hT hs ops.toList 0 hints s s' ob a w (fun j=>by simp) hr aP cd hk
 simpa[List.range_eq_range'] using this
end
end Go.Proofs.YtfjfekodeplcoaaGreat.Sym
