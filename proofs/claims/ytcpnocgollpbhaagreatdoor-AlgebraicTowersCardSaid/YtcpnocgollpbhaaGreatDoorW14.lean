/- Lemmas for the statements of this seat. -/
import Derived.Test.YtcpnocgollpbhaaGreatDoorW13
namespace Go.Proofs.YtcpnocgollpbhaaGreatDoor.Sym
open Go Go.RowKit
section
variable {P:Program} {T:lh} {Γ:Ctx} {s s':St} {a:Act} {w:World} {β:Nat→Option Nat} {I:Nat→Prop} {o:Oper} {h:Hint} {ob:List Prop}
def LF(P:Program)(T:lh)(n:Nat)(o:Oper)(h:Hint)(s:St):Option (St×List Prop) :=
 match o.op with
 |.store _ _ _=>r9 T o h s
 |.call c=>match c.callee with
  |.value _=>match h with
   |.bJ _ _ _ _=>sf P n o h s
   |_=>um P n o h s
  |.builtin .append=>CK T n o h s
  |.builtin .copy=>CF T n o h s
  |_=>BK T n o h s
 |_=>BK T n o h s
theorem AL(hT:oE P T)(hs:∀r,bK Γ.sin r→Γ.n≤r)(hr:Rel Γ s a w)(aO:LF P T Γ.n o h s=some (s',ob))(cv:dX ob){K:Act→World→Prop}{Q:Exit→Act→World→Prop}
  (hk:∀a' w',Rel Γ s' a' w'→K a' w'):o.wp P a w K Q:=by
 unfold LF at aO;split at aO
 ·exact tJ hT hr aO cv hk
 ·split at aO
  ·split at aO
   ·exact tK hs hr aO cv hk
   ·exact uo hr aO cv hk
  ·exact CL hT hs hr aO cv hk
  ·exact CG hT hr aO cv hk
  ·exact wj hT hs hr aO cv hk
 ·exact wj hT hs hr aO cv hk
def stepG(P:Program)(T:lh)(n:Nat)(ops:Array Oper)(o:Oper)(h:Hint)(s:St):Option (St×List Prop) :=
 match o.guard with
 |none=>LF P T n o h s
 |some (j,want)=>match (ops[j]?).bind (·.dst) with
  |some t=>match s.env.get t with
   |some (.pv (.bool b))=>match h with
    |.skip=>bif l7 n o.dst then some (⟨pF s.env o.dst (.pv (.aF [])),s.aK⟩,[b = !want]) else none
    |h=>match LF P T n o h s with
     |some (s',ob)=>some (s',(b=want)::ob)
     |none=>none
   |some (.pv (.aF _))=>match h with
    |.skip=>bif l7 n o.dst then some (⟨pF s.env o.dst (.pv (.aF [])),s.aK⟩,[]) else none
    |_=>none
   |_=>none
  |none=>none
theorem ya(I:Nat→Prop)(w:World):Rd I w (.aF []) undef := .aF [] #[] rfl (fun j c u h=>by simp at h)
theorem CO{ops:Array Oper}{j t:Nat}{vs:List PV}{I:Nat→Prop}(ht:(ops[j]?).bind (·.dst)=some t)(hv:Rd I w (.aF vs) (a.tmps.getD t undef)){o:Oper}{want:Bool}(hg:o.guard=some (j,want)):Region.wanted o (yielded ops a.tmps)=false:=by
 have hy:yielded ops a.tmps j=none:=by
  unfold yielded;rw[ht];simp only[Option.bind_some];rw[agc] at hv;cases hx:a.tmps[t]? with
  |none=>rfl
  |some v =>rw[hx] at hv;simp only[Option.getD_some] at hv;cases hv;rfl
 simp[Region.wanted,hg,hy]
theorem uu(hT:oE P T)(hs:∀r,bK Γ.sin r→Γ.n≤r){ops:Array Oper}(hr:Rel Γ s a w)(aO:stepG P T Γ.n ops o h s=some (s',ob))(cv:dX ob){K:Act→World→Prop}{Q:Exit→Act→World→Prop}
  (hk:∀a' w',Rel Γ s' a' w'→K a' w'):if Region.wanted o (yielded ops a.tmps) then o.wp P a w K Q∨(o.asks P a w∧LetsOut Q) else K (a.put o.dst undef) w:=by
 unfold stepG at aO;split at aO
 ·rename_i hg;have:Region.wanted o (yielded ops a.tmps)=true:=by simp[Region.wanted,hg]
  rw[afI this];exact .inl (AL hT hs hr aO cv hk)
 ·rename_i j want hg;split at aO
  ·rename_i t ht;split at aO
   ·rename_i b hb;have hy:yielded ops a.tmps j=some b:=by
     obtain⟨β,I,dS⟩:=hr;have hv:Rd I w (.bool b) (a.tmps.getD t undef):=dS.env t _ hb;have HJ:a.tmps.getD t undef = .bool b:=by generalize a.tmps.getD t undef=v at hv;cases hv;rfl
     unfold yielded;rw[ht];simp only[Option.bind_some];rw[agc] at HJ;cases hx:a.tmps[t]? with
     |none=>rw[hx] at HJ;simp[undef] at HJ
     |some v=>rw[hx] at HJ;simp at HJ;subst HJ;rfl
    have hw:Region.wanted o (yielded ops a.tmps)=(b==want):=by simp only[Region.wanted,hg,hy];cases b<;>cases want<;>rfl
    split at aO
    ·cases hd:l7 Γ.n o.dst with
     |false=>simp[hd] at aO
     |true =>
      simp only[hd,cond_true] at aO;injection aO with aO;injection aO with h1 h2
      subst h1;subst h2;have ZH:b = !want:=cv;rw[afG (by rw[hw,ZH];cases want<;>simp)];obtain⟨β,I,dS⟩:=hr;exact hk _ _ ⟨β,I,dS.put (fo hd) (ya _ _)⟩
    ·split at aO
     ·rename_i YN YH RL;injection aO with aO;injection aO with h1 h2
      subst h1;subst h2;obtain⟨g1,g2⟩:=cv.cons;rw[afI (by rw[hw,g1];simp)];exact .inl (AL hT hs hr RL g2 hk)
     ·cases aO
   ·rename_i vs hb;split at aO
    ·cases hd:l7 Γ.n o.dst with
     |false=>simp[hd] at aO
     |true =>
      simp only[hd,cond_true] at aO;injection aO with aO;injection aO with h1 h2
      subst h1;subst h2;obtain⟨β,I,dS⟩:=hr;rw[afG (by rw[CO ht (dS.env t _ hb) hg];simp)];exact hk _ _ ⟨β,I,dS.put (fo hd) (ya _ _)⟩
    ·cases aO
   ·cases aO
  ·cases aO
def CP(P:Program)(T:lh)(n:Nat)(ops:Array Oper):List Oper→List Hint→St→Option (St×List Prop)
 |[],_,s=>some (s,[])
 |o::r,hs,s=>match stepG P T n ops o (hs.headD .none) s with
  |some (s1,Od)=>match CP P T n ops r hs.tail s1 with
   |some (s2,ob2)=>some (s2,Od++ob2)
   |none=>none
  |none=>none
theorem yb(hT:oE P T)(hs:∀r,bK Γ.sin r→Γ.n≤r){ops:Array Oper}{Q:Exit→Act→World→Prop} : ∀(l:List Oper) (k:Nat) (hints:List Hint) (s s':St) (ob:List Prop) (a:Act) (w:World),
  (∀j,l[j]? = ops[k+j]?)→Rel Γ s a w→CP P T Γ.n ops l hints s=some (s',ob)→dX ob→(∀a' w',Rel Γ s' a' w'→Q .normal a' w')→wpOps P ops Q (List.range' k l.length) a w
 |[],k,hints,s,s',ob,a,w,_,hr,aO,_,hk=>by
  injection aO with aO;injection aO with h1 h2
  subst h1;exact hk a w hr
 |o::r,k,hints,s,s',ob,a,w,hl,hr,aO,cv,hk=>by
  unfold CP at aO;split at aO
  ·rename_i s1 Od h1;split at aO
   ·rename_i s2 ob2 h2;injection aO with aO;injection aO with e1 e2
    subst e1;subst e2;obtain⟨g1,g2⟩:=cv.app;have pI:ops[k]? = some o:=by have:=hl 0;simpa using this.symm
    rw[show List.range' k (o::r).length=k::List.range' (k+1) r.length from by simp[List.range'_succ]];unfold wpOps;rw[pI];exact uu hT hs hr h1 g1 fun a' w' dS=>yb hT hs r (k+1) hints.tail s1 s2 ob2 a' w' (fun j=>by have:=hl (j+1);simp only[List.getElem?_cons_succ] at this;rw[this];congr 1;omega) dS h2 g2 hk
   ·cases aO
  ·cases aO
theorem Ko(hT:oE P T)(hs:∀r,bK Γ.sin r→Γ.n≤r){id:Nat}{ops:Array Oper}{hints:List Hint}{Q:Exit→Act→World→Prop}(hr:Rel Γ s a w)
  (aO:CP P T Γ.n ops ops.toList hints s=some (s',ob)) (cv:dX ob) (hk:∀a' w',Rel Γ s' a' w'→Q .normal a' w'):(Code.region id ops false).wp P Q a w:=by
 refine wp_region ?_;have:=yb hT hs ops.toList 0 hints s s' ob a w (fun j=>by simp) hr aO cv hk;simpa[List.range_eq_range'] using this
end
end Go.Proofs.YtcpnocgollpbhaaGreatDoor.Sym
