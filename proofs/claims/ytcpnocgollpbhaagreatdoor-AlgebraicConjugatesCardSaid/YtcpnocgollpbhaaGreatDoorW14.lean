/- Lemmas for the statements of this seat. -/
import Derived.Test.YtcpnocgollpbhaaGreatDoorW13
namespace Go.Proofs.YtcpnocgollpbhaaGreatDoor.Sym
open Go Go.RowKit
section
variable {P:Program} {T:kL} {Γ:Ctx} {s s':St} {a:Act} {w:World} {β:Nat→Option Nat} {I:Nat→Prop} {o:Oper} {h:Hint} {ob:List Prop}
def KV(P:Program)(T:kL)(n:Nat)(o:Oper)(h:Hint)(s:St):Option (St×List Prop) :=
 match o.op with
 |.store _ _ _=>q9 T o h s
 |.call c=>match c.callee with
  |.value _=>match h with
   |.bG _ _ _ _=>rb P n o h s
   |_=>tz P n o h s
  |.builtin .append=>Bu T n o h s
  |.builtin .copy=>Bp T n o h s
  |_=>Ax T n o h s
 |_=>Ax T n o h s
theorem zv(hT:n8 P T)(hs:∀r,bB Γ.sin r→Γ.n≤r)(hr:Rel Γ s a w)(aK:KV P T Γ.n o h s=some (s',ob))(bT:dK ob){K:Act→World→Prop}{Q:Exit→Act→World→Prop}
  (hk:∀a' w',Rel Γ s' a' w'→K a' w'):o.wp P a w K Q:=by
 unfold KV at aK;split at aK
 ·exact sR hT hr aK bT hk
 ·split at aK
  ·split at aK
   ·exact sS hs hr aK bT hk
   ·exact tA hr aK bT hk
  ·exact Bv hT hs hr aK bT hk
  ·exact Bq hT hr aK bT hk
  ·exact vg hT hs hr aK bT hk
 ·exact vg hT hs hr aK bT hk
def stepG(P:Program)(T:kL)(n:Nat)(ops:Array Oper)(o:Oper)(h:Hint)(s:St):Option (St×List Prop) :=
 match o.guard with
 |none=>KV P T n o h s
 |some (j,want)=>match (ops[j]?).bind (·.dst) with
  |some t=>match s.env.get t with
   |some (.pv (.bool b))=>match h with
    |.skip=>bif lK n o.dst then some (⟨oY s.env o.dst (.pv (.aF [])),s.aG⟩,[b = !want]) else none
    |h=>match KV P T n o h s with
     |some (s',ob)=>some (s',(b=want)::ob)
     |none=>none
   |some (.pv (.aF _))=>match h with
    |.skip=>bif lK n o.dst then some (⟨oY s.env o.dst (.pv (.aF [])),s.aG⟩,[]) else none
    |_=>none
   |_=>none
  |none=>none
theorem xc(I:Nat→Prop)(w:World):Rd I w (.aF []) undef := .aF [] #[] rfl (fun j c u h=>by simp at h)
theorem By{ops:Array Oper}{j t:Nat}{vs:List PV}{I:Nat→Prop}(ht:(ops[j]?).bind (·.dst)=some t)(hv:Rd I w (.aF vs) (a.tmps.getD t undef)){o:Oper}{want:Bool}(hg:o.guard=some (j,want)):Region.wanted o (yielded ops a.tmps)=false:=by
 have hy:yielded ops a.tmps j=none:=by
  unfold yielded;rw[ht];simp only[Option.bind_some];rw[agE] at hv;cases hx:a.tmps[t]? with
  |none=>rfl
  |some v =>rw[hx] at hv;simp only[Option.getD_some] at hv;cases hv;rfl
 simp[Region.wanted,hg,hy]
theorem tC(hT:n8 P T)(hs:∀r,bB Γ.sin r→Γ.n≤r){ops:Array Oper}(hr:Rel Γ s a w)(aK:stepG P T Γ.n ops o h s=some (s',ob))(bT:dK ob){K:Act→World→Prop}{Q:Exit→Act→World→Prop}
  (hk:∀a' w',Rel Γ s' a' w'→K a' w'):if Region.wanted o (yielded ops a.tmps) then o.wp P a w K Q∨(o.asks P a w∧LetsOut Q) else K (a.put o.dst undef) w:=by
 unfold stepG at aK;split at aK
 ·rename_i hg;have:Region.wanted o (yielded ops a.tmps)=true:=by simp[Region.wanted,hg]
  rw[ag9 this];exact .inl (zv hT hs hr aK bT hk)
 ·rename_i j want hg;split at aK
  ·rename_i t ht;split at aK
   ·rename_i b hb;have hy:yielded ops a.tmps j=some b:=by
     obtain⟨β,I,dI⟩:=hr;have hv:Rd I w (.bool b) (a.tmps.getD t undef):=dI.env t _ hb;have G8:a.tmps.getD t undef = .bool b:=by generalize a.tmps.getD t undef=v at hv;cases hv;rfl
     unfold yielded;rw[ht];simp only[Option.bind_some];rw[agE] at G8;cases hx:a.tmps[t]? with
     |none=>rw[hx] at G8;simp[undef] at G8
     |some v=>rw[hx] at G8;simp at G8;subst G8;rfl
    have hw:Region.wanted o (yielded ops a.tmps)=(b==want):=by simp only[Region.wanted,hg,hy];cases b<;>cases want<;>rfl
    split at aK
    ·cases hd:lK Γ.n o.dst with
     |false=>simp[hd] at aK
     |true =>
      simp only[hd,cond_true] at aK;injection aK with aK;injection aK with h1 h2
      subst h1;subst h2;have ZF:b = !want:=bT;rw[ag7 (by rw[hw,ZF];cases want<;>simp)];obtain⟨β,I,dI⟩:=hr;exact hk _ _ ⟨β,I,dI.put (fc hd) (xc _ _)⟩
    ·split at aK
     ·rename_i YG YA Q9;injection aK with aK;injection aK with h1 h2
      subst h1;subst h2;obtain⟨g1,g2⟩:=bT.cons;rw[ag9 (by rw[hw,g1];simp)];exact .inl (zv hT hs hr Q9 g2 hk)
     ·cases aK
   ·rename_i vs hb;split at aK
    ·cases hd:lK Γ.n o.dst with
     |false=>simp[hd] at aK
     |true =>
      simp only[hd,cond_true] at aK;injection aK with aK;injection aK with h1 h2
      subst h1;subst h2;obtain⟨β,I,dI⟩:=hr;rw[ag7 (by rw[By ht (dI.env t _ hb) hg];simp)];exact hk _ _ ⟨β,I,dI.put (fc hd) (xc _ _)⟩
    ·cases aK
   ·cases aK
  ·cases aK
def Bz(P:Program)(T:kL)(n:Nat)(ops:Array Oper):List Oper→List Hint→St→Option (St×List Prop)
 |[],_,s=>some (s,[])
 |o::r,hs,s=>match stepG P T n ops o (hs.headD .none) s with
  |some (s1,ND)=>match Bz P T n ops r hs.tail s1 with
   |some (s2,ob2)=>some (s2,ND++ob2)
   |none=>none
  |none=>none
theorem xd(hT:n8 P T)(hs:∀r,bB Γ.sin r→Γ.n≤r){ops:Array Oper}{Q:Exit→Act→World→Prop} : ∀(l:List Oper) (k:Nat) (hints:List Hint) (s s':St) (ob:List Prop) (a:Act) (w:World),
  (∀j,l[j]? = ops[k+j]?)→Rel Γ s a w→Bz P T Γ.n ops l hints s=some (s',ob)→dK ob→(∀a' w',Rel Γ s' a' w'→Q .normal a' w')→wpOps P ops Q (List.range' k l.length) a w
 |[],k,hints,s,s',ob,a,w,_,hr,aK,_,hk=>by
  injection aK with aK;injection aK with h1 h2
  subst h1;exact hk a w hr
 |o::r,k,hints,s,s',ob,a,w,hl,hr,aK,bT,hk=>by
  unfold Bz at aK;split at aK
  ·rename_i s1 ND h1;split at aK
   ·rename_i s2 ob2 h2;injection aK with aK;injection aK with e1 e2
    subst e1;subst e2;obtain⟨g1,g2⟩:=bT.app;have o5:ops[k]? = some o:=by have:=hl 0;simpa using this.symm
    rw[show List.range' k (o::r).length=k::List.range' (k+1) r.length from by simp[List.range'_succ]];unfold wpOps;rw[o5];exact tC hT hs hr h1 g1 fun a' w' dI=>xd hT hs r (k+1) hints.tail s1 s2 ob2 a' w' (fun j=>by have:=hl (j+1);simp only[List.getElem?_cons_succ] at this;rw[this];congr 1;omega) dI h2 g2 hk
   ·cases aK
  ·cases aK
theorem JF(hT:n8 P T)(hs:∀r,bB Γ.sin r→Γ.n≤r){id:Nat}{ops:Array Oper}{hints:List Hint}{Q:Exit→Act→World→Prop}(hr:Rel Γ s a w)
  (aK:Bz P T Γ.n ops ops.toList hints s=some (s',ob)) (bT:dK ob) (hk:∀a' w',Rel Γ s' a' w'→Q .normal a' w'):(Code.region id ops false).wp P Q a w:=by
 refine wp_region ?_;have:=xd hT hs ops.toList 0 hints s s' ob a w (fun j=>by simp) hr aK bT hk;simpa[List.range_eq_range'] using this
end
end Go.Proofs.YtcpnocgollpbhaaGreatDoor.Sym
