/- Lemmas for the statements of this seat. -/
import Derived.Test.YtneklnlpgfeplaaGreatW13
import Derived.Test.YtneklnlpgfeplaaGreatW15
namespace Go.Proofs.YtneklnlpgfeplaaGreat.Sym
open Go Go.RowKit
section
variable {P:Program} {T:ja} {Γ:Ctx} {s s':St} {a:Act} {w:World} {β:Nat→Option Nat} {I:Nat→Prop} {o:Oper} {h:Hint} {ob:List Prop}
def HZ(P:Program)(T:ja)(n:Nat)(o:Oper)(h:Hint)(s:St):Option (St×List Prop) :=
 match o.op with
 |.store _ _ _=>qB T o h s
 |.call c=>match c.callee with
  |.value _=>match h with
   |.bm _ _ _ _=>mG P n o h s
   |.df _ _ _ _=>xA P n o h s
   |_=>sX P n o h s
  |.builtin .append=>Ag T n o h s
  |.builtin .copy=>Ab T n o h s
  |_=>zj T n o h s
 |_=>zj T n o h s
theorem yb(hT:mm P T)(hs:∀r,bz Γ.sin r→Γ.n≤r)(hr:Rel Γ s a w)(bc:HZ P T Γ.n o h s=some (s',ob))(cf:dW ob){K:Act→World→Prop}{Q:Exit→Act→World→Prop}
  (hk:∀a' w',Rel Γ s' a' w'→K a' w'):o.wp P a w K Q:=by
 unfold HZ at bc;split at bc
 ·exact r7 hT hr bc cf hk
 ·split at bc
  ·split at bc
   ·exact nQ hs hr bc cf hk
   ·exact ze hs hr bc cf hk
   ·exact sY hr bc cf hk
  ·exact Ah hT hs hr bc cf hk
  ·exact Ac hT hr bc cf hk
  ·exact uH hT hs hr bc cf hk
 ·exact uH hT hs hr bc cf hk
def stepG(P:Program)(T:ja)(n:Nat)(ops:Array Oper)(o:Oper)(h:Hint)(s:St):Option (St×List Prop) :=
 match o.guard with
 |none=>HZ P T n o h s
 |some (j,want)=>match (ops[j]?).bind (·.dst) with
  |some t=>match s.env.get t with
   |some (.pv (.bool b))=>match h with
    |.skip=>bif jC n o.dst then some (⟨nN s.env o.dst (.pv (.bg [])),s.aP⟩,[b = !want]) else none
    |h=>match HZ P T n o h s with
     |some (s',ob)=>some (s',(b=want)::ob)
     |none=>none
   |some (.pv (.bg _))=>match h with
    |.skip=>bif jC n o.dst then some (⟨nN s.env o.dst (.pv (.bg [])),s.aP⟩,[]) else none
    |_=>none
   |_=>none
  |none=>none
theorem wA(I:Nat→Prop)(w:World):Rd I w (.bg []) undef := .bg [] #[] rfl (fun j c u h=>by simp at h)
theorem Ar{ops:Array Oper}{j t:Nat}{vs:List PV}{I:Nat→Prop}(ht:(ops[j]?).bind (·.dst)=some t)(hv:Rd I w (.bg vs) (a.tmps.getD t undef)){o:Oper}{want:Bool}(hg:o.guard=some (j,want)):Region.wanted o (yielded ops a.tmps)=false:=by
 have hy:yielded ops a.tmps j=none:=by
  unfold yielded;rw[ht];simp only[Option.bind_some];rw[abV] at hv;cases hx:a.tmps[t]? with
  |none=>rfl
  |some v =>rw[hx] at hv;simp only[Option.getD_some] at hv;cases hv;rfl
 simp[Region.wanted,hg,hy]
theorem nm(hT:mm P T)(hs:∀r,bz Γ.sin r→Γ.n≤r){ops:Array Oper}(hr:Rel Γ s a w)(bc:stepG P T Γ.n ops o h s=some (s',ob))(cf:dW ob){K:Act→World→Prop}{Q:Exit→Act→World→Prop}
  (hk:∀a' w',Rel Γ s' a' w'→K a' w'):if Region.wanted o (yielded ops a.tmps) then o.wp P a w K Q∨(o.asks P a w∧LetsOut Q) else K (a.put o.dst undef) w:=by
 unfold stepG at bc;split at bc
 ·rename_i hg;have:Region.wanted o (yielded ops a.tmps)=true:=by simp[Region.wanted,hg]
  rw[ac7 this];exact .inl (yb hT hs hr bc cf hk)
 ·rename_i j want hg;split at bc
  ·rename_i t ht;split at bc
   ·rename_i b hb;have hy:yielded ops a.tmps j=some b:=by
     obtain⟨β,I,dx⟩:=hr;have hv:Rd I w (.bool b) (a.tmps.getD t undef):=dx.env t _ hb;have wv:a.tmps.getD t undef = .bool b:=by generalize a.tmps.getD t undef=v at hv;cases hv;rfl
     unfold yielded;rw[ht];simp only[Option.bind_some];rw[abV] at wv;cases hx:a.tmps[t]? with
     |none=>rw[hx] at wv;simp[undef] at wv
     |some v=>rw[hx] at wv;simp at wv;subst wv;rfl
    have hw:Region.wanted o (yielded ops a.tmps)=(b==want):=by simp only[Region.wanted,hg,hy];cases b<;>cases want<;>rfl
    split at bc
    ·cases hd:jC Γ.n o.dst with
     |false=>simp[hd] at bc
     |true =>
      simp only[hd,cond_true] at bc;injection bc with bc;injection bc with h1 h2
      subst h1;subst h2;have VH:b = !want:=cf;rw[ac3 (by rw[hw,VH];cases want<;>simp)];obtain⟨β,I,dx⟩:=hr;exact hk _ _ ⟨β,I,dx.put (eO hd) (wA _ _)⟩
    ·split at bc
     ·rename_i Ur Uj MQ;injection bc with bc;injection bc with h1 h2
      subst h1;subst h2;obtain⟨g1,g2⟩:=cf.cons;rw[ac7 (by rw[hw,g1];simp)];exact .inl (yb hT hs hr MQ g2 hk)
     ·cases bc
   ·rename_i vs hb;split at bc
    ·cases hd:jC Γ.n o.dst with
     |false=>simp[hd] at bc
     |true =>
      simp only[hd,cond_true] at bc;injection bc with bc;injection bc with h1 h2
      subst h1;subst h2;obtain⟨β,I,dx⟩:=hr;rw[ac3 (by rw[Ar ht (dx.env t _ hb) hg];simp)];exact hk _ _ ⟨β,I,dx.put (eO hd) (wA _ _)⟩
    ·cases bc
   ·cases bc
  ·cases bc
def oI(P:Program)(T:ja)(n:Nat)(ops:Array Oper):List Oper→List Hint→St→Option (St×List Prop)
 |[],_,s=>some (s,[])
 |o::r,hs,s=>match stepG P T n ops o (hs.headD .none) s with
  |some (s1,EW)=>match oI P T n ops r hs.tail s1 with
   |some (s2,ob2)=>some (s2,EW++ob2)
   |none=>none
  |none=>none
theorem rj(hT:mm P T)(hs:∀r,bz Γ.sin r→Γ.n≤r){ops:Array Oper}{Q:Exit→Act→World→Prop} : ∀(l:List Oper) (k:Nat) (hints:List Hint) (s s':St) (ob:List Prop) (a:Act) (w:World),
  (∀j,l[j]? = ops[k+j]?)→Rel Γ s a w→oI P T Γ.n ops l hints s=some (s',ob)→dW ob→(∀a' w',Rel Γ s' a' w'→Q .normal a' w')→wpOps P ops Q (List.range' k l.length) a w
 |[],k,hints,s,s',ob,a,w,_,hr,bc,_,hk=>by
  injection bc with bc;injection bc with h1 h2
  subst h1;exact hk a w hr
 |o::r,k,hints,s,s',ob,a,w,hl,hr,bc,cf,hk=>by
  unfold oI at bc;split at bc
  ·rename_i s1 EW h1;split at bc
   ·rename_i s2 ob2 h2;injection bc with bc;injection bc with e1 e2
    subst e1;subst e2;obtain⟨g1,g2⟩:=cf.app;have gk:ops[k]? = some o:=by have:=hl 0;simpa using this.symm
    rw[show List.range' k (o::r).length=k::List.range' (k+1) r.length from by simp[List.range'_succ]];unfold wpOps;rw[gk];exact nm hT hs hr h1 g1 fun a' w' dx=>rj hT hs r (k+1) hints.tail s1 s2 ob2 a' w' (fun j=>by have:=hl (j+1);simp only[List.getElem?_cons_succ] at this;rw[this];congr 1;omega) dx h2 g2 hk
   ·cases bc
  ·cases bc
theorem Gz(hT:mm P T)(hs:∀r,bz Γ.sin r→Γ.n≤r){id:Nat}{ops:Array Oper}{hints:List Hint}{Q:Exit→Act→World→Prop}(hr:Rel Γ s a w)
  (bc:oI P T Γ.n ops ops.toList hints s=some (s',ob)) (cf:dW ob) (hk:∀a' w',Rel Γ s' a' w'→Q .normal a' w'):(Code.region id ops false).wp P Q a w:=by
 refine wp_region ?_;have:=rj hT hs ops.toList 0 hints s s' ob a w (fun j=>by simp) hr bc cf hk;simpa[List.range_eq_range'] using this
end
end Go.Proofs.YtneklnlpgfeplaaGreat.Sym
