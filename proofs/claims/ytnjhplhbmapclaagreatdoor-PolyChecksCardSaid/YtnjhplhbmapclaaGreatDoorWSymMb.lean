/- Lemmas for the statements of this seat. -/
import Derived.Test.YtnjhplhbmapclaaGreatDoorWSymM
namespace Go.Proofs.YtnjhplhbmapclaaGreatDoor.Sym
open Go Go.RowKit
section
variable {P:Program} {T:gi} {Γ:Ctx} {s s':St} {a:Act} {w:World} {β:Nat→Option Nat} {I:Nat→Prop} {o:Oper} {h:Hint} {ob:List Prop}
def AA(P:Program)(T:gi)(n:Nat)(o:Oper)(h:Hint)(s:St):Option (St×List Prop) :=
 match o.op with
 |.store _ _ _=>lh T o h s
 |.call c=>match c.callee with
  |.value _=>match h with
   |.bz _ _ _ _=>lk P n o h s
   |_=>mT P n o h s
  |.builtin .append=>tj T n o h s
  |.builtin .copy=>td T n o h s
  |_=>sq T n o h s
 |_=>sq T n o h s
theorem rp(hT:jh P T)(hs:∀r,aT Γ.sin r→Γ.n≤r)(hr:Rel Γ s a w)(ay:AA P T Γ.n o h s=some (s',ob))(bj:bV ob){K:Act→World→Prop}{Q:Exit→Act→World→Prop}
  (hk:∀a' w',Rel Γ s' a' w'→K a' w'):o.wp P a w K Q:=by
 unfold AA at ay
 split at ay
 ·exact mA hT hr ay bj hk
 ·split at ay
  ·split at ay
   ·exact mB hs hr ay bj hk
   ·exact mU hr ay bj hk
  ·exact tk hT hs hr ay bj hk
  ·exact tf hT hr ay bj hk
  ·exact od hT hs hr ay bj hk
 ·exact od hT hs hr ay bj hk
def stepG(P:Program)(T:gi)(n:Nat)(ops:Array Oper)(o:Oper)(h:Hint)(s:St):Option (St×List Prop) :=
 match o.guard with
 |none=>AA P T n o h s
 |some (j,want)=>match (ops[j]?).bind (·.dst) with
  |some t=>match s.env.get t with
   |some (.pv (.bool b))=>match h with
    |.skip=>bif gG n o.dst then some (⟨jU s.env o.dst (.pv (.aY [])),s.aw⟩,[b = !want]) else none
    |h=>match AA P T n o h s with
     |some (s',ob)=>some (s',(b=want)::ob)
     |none=>none
   |some (.pv (.aY _))=>match h with
    |.skip=>bif gG n o.dst then some (⟨jU s.env o.dst (.pv (.aY [])),s.aw⟩,[]) else none
    |_=>none
   |_=>none
  |none=>none
theorem pA(I:Nat→Prop)(w:World):Rd I w (.aY []) undef := .aY [] #[] rfl (fun j c u h=>by simp at h)
theorem tp{ops:Array Oper}{j t:Nat}{vs:List PV}{I:Nat→Prop}(ht:(ops[j]?).bind (·.dst)=some t)(hv:Rd I w (.aY vs) (a.tmps.getD t undef)){o:Oper}{want:Bool}(hg:o.guard=some (j,want)):Region.wanted o (yielded ops a.tmps)=false:=by
 have hy:yielded ops a.tmps j=none:=by
  unfold yielded
  rw[ht]
  simp only[Option.bind_some]
  rw[Array.getD_eq_getD_getElem?] at hv
  cases hx:a.tmps[t]? with
  |none=>rfl
  |some v =>
   rw[hx] at hv
   simp only[Option.getD_some] at hv
   cases hv;rfl
 simp[Region.wanted,hg,hy]
theorem mW(hT:jh P T)(hs:∀r,aT Γ.sin r→Γ.n≤r){ops:Array Oper}(hr:Rel Γ s a w)(ay:stepG P T Γ.n ops o h s=some (s',ob))(bj:bV ob){K:Act→World→Prop}{Q:Exit→Act→World→Prop}
  (hk:∀a' w',Rel Γ s' a' w'→K a' w'):if Region.wanted o (yielded ops a.tmps) then o.wp P a w K Q∨(o.asks P a w∧LetsOut Q) else K (a.put o.dst undef) w:=by
 unfold stepG at ay
 split at ay
 ·rename_i hg
  have:Region.wanted o (yielded ops a.tmps)=true:=by simp[Region.wanted,hg]
  rw[if_pos this]
  exact .inl (rp hT hs hr ay bj hk)
 ·rename_i j want hg
  split at ay
  ·rename_i t ht
   split at ay
   ·rename_i b hb
    have hy:yielded ops a.tmps j=some b:=by
     obtain⟨β,I,bU⟩:=hr
     have hv:Rd I w (.bool b) (a.tmps.getD t undef):=bU.env t _ hb
     have xd:a.tmps.getD t undef = .bool b:=by generalize a.tmps.getD t undef=v at hv;cases hv;rfl
     unfold yielded
     rw[ht]
     simp only[Option.bind_some]
     rw[Array.getD_eq_getD_getElem?] at xd
     cases hx:a.tmps[t]? with
     |none=>rw[hx] at xd;simp[undef] at xd
     |some v=>rw[hx] at xd;simp at xd;subst xd;rfl
    have hw:Region.wanted o (yielded ops a.tmps)=(b==want):=by
     simp only[Region.wanted,hg,hy]
     cases b<;>cases want<;>rfl
    split at ay
    ·cases hd:gG Γ.n o.dst with
     |false=>simp[hd] at ay
     |true =>
      simp only[hd,cond_true] at ay
      injection ay with ay;injection ay with h1 h2
      subst h1;subst h2
      have KU:b = !want:=bj
      rw[if_neg (by rw[hw,KU];cases want<;>simp)]
      obtain⟨β,I,bU⟩:=hr
      exact hk _ _ ⟨β,I,bU.put (cD hd) (pA _ _)⟩
    ·split at ay
     ·rename_i J6 JY EO
      injection ay with ay;injection ay with h1 h2
      subst h1;subst h2
      obtain⟨g1,g2⟩:=bj.cons
      rw[if_pos (by rw[hw,g1];simp)]
      exact .inl (rp hT hs hr EO g2 hk)
     ·cases ay
   ·rename_i vs hb
    split at ay
    ·cases hd:gG Γ.n o.dst with
     |false=>simp[hd] at ay
     |true =>
      simp only[hd,cond_true] at ay
      injection ay with ay;injection ay with h1 h2
      subst h1;subst h2
      obtain⟨β,I,bU⟩:=hr
      rw[if_neg (by rw[tp ht (bU.env t _ hb) hg];simp)]
      exact hk _ _ ⟨β,I,bU.put (cD hd) (pA _ _)⟩
    ·cases ay
   ·cases ay
  ·cases ay
def tq(P:Program)(T:gi)(n:Nat)(ops:Array Oper):List Oper→List Hint→St→Option (St×List Prop)
 |[],_,s=>some (s,[])
 |o::r,hs,s=>match stepG P T n ops o (hs.headD .none) s with
  |some (s1,Cc)=>match tq P T n ops r hs.tail s1 with
   |some (s2,ob2)=>some (s2,Cc++ob2)
   |none=>none
  |none=>none
theorem pB(hT:jh P T)(hs:∀r,aT Γ.sin r→Γ.n≤r){ops:Array Oper}{Q:Exit→Act→World→Prop} : ∀(l:List Oper) (k:Nat) (hints:List Hint) (s s':St) (ob:List Prop) (a:Act) (w:World),
  (∀j,l[j]? = ops[k+j]?)→Rel Γ s a w→tq P T Γ.n ops l hints s=some (s',ob)→bV ob→(∀a' w',Rel Γ s' a' w'→Q .normal a' w')→wpOps P ops Q (List.range' k l.length) a w
 |[],k,hints,s,s',ob,a,w,_,hr,ay,_,hk=>by
  injection ay with ay;injection ay with h1 h2
  subst h1
  exact hk a w hr
 |o::r,k,hints,s,s',ob,a,w,hl,hr,ay,bj,hk=>by
  unfold tq at ay
  split at ay
  ·rename_i s1 Cc h1
   split at ay
   ·rename_i s2 ob2 h2
    injection ay with ay;injection ay with e1 e2
    subst e1;subst e2
    obtain⟨g1,g2⟩:=bj.app
    have jX:ops[k]? = some o:=by have:=hl 0;simpa using this.symm
    rw[show List.range' k (o::r).length=k::List.range' (k+1) r.length from by simp[List.range'_succ]]
    unfold wpOps
    rw[jX]
    exact mW hT hs hr h1 g1 fun a' w' bU=>pB hT hs r (k+1) hints.tail s1 s2 ob2 a' w' (fun j=>by
     have:=hl (j+1)
     simp only[List.getElem?_cons_succ] at this
     rw[this];congr 1;omega) bU h2 g2 hk
   ·cases ay
  ·cases ay
theorem zi(hT:jh P T)(hs:∀r,aT Γ.sin r→Γ.n≤r){id:Nat}{ops:Array Oper}{hints:List Hint}{Q:Exit→Act→World→Prop}(hr:Rel Γ s a w)
  (ay:tq P T Γ.n ops ops.toList hints s=some (s',ob)) (bj:bV ob) (hk:∀a' w',Rel Γ s' a' w'→Q .normal a' w'):(Code.region id ops false).wp P Q a w:=by
 refine wp_region ?_
 have:=pB hT hs ops.toList 0 hints s s' ob a w (fun j=>by simp) hr ay bj hk
 simpa[List.range_eq_range'] using this
end
end Go.Proofs.YtnjhplhbmapclaaGreatDoor.Sym
