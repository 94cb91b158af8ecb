/- Lemmas for the statements of this seat. -/
import Derived.Test.YtllmkadmohkbfaaGreatDoorVSymM
namespace Go.Proofs.YtllmkadmohkbfaaGreatDoor.Sym
open Go Go.RowKit
section
variable {P:Program} {T:kL} {Γ:Ctx} {s s':St} {a:Act} {w:World} {β:Nat→Option Nat} {I:Nat→Prop} {o:Oper} {h:Hint} {ob:List Prop}
def Jb(P:Program)(T:kL)(n:Nat)(o:Oper)(h:Hint)(s:St):Option (St×List Prop) :=
 match o.op with
 |.store _ _ _=>qS T o h s
 |.call c=>match c.callee with
  |.value _=>match h with
   |.bO _ _ _ _=>qU P n o h s
   |_=>ta P n o h s
  |.builtin .append=>AY T n o h s
  |.builtin .copy=>AT T n o h s
  |_=>zY T n o h s
 |_=>zY T n o h s
theorem yK(hT:nM P T)(hs:∀r,bS Γ.sin r→Γ.n≤r)(hr:Rel Γ s a w)(aI:Jb P T Γ.n o h s=some (s',ob))(cr:dP ob){K:Act→World→Prop}{Q:Exit→Act→World→Prop}
  (hk:∀a' w',Rel Γ s' a' w'→K a' w'):o.wp P a w K Q:=by
 unfold Jb at aI
 split at aI
 ·exact sG hT hr aI cr hk
 ·split at aI
  ·split at aI
   ·exact sH hs hr aI cr hk
   ·exact tc hr aI cr hk
  ·exact AZ hT hs hr aI cr hk
  ·exact AU hT hr aI cr hk
  ·exact uS hT hs hr aI cr hk
 ·exact uS hT hs hr aI cr hk
def stepG(P:Program)(T:kL)(n:Nat)(ops:Array Oper)(o:Oper)(h:Hint)(s:St):Option (St×List Prop) :=
 match o.guard with
 |none=>Jb P T n o h s
 |some (j,want)=>match (ops[j]?).bind (·.dst) with
  |some t=>match s.env.get t with
   |some (.pv (.bool b))=>match h with
    |.skip=>bif lu n o.dst then some (⟨oC s.env o.dst (.pv (.aB [])),s.aG⟩,[b = !want]) else none
    |h=>match Jb P T n o h s with
     |some (s',ob)=>some (s',(b=want)::ob)
     |none=>none
   |some (.pv (.aB _))=>match h with
    |.skip=>bif lu n o.dst then some (⟨oC s.env o.dst (.pv (.aB [])),s.aG⟩,[]) else none
    |_=>none
   |_=>none
  |none=>none
theorem wB(I:Nat→Prop)(w:World):Rd I w (.aB []) undef := .aB [] #[] rfl (fun j c u h=>by simp at h)
theorem A4{ops:Array Oper}{j t:Nat}{vs:List PV}{I:Nat→Prop}(ht:(ops[j]?).bind (·.dst)=some t)(hv:Rd I w (.aB vs) (a.tmps.getD t undef)){o:Oper}{want:Bool}(hg:o.guard=some (j,want)):Region.wanted o (yielded ops a.tmps)=false:=by
 have hy:yielded ops a.tmps j=none:=by
  unfold yielded
  rw[ht]
  simp only[Option.bind_some]
  rw[Array.getD_eq_getD_getElem?] at hv
  cases hx:a.tmps[t]? with
  |none=>rfl
  |some v =>
   rw[hx] at hv
   simp only[Option.getD_some] at hv
   cases hv;rfl
 simp[Region.wanted,hg,hy]
theorem tf(hT:nM P T)(hs:∀r,bS Γ.sin r→Γ.n≤r){ops:Array Oper}(hr:Rel Γ s a w)(aI:stepG P T Γ.n ops o h s=some (s',ob))(cr:dP ob){K:Act→World→Prop}{Q:Exit→Act→World→Prop}
  (hk:∀a' w',Rel Γ s' a' w'→K a' w'):if Region.wanted o (yielded ops a.tmps) then o.wp P a w K Q∨(o.asks P a w∧LetsOut Q) else K (a.put o.dst undef) w:=by
 unfold stepG at aI
 split at aI
 ·rename_i hg
  have:Region.wanted o (yielded ops a.tmps)=true:=by simp[Region.wanted,hg]
  rw[if_pos this]
  exact .inl (yK hT hs hr aI cr hk)
 ·rename_i j want hg
  split at aI
  ·rename_i t ht
   split at aI
   ·rename_i b hb
    have hy:yielded ops a.tmps j=some b:=by
     obtain⟨β,I,eb⟩:=hr
     have hv:Rd I w (.bool b) (a.tmps.getD t undef):=eb.env t _ hb
     have Fh:a.tmps.getD t undef = .bool b:=by generalize a.tmps.getD t undef=v at hv;cases hv;rfl
     unfold yielded
     rw[ht]
     simp only[Option.bind_some]
     rw[Array.getD_eq_getD_getElem?] at Fh
     cases hx:a.tmps[t]? with
     |none=>rw[hx] at Fh;simp[undef] at Fh
     |some v=>rw[hx] at Fh;simp at Fh;subst Fh;rfl
    have hw:Region.wanted o (yielded ops a.tmps)=(b==want):=by
     simp only[Region.wanted,hg,hy]
     cases b<;>cases want<;>rfl
    split at aI
    ·cases hd:lu Γ.n o.dst with
     |false=>simp[hd] at aI
     |true =>
      simp only[hd,cond_true] at aI
      injection aI with aI;injection aI with h1 h2
      subst h1;subst h2
      have VX:b = !want:=cr
      rw[if_neg (by rw[hw,VX];cases want<;>simp)]
      obtain⟨β,I,eb⟩:=hr
      exact hk _ _ ⟨β,I,eb.put (eT hd) (wB _ _)⟩
    ·split at aI
     ·rename_i U4 US Ou
      injection aI with aI;injection aI with h1 h2
      subst h1;subst h2
      obtain⟨g1,g2⟩:=cr.cons
      rw[if_pos (by rw[hw,g1];simp)]
      exact .inl (yK hT hs hr Ou g2 hk)
     ·cases aI
   ·rename_i vs hb
    split at aI
    ·cases hd:lu Γ.n o.dst with
     |false=>simp[hd] at aI
     |true =>
      simp only[hd,cond_true] at aI
      injection aI with aI;injection aI with h1 h2
      subst h1;subst h2
      obtain⟨β,I,eb⟩:=hr
      rw[if_neg (by rw[A4 ht (eb.env t _ hb) hg];simp)]
      exact hk _ _ ⟨β,I,eb.put (eT hd) (wB _ _)⟩
    ·cases aI
   ·cases aI
  ·cases aI
def A5(P:Program)(T:kL)(n:Nat)(ops:Array Oper):List Oper→List Hint→St→Option (St×List Prop)
 |[],_,s=>some (s,[])
 |o::r,hs,s=>match stepG P T n ops o (hs.headD .none) s with
  |some (s1,Le)=>match A5 P T n ops r hs.tail s1 with
   |some (s2,ob2)=>some (s2,Le++ob2)
   |none=>none
  |none=>none
theorem wC(hT:nM P T)(hs:∀r,bS Γ.sin r→Γ.n≤r){ops:Array Oper}{Q:Exit→Act→World→Prop} : ∀(l:List Oper) (k:Nat) (hints:List Hint) (s s':St) (ob:List Prop) (a:Act) (w:World),
  (∀j,l[j]? = ops[k+j]?)→Rel Γ s a w→A5 P T Γ.n ops l hints s=some (s',ob)→dP ob→(∀a' w',Rel Γ s' a' w'→Q .normal a' w')→wpOps P ops Q (List.range' k l.length) a w
 |[],k,hints,s,s',ob,a,w,_,hr,aI,_,hk=>by
  injection aI with aI;injection aI with h1 h2
  subst h1
  exact hk a w hr
 |o::r,k,hints,s,s',ob,a,w,hl,hr,aI,cr,hk=>by
  unfold A5 at aI
  split at aI
  ·rename_i s1 Le h1
   split at aI
   ·rename_i s2 ob2 h2
    injection aI with aI;injection aI with e1 e2
    subst e1;subst e2
    obtain⟨g1,g2⟩:=cr.app
    have oG:ops[k]? = some o:=by have:=hl 0;simpa using this.symm
    rw[show List.range' k (o::r).length=k::List.range' (k+1) r.length from by simp[List.range'_succ]]
    unfold wpOps
    rw[oG]
    exact tf hT hs hr h1 g1 fun a' w' eb=>wC hT hs r (k+1) hints.tail s1 s2 ob2 a' w' (fun j=>by
     have:=hl (j+1)
     simp only[List.getElem?_cons_succ] at this
     rw[this];congr 1;omega) eb h2 g2 hk
   ·cases aI
  ·cases aI
theorem HU(hT:nM P T)(hs:∀r,bS Γ.sin r→Γ.n≤r){id:Nat}{ops:Array Oper}{hints:List Hint}{Q:Exit→Act→World→Prop}(hr:Rel Γ s a w)
  (aI:A5 P T Γ.n ops ops.toList hints s=some (s',ob)) (cr:dP ob) (hk:∀a' w',Rel Γ s' a' w'→Q .normal a' w'):(Code.region id ops false).wp P Q a w:=by
 refine wp_region ?_
 have:=wC hT hs ops.toList 0 hints s s' ob a w (fun j=>by simp) hr aI cr hk
 simpa[List.range_eq_range'] using this
end
end Go.Proofs.YtllmkadmohkbfaaGreatDoor.Sym
