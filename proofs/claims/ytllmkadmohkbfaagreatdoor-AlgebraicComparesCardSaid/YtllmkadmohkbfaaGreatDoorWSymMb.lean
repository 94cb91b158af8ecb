/- Lemmas for the statements of this seat. -/
import Derived.Test.YtllmkadmohkbfaaGreatDoorWSymM
namespace Go.Proofs.YtllmkadmohkbfaaGreatDoor.Sym
open Go Go.RowKit
section
variable {P:Program} {T:qU} {Γ:Ctx} {s s':St} {a:Act} {w:World} {β:Nat→Option Nat} {I:Nat→Prop} {o:Oper} {h:Hint} {ob:List Prop}
def N1(P:Program)(T:qU)(n:Nat)(o:Oper)(h:Hint)(s:St):Option (St×List Prop) :=
 match o.op with
 |.store _ _ _=>xD T o h s
 |.call c=>match c.callee with
  |.value _=>match h with
   |.bI _ _ _ _=>xF P n o h s
   |_=>zV P n o h s
  |.builtin .append=>Gy T n o h s
  |.builtin .copy=>Gt T n o h s
  |_=>FI T n o h s
 |_=>FI T n o h s
theorem EL(hT:uj P T)(hs:∀r,ee Γ.sin r→Γ.n≤r)(hr:Rel Γ s a w)(bz:N1 P T Γ.n o h s=some (s',ob))(fK:je ob){K:Act→World→Prop}{Q:Exit→Act→World→Prop}
  (hk:∀a' w',Rel Γ s' a' w'→K a' w'):o.wp P a w K Q:=by
 unfold N1 at bz
 split at bz
 ·exact zy hT hr bz fK hk
 ·split at bz
  ·split at bz
   ·exact zC hs hr bz fK hk
   ·exact zW hr bz fK hk
  ·exact Gz hT hs hr bz fK hk
  ·exact Gu hT hr bz fK hk
  ·exact Bo hT hs hr bz fK hk
 ·exact Bo hT hs hr bz fK hk
def stepG(P:Program)(T:qU)(n:Nat)(ops:Array Oper)(o:Oper)(h:Hint)(s:St):Option (St×List Prop) :=
 match o.guard with
 |none=>N1 P T n o h s
 |some (j,want)=>match (ops[j]?).bind (·.dst) with
  |some t=>match s.env.get t with
   |some (.pv (.bool b))=>match h with
    |.skip=>bif ry n o.dst then some (⟨u6 s.env o.dst (.pv (.aB [])),s.bp⟩,[b = !want]) else none
    |h=>match N1 P T n o h s with
     |some (s',ob)=>some (s',(b=want)::ob)
     |none=>none
   |some (.pv (.aB _))=>match h with
    |.skip=>bif ry n o.dst then some (⟨u6 s.env o.dst (.pv (.aB [])),s.bp⟩,[]) else none
    |_=>none
   |_=>none
  |none=>none
theorem CS(I:Nat→Prop)(w:World):Rd I w (.aB []) undef := .aB [] #[] rfl (fun j c u h=>by simp at h)
theorem GC{ops:Array Oper}{j t:Nat}{vs:List PV}{I:Nat→Prop}(ht:(ops[j]?).bind (·.dst)=some t)(hv:Rd I w (.aB vs) (a.tmps.getD t undef)){o:Oper}{want:Bool}(hg:o.guard=some (j,want)):Region.wanted o (yielded ops a.tmps)=false:=by
 have hy:yielded ops a.tmps j=none:=by
  unfold yielded
  rw[ht]
  simp only[Option.bind_some]
  rw[Array.getD_eq_getD_getElem?] at hv
  cases hx:a.tmps[t]? with
  |none=>rfl
  |some v =>
   rw[hx] at hv
   simp only[Option.getD_some] at hv
   cases hv;rfl
 simp[Region.wanted,hg,hy]
theorem zZ(hT:uj P T)(hs:∀r,ee Γ.sin r→Γ.n≤r){ops:Array Oper}(hr:Rel Γ s a w)(bz:stepG P T Γ.n ops o h s=some (s',ob))(fK:je ob){K:Act→World→Prop}{Q:Exit→Act→World→Prop}
  (hk:∀a' w',Rel Γ s' a' w'→K a' w'):if Region.wanted o (yielded ops a.tmps) then o.wp P a w K Q∨(o.asks P a w∧LetsOut Q) else K (a.put o.dst undef) w:=by
 unfold stepG at bz
 split at bz
 ·rename_i hg
  have:Region.wanted o (yielded ops a.tmps)=true:=by simp[Region.wanted,hg]
  rw[if_pos this]
  exact .inl (EL hT hs hr bz fK hk)
 ·rename_i j want hg
  split at bz
  ·rename_i t ht
   split at bz
   ·rename_i b hb
    have hy:yielded ops a.tmps j=some b:=by
     obtain⟨β,I,jn⟩:=hr
     have hv:Rd I w (.bool b) (a.tmps.getD t undef):=jn.env t _ hb
     have Ku:a.tmps.getD t undef = .bool b:=by generalize a.tmps.getD t undef=v at hv;cases hv;rfl
     unfold yielded
     rw[ht]
     simp only[Option.bind_some]
     rw[Array.getD_eq_getD_getElem?] at Ku
     cases hx:a.tmps[t]? with
     |none=>rw[hx] at Ku;simp[undef] at Ku
     |some v=>rw[hx] at Ku;simp at Ku;subst Ku;rfl
    have hw:Region.wanted o (yielded ops a.tmps)=(b==want):=by
     simp only[Region.wanted,hg,hy]
     cases b<;>cases want<;>rfl
    split at bz
    ·cases hd:ry Γ.n o.dst with
     |false=>simp[hd] at bz
     |true =>
      simp only[hd,cond_true] at bz
      injection bz with bz;injection bz with h1 h2
      subst h1;subst h2
      have Y6:b = !want:=fK
      rw[if_neg (by rw[hw,Y6];cases want<;>simp)]
      obtain⟨β,I,jn⟩:=hr
      exact hk _ _ ⟨β,I,jn.put (kf hd) (CS _ _)⟩
    ·split at bz
     ·rename_i Yd X6 SA
      injection bz with bz;injection bz with h1 h2
      subst h1;subst h2
      obtain⟨g1,g2⟩:=fK.cons
      rw[if_pos (by rw[hw,g1];simp)]
      exact .inl (EL hT hs hr SA g2 hk)
     ·cases bz
   ·rename_i vs hb
    split at bz
    ·cases hd:ry Γ.n o.dst with
     |false=>simp[hd] at bz
     |true =>
      simp only[hd,cond_true] at bz
      injection bz with bz;injection bz with h1 h2
      subst h1;subst h2
      obtain⟨β,I,jn⟩:=hr
      rw[if_neg (by rw[GC ht (jn.env t _ hb) hg];simp)]
      exact hk _ _ ⟨β,I,jn.put (kf hd) (CS _ _)⟩
    ·cases bz
   ·cases bz
  ·cases bz
def GD(P:Program)(T:qU)(n:Nat)(ops:Array Oper):List Oper→List Hint→St→Option (St×List Prop)
 |[],_,s=>some (s,[])
 |o::r,hs,s=>match stepG P T n ops o (hs.headD .none) s with
  |some (s1,PR)=>match GD P T n ops r hs.tail s1 with
   |some (s2,ob2)=>some (s2,PR++ob2)
   |none=>none
  |none=>none
theorem CT(hT:uj P T)(hs:∀r,ee Γ.sin r→Γ.n≤r){ops:Array Oper}{Q:Exit→Act→World→Prop} : ∀(l:List Oper) (k:Nat) (hints:List Hint) (s s':St) (ob:List Prop) (a:Act) (w:World),
  (∀j,l[j]? = ops[k+j]?)→Rel Γ s a w→GD P T Γ.n ops l hints s=some (s',ob)→je ob→(∀a' w',Rel Γ s' a' w'→Q .normal a' w')→wpOps P ops Q (List.range' k l.length) a w
 |[],k,hints,s,s',ob,a,w,_,hr,bz,_,hk=>by
  injection bz with bz;injection bz with h1 h2
  subst h1
  exact hk a w hr
 |o::r,k,hints,s,s',ob,a,w,hl,hr,bz,fK,hk=>by
  unfold GD at bz
  split at bz
  ·rename_i s1 PR h1
   split at bz
   ·rename_i s2 ob2 h2
    injection bz with bz;injection bz with e1 e2
    subst e1;subst e2
    obtain⟨g1,g2⟩:=fK.app
    have vb:ops[k]? = some o:=by have:=hl 0;simpa using this.symm
    rw[show List.range' k (o::r).length=k::List.range' (k+1) r.length from by simp[List.range'_succ]]
    unfold wpOps
    rw[vb]
    exact zZ hT hs hr h1 g1 fun a' w' jn=>CT hT hs r (k+1) hints.tail s1 s2 ob2 a' w' (fun j=>by
     have:=hl (j+1)
     simp only[List.getElem?_cons_succ] at this
     rw[this];congr 1;omega) jn h2 g2 hk
   ·cases bz
  ·cases bz
theorem MG(hT:uj P T)(hs:∀r,ee Γ.sin r→Γ.n≤r){id:Nat}{ops:Array Oper}{hints:List Hint}{Q:Exit→Act→World→Prop}(hr:Rel Γ s a w)
  (bz:GD P T Γ.n ops ops.toList hints s=some (s',ob)) (fK:je ob) (hk:∀a' w',Rel Γ s' a' w'→Q .normal a' w'):(Code.region id ops false).wp P Q a w:=by
 refine wp_region ?_
 have:=CT hT hs ops.toList 0 hints s s' ob a w (fun j=>by simp) hr bz fK hk
 simpa[List.range_eq_range'] using this
end
end Go.Proofs.YtllmkadmohkbfaaGreatDoor.Sym
