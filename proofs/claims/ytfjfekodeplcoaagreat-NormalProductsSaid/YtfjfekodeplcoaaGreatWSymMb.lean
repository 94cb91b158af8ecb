/- Lemmas for the statements of this seat. -/
import Derived.Test.YtfjfekodeplcoaaGreatWSymMd
namespace Go.Proofs.YtfjfekodeplcoaaGreat.Sym
open Go Go.RowKit
section
variable {P:Program} {T:ja} {Γ:Ctx} {s s':St} {a:Act} {w:World} {β:Nat→Option Nat} {I:Nat→Prop} {o:Oper} {h:Hint} {ob:List Prop}
def FW(P:Program)(T:ja)(n:Nat)(o:Oper)(h:Hint)(s:St):Option (St×List Prop) :=
 match o.op with
 |.store _ _ _=>match h with
  |.uB _ _ _=>tF T o h s
  |_=>pI T o h s
 |.load _ _=>match h with
  |.BD _ _=>vO T n o h s
  |_=>sr T n o h s
 |.buildSlice _ _ _=>match h with
  |.Ms=>tH T n o s
  |.Ew=>tK T n o s
  |_=>sr T n o h s
 |.call c=>match c.callee with
  |.value _=>match h with
   |.bN _ _ _ _=>pO P n o h s
   |.LB _ _=>vV P n o h s
   |.LC _ _ _ _=>vX P n o h s
   |.HJ _ _ _=>vY P n o h s
   |.FK _ _ _ _=>wc P n o h s
   |_=>rM P n o h s
  |.builtin .append=>match h with
   |.OS _ _=>yV T n o h s
   |.Ko _ _=>yZ T n o h s
   |_=>yO T n o h s
  |.builtin .copy=>yJ T n o h s
  |_=>sr T n o h s
 |_=>sr T n o h s
theorem wV(hT:lH P T)(hs:∀r,aS Γ.sin r→Γ.n≤r)(hr:Rel Γ s a w)(aD:FW P T Γ.n o h s=some (s',ob))(bK:cW ob){K:Act→World→Prop}{Q:Exit→Act→World→Prop}
  (hk:∀a' w',Rel Γ s' a' w'→K a' w'):o.wp P a w K Q:=by
 unfold FW at aD
 split at aD
 ·split at aD
  ·exact vN hT hr aD bK hk
  ·exact qU hT hr aD bK hk
 ·split at aD
  ·exact xB hT hr aD bK hk
  ·exact mb hT hs hr aD bK hk
 ·split at aD
  ·exact vT hT hs hr aD hk
  ·exact vZ hT hs hr aD hk
  ·exact mb hT hs hr aD bK hk
 ·split at aD
  ·split at aD
   ·exact qW hs hr aD bK hk
   ·exact xH hs hr aD bK hk
   ·exact xI hs hr aD bK hk
   ·exact xK hs hr aD bK hk
   ·exact xL hs hr aD bK hk
   ·exact rN hr aD bK hk
  ·split at aD
   ·exact yW hT hs hr aD bK hk
   ·exact y0 hT hs hr aD bK hk
   ·exact yP hT hs hr aD bK hk
  ·exact yL hT hr aD bK hk
  ·exact mb hT hs hr aD bK hk
 ·exact mb hT hs hr aD bK hk
def stepG(P:Program)(T:ja)(n:Nat)(ops:Array Oper)(o:Oper)(h:Hint)(s:St):Option (St×List Prop) :=
 match o.guard with
 |none=>FW P T n o h s
 |some (j,want)=>match (ops[j]?).bind (·.dst) with
  |some t=>match s.env.get t with
   |some (.pv (.bool b))=>match h with
    |.skip=>bif gp n o.dst then some (⟨jg s.env o.dst (.pv (.bx [])),s.sto⟩,[b = !want]) else none
    |h=>match FW P T n o h s with
     |some (s',ob)=>some (s',(b=want)::ob)
     |none=>none
   |some (.pv (.bx _))=>match h with
    |.skip=>bif gp n o.dst then some (⟨jg s.env o.dst (.pv (.bx [])),s.sto⟩,[]) else none
    |_=>none
   |_=>none
  |none=>none
theorem uR(I:Nat→Prop)(w:World):Rd I w (.bx []) undef := .bx [] #[] rfl (fun j c u h=>by simp at h)
theorem zd{ops:Array Oper}{j t:Nat}{vs:List PV}{I:Nat→Prop}(ht:(ops[j]?).bind (·.dst)=some t)(hv:Rd I w (.bx vs) (a.tmps.getD t undef)){o:Oper}{want:Bool}(hg:o.guard=some (j,want)):Region.wanted o (yielded ops a.tmps)=false:=by
 have hy:yielded ops a.tmps j=none:=by
  unfold yielded
  rw[ht]
  simp only[Option.bind_some]
  rw[Array.getD_eq_getD_getElem?] at hv
  cases hx:a.tmps[t]? with
  |none=>rfl
  |some v =>
   rw[hx] at hv
   simp only[Option.getD_some] at hv
   cases hv;rfl
 simp[Region.wanted,hg,hy]
theorem rS(hT:lH P T)(hs:∀r,aS Γ.sin r→Γ.n≤r){ops:Array Oper}(hr:Rel Γ s a w)(aD:stepG P T Γ.n ops o h s=some (s',ob))(bK:cW ob){K:Act→World→Prop}{Q:Exit→Act→World→Prop}
  (hk:∀a' w',Rel Γ s' a' w'→K a' w'):if Region.wanted o (yielded ops a.tmps) then o.wp P a w K Q∨(o.asks P a w∧LetsOut Q) else K (a.put o.dst undef) w:=by
 unfold stepG at aD
 split at aD
 ·rename_i hg
  have:Region.wanted o (yielded ops a.tmps)=true:=by simp[Region.wanted,hg]
  rw[if_pos this]
  exact .inl (wV hT hs hr aD bK hk)
 ·rename_i j want hg
  split at aD
  ·rename_i t ht
   split at aD
   ·rename_i b hb
    have hy:yielded ops a.tmps j=some b:=by
     obtain⟨β,I,dy⟩:=hr
     have hv:Rd I w (.bool b) (a.tmps.getD t undef):=dy.env t _ hb
     have A4:a.tmps.getD t undef = .bool b:=by generalize a.tmps.getD t undef=v at hv;cases hv;rfl
     unfold yielded
     rw[ht]
     simp only[Option.bind_some]
     rw[Array.getD_eq_getD_getElem?] at A4
     cases hx:a.tmps[t]? with
     |none=>rw[hx] at A4;simp[undef] at A4
     |some v=>rw[hx] at A4;simp at A4;subst A4;rfl
    have hw:Region.wanted o (yielded ops a.tmps)=(b==want):=by
     simp only[Region.wanted,hg,hy]
     cases b<;>cases want<;>rfl
    split at aD
    ·cases hd:gp Γ.n o.dst with
     |false=>simp[hd] at aD
     |true =>
      simp only[hd,cond_true] at aD
      injection aD with aD;injection aD with h1 h2
      subst h1;subst h2
      have RI:b = !want:=bK
      rw[if_neg (by rw[hw,RI];cases want<;>simp)]
      obtain⟨β,I,dy⟩:=hr
      exact hk _ _ ⟨β,I,dy.put (c9 hd) (uR _ _)⟩
    ·split at aD
     ·rename_i QJ Qy EJ
      injection aD with aD;injection aD with h1 h2
      subst h1;subst h2
      obtain⟨g1,g2⟩:=bK.cons
      rw[if_pos (by rw[hw,g1];simp)]
      exact .inl (wV hT hs hr EJ g2 hk)
     ·cases aD
   ·rename_i vs hb
    split at aD
    ·cases hd:gp Γ.n o.dst with
     |false=>simp[hd] at aD
     |true =>
      simp only[hd,cond_true] at aD
      injection aD with aD;injection aD with h1 h2
      subst h1;subst h2
      obtain⟨β,I,dy⟩:=hr
      rw[if_neg (by rw[zd ht (dy.env t _ hb) hg];simp)]
      exact hk _ _ ⟨β,I,dy.put (c9 hd) (uR _ _)⟩
    ·cases aD
   ·cases aD
  ·cases aD
def ze(P:Program)(T:ja)(n:Nat)(ops:Array Oper):List Oper→List Hint→St→Option (St×List Prop)
 |[],_,s=>some (s,[])
 |o::r,hs,s=>match stepG P T n ops o (hs.headD .none) s with
  |some (s1,Hu)=>match ze P T n ops r hs.tail s1 with
   |some (s2,ob2)=>some (s2,Hu++ob2)
   |none=>none
  |none=>none
theorem uS(hT:lH P T)(hs:∀r,aS Γ.sin r→Γ.n≤r){ops:Array Oper}{Q:Exit→Act→World→Prop} : ∀(l:List Oper) (k:Nat) (hints:List Hint) (s s':St) (ob:List Prop) (a:Act) (w:World),
  (∀j,l[j]? = ops[k+j]?)→Rel Γ s a w→ze P T Γ.n ops l hints s=some (s',ob)→cW ob→(∀a' w',Rel Γ s' a' w'→Q .normal a' w')→wpOps P ops Q (List.range' k l.length) a w
 |[],k,hints,s,s',ob,a,w,_,hr,aD,_,hk=>by
  injection aD with aD;injection aD with h1 h2
  subst h1
  exact hk a w hr
 |o::r,k,hints,s,s',ob,a,w,hl,hr,aD,bK,hk=>by
  unfold ze at aD
  split at aD
  ·rename_i s1 Hu h1
   split at aD
   ·rename_i s2 ob2 h2
    injection aD with aD;injection aD with e1 e2
    subst e1;subst e2
    obtain⟨g1,g2⟩:=bK.app
    have mK:ops[k]? = some o:=by have:=hl 0;simpa using this.symm
    rw[show List.range' k (o::r).length=k::List.range' (k+1) r.length from by simp[List.range'_succ]]
    unfold wpOps
    rw[mK]
    exact rS hT hs hr h1 g1 fun a' w' dy=>uS hT hs r (k+1) hints.tail s1 s2 ob2 a' w' (fun j=>by
     have:=hl (j+1)
     simp only[List.getElem?_cons_succ] at this
     rw[this];congr 1;omega) dy h2 g2 hk
   ·cases aD
  ·cases aD
theorem EX(hT:lH P T)(hs:∀r,aS Γ.sin r→Γ.n≤r){id:Nat}{ops:Array Oper}{hints:List Hint}{Q:Exit→Act→World→Prop}(hr:Rel Γ s a w)
  (aD:ze P T Γ.n ops ops.toList hints s=some (s',ob)) (bK:cW ob) (hk:∀a' w',Rel Γ s' a' w'→Q .normal a' w'):(Code.region id ops false).wp P Q a w:=by
 refine wp_region ?_
 have:=uS hT hs ops.toList 0 hints s s' ob a w (fun j=>by simp) hr aD bK hk
 simpa[List.range_eq_range'] using this
end
end Go.Proofs.YtfjfekodeplcoaaGreat.Sym
