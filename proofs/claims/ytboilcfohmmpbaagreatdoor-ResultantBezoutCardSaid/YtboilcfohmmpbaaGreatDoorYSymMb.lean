/- Bezout and Accepts of the program answer as the reference does. -/
import Derived.Test.YtboilcfohmmpbaaGreatDoorYSymMa
namespace Go.Proofs.YtboilcfohmmpbaaGreatDoor.Sym
open Go Go.RowKit
section
variable {P:Program} {T:Tab} {Γ:Ctx} {s s':St} {a:Act} {w:World} {β:Nat→Option Nat} {I:Nat→Prop} {o:Oper} {h:Hint} {ob:List Prop}
def stepU(P:Program)(T:Tab)(n:Nat)(o:Oper)(h:Hint)(s:St):Option (St×List Prop) :=
 match o.op with
 |.store _ _ _=>match h with
  |.mset _ _ _=>stepStoreM T o h s
  |_=>stepStore T o h s
 |.load _ _=>match h with
  |.mseg _ _=>stepLoadM T n o h s
  |_=>stepGen T n o h s
 |.buildSlice _ _ _=>match h with
  |.mbuild=>stepBuildM T n o s
  |_=>stepGen T n o h s
 |.call c=>match c.callee with
  |.value _=>match h with
   |.callX _ _ _ _=>stepCallX P n o h s
   |.callG _ _=>stepCallG P n o h s
   |.callN _ _ _ _=>stepCallN P n o h s
   |_=>stepCall P n o h s
  |.builtin .append=>match h with
   |.mapp _ _=>stepAppM T n o h s
   |_=>stepAppF T n o h s
  |.builtin .copy=>stepCopy T n o h s
  |_=>stepGen T n o h s
 |_=>stepGen T n o h s
theorem stepU_sound(hT:TOk P T)(hs:∀r,dom Γ.sin r→Γ.n≤r)(hr:Rel Γ s a w)(hst:stepU P T Γ.n o h s=some (s',ob))(hob:Alls ob){K:Act→World→Prop}{Q:Exit→Act→World→Prop}
  (hk:∀a' w',Rel Γ s' a' w'→K a' w'):o.wp P a w K Q:=by
 unfold stepU at hst
 split at hst
 ·split at hst
  ·exact stepStoreM_sound hT hr hst hob hk
  ·exact stepStore_sound hT hr hst hob hk
 ·split at hst
  ·exact stepLoadM_sound hT hr hst hob hk
  ·exact stepGen_sound hT hs hr hst hob hk
 ·split at hst
  ·exact stepBuildM_sound hT hs hr hst hk
  ·exact stepGen_sound hT hs hr hst hob hk
 ·split at hst
  ·split at hst
   ·exact stepCallX_sound hs hr hst hob hk
   ·exact stepCallG_sound hs hr hst hob hk
   ·exact stepCallN_sound hs hr hst hob hk
   ·exact stepCall_sound hr hst hob hk
  ·split at hst
   ·exact stepAppM_sound hT hs hr hst hob hk
   ·exact stepAppF_sound hT hs hr hst hob hk
  ·exact stepCopy_sound hT hr hst hob hk
  ·exact stepGen_sound hT hs hr hst hob hk
 ·exact stepGen_sound hT hs hr hst hob hk
def stepG(P:Program)(T:Tab)(n:Nat)(ops:Array Oper)(o:Oper)(h:Hint)(s:St):Option (St×List Prop) :=
 match o.guard with
 |none=>stepU P T n o h s
 |some (j,want)=>match (ops[j]?).bind (·.dst) with
  |some t=>match s.env.get t with
   |some (.pv (.bool b))=>match h with
    |.skip=>bif dstOk n o.dst then some (⟨setD s.env o.dst (.pv (.tup [])),s.sto⟩,[b = !want]) else none
    |h=>match stepU P T n o h s with
     |some (s',ob)=>some (s',(b=want)::ob)
     |none=>none
   |some (.pv (.tup _))=>match h with
    |.skip=>bif dstOk n o.dst then some (⟨setD s.env o.dst (.pv (.tup [])),s.sto⟩,[]) else none
    |_=>none
   |_=>none
  |none=>none
theorem rd_undef(I:Nat→Prop)(w:World):Rd I w (.tup []) undef := .tup [] #[] rfl (fun j c u h=>by simp at h)
theorem yields_tup{ops:Array Oper}{j t:Nat}{vs:List PV}{I:Nat→Prop}(ht:(ops[j]?).bind (·.dst)=some t)(hv:Rd I w (.tup vs) (a.tmps.getD t undef)){o:Oper}{want:Bool}(hg:o.guard=some (j,want)):Region.wanted o (yielded ops a.tmps)=false:=by
 have hy:yielded ops a.tmps j=none:=by
  unfold yielded
  rw[ht]
  simp only[Option.bind_some]
  rw[Array.getD_eq_getD_getElem?] at hv
  cases hx:a.tmps[t]? with
  |none=>rfl
  |some v =>
   rw[hx] at hv
   simp only[Option.getD_some] at hv
   cases hv;rfl
 simp[Region.wanted,hg,hy]
theorem stepG_sound(hT:TOk P T)(hs:∀r,dom Γ.sin r→Γ.n≤r){ops:Array Oper}(hr:Rel Γ s a w)(hst:stepG P T Γ.n ops o h s=some (s',ob))(hob:Alls ob){K:Act→World→Prop}{Q:Exit→Act→World→Prop}
  (hk:∀a' w',Rel Γ s' a' w'→K a' w'):if Region.wanted o (yielded ops a.tmps) then o.wp P a w K Q∨(o.asks P a w∧LetsOut Q) else K (a.put o.dst undef) w:=by
 unfold stepG at hst
 split at hst
 ·rename_i hg
  have:Region.wanted o (yielded ops a.tmps)=true:=by simp[Region.wanted,hg]
  rw[if_pos this]
  exact .inl (stepU_sound hT hs hr hst hob hk)
 ·rename_i j want hg
  split at hst
  ·rename_i t ht
   split at hst
   ·rename_i b hb
    have hy:yielded ops a.tmps j=some b:=by
     obtain⟨β,I,hr'⟩:=hr
     have hv:Rd I w (.bool b) (a.tmps.getD t undef):=hr'.env t _ hb
     have hv':a.tmps.getD t undef = .bool b:=by generalize a.tmps.getD t undef=v at hv;cases hv;rfl
     unfold yielded
     rw[ht]
     simp only[Option.bind_some]
     rw[Array.getD_eq_getD_getElem?] at hv'
     cases hx:a.tmps[t]? with
     |none=>rw[hx] at hv';simp[undef] at hv'
     |some v=>rw[hx] at hv';simp at hv';subst hv';rfl
    have hw:Region.wanted o (yielded ops a.tmps)=(b==want):=by
     simp only[Region.wanted,hg,hy]
     cases b<;>cases want<;>rfl
    split at hst
    ·cases hd:dstOk Γ.n o.dst with
     |false=>simp[hd] at hst
     |true =>
      simp only[hd,cond_true] at hst
      injection hst with hst;injection hst with h1 h2
      subst h1;subst h2
      have hbw:b = !want:=hob
      rw[if_neg (by rw[hw,hbw];cases want<;>simp)]
      obtain⟨β,I,hr'⟩:=hr
      exact hk _ _ ⟨β,I,hr'.put (dstOk_spec hd) (rd_undef _ _)⟩
    ·split at hst
     ·rename_i s'' ob' hst'
      injection hst with hst;injection hst with h1 h2
      subst h1;subst h2
      obtain⟨g1,g2⟩:=hob.cons
      rw[if_pos (by rw[hw,g1];simp)]
      exact .inl (stepU_sound hT hs hr hst' g2 hk)
     ·cases hst
   ·rename_i vs hb
    split at hst
    ·cases hd:dstOk Γ.n o.dst with
     |false=>simp[hd] at hst
     |true =>
      simp only[hd,cond_true] at hst
      injection hst with hst;injection hst with h1 h2
      subst h1;subst h2
      obtain⟨β,I,hr'⟩:=hr
      rw[if_neg (by rw[yields_tup ht (hr'.env t _ hb) hg];simp)]
      exact hk _ _ ⟨β,I,hr'.put (dstOk_spec hd) (rd_undef _ _)⟩
    ·cases hst
   ·cases hst
  ·cases hst
def stepsL(P:Program)(T:Tab)(n:Nat)(ops:Array Oper):List Oper→List Hint→St→Option (St×List Prop)
 |[],_,s=>some (s,[])
 |o::r,hs,s=>match stepG P T n ops o (hs.headD .none) s with
  |some (s1,ob1)=>match stepsL P T n ops r hs.tail s1 with
   |some (s2,ob2)=>some (s2,ob1++ob2)
   |none=>none
  |none=>none
theorem stepsL_sound(hT:TOk P T)(hs:∀r,dom Γ.sin r→Γ.n≤r){ops:Array Oper}{Q:Exit→Act→World→Prop} : ∀(l:List Oper) (k:Nat) (hints:List Hint) (s s':St) (ob:List Prop) (a:Act) (w:World),
  (∀j,l[j]? = ops[k+j]?)→Rel Γ s a w→stepsL P T Γ.n ops l hints s=some (s',ob)→Alls ob→(∀a' w',Rel Γ s' a' w'→Q .normal a' w')→wpOps P ops Q (List.range' k l.length) a w
 |[],k,hints,s,s',ob,a,w,_,hr,hst,_,hk=>by
  injection hst with hst;injection hst with h1 h2
  subst h1
  exact hk a w hr
 |o::r,k,hints,s,s',ob,a,w,hl,hr,hst,hob,hk=>by
  unfold stepsL at hst
  split at hst
  ·rename_i s1 ob1 h1
   split at hst
   ·rename_i s2 ob2 h2
    injection hst with hst;injection hst with e1 e2
    subst e1;subst e2
    obtain⟨g1,g2⟩:=hob.app
    have hok:ops[k]? = some o:=by have:=hl 0;simpa using this.symm
    rw[show List.range' k (o::r).length=k::List.range' (k+1) r.length from by simp[List.range'_succ]]
    unfold wpOps
    rw[hok]
    exact stepG_sound hT hs hr h1 g1 fun a' w' hr'=>stepsL_sound hT hs r (k+1) hints.tail s1 s2 ob2 a' w' (fun j=>by
     have:=hl (j+1)
     simp only[List.getElem?_cons_succ] at this
     rw[this];congr 1;omega) hr' h2 g2 hk
   ·cases hst
  ·cases hst
theorem region_seq(hT:TOk P T)(hs:∀r,dom Γ.sin r→Γ.n≤r){id:Nat}{ops:Array Oper}{hints:List Hint}{Q:Exit→Act→World→Prop}(hr:Rel Γ s a w)
  (hst:stepsL P T Γ.n ops ops.toList hints s=some (s',ob)) (hob:Alls ob) (hk:∀a' w',Rel Γ s' a' w'→Q .normal a' w'):(Code.region id ops false).wp P Q a w:=by
 refine wp_region ?_
 have:=stepsL_sound hT hs ops.toList 0 hints s s' ob a w (fun j=>by simp) hr hst hob hk
 simpa[List.range_eq_range'] using this
end
end Go.Proofs.YtboilcfohmmpbaaGreatDoor.Sym
