/- Lemmas for the statements of this seat. -/
import Derived.Test.YtllmkadmohkbfaaGreatDoorWSymJ
namespace Go.Proofs.YtllmkadmohkbfaaGreatDoor.Sym
open Go Go.RowKit
def tL (P : Program) (f : FuncId) : Prop := ∃ fn, P.funcs[f]? = some fn ∧ fn.body.isSome = true ∧ (fn.name == "runtime.NumGoroutine") = false
def zP(sin sout:cq)(r:EV)(β:Nat→Option Nat)(I:Nat→Prop)(w:World)(e:Ending)(w':World):Prop :=
 ∃v β',e = .returned v∧(∀x,ee sin x→¬gv x→β' x=β x)∧o8 (fun b=>∃x,ee sin x∧β x=some b) w w' ∧
  CH β' (fun b=>I b∨((fresh w w' b∨O4 sin β b)∧∀x,ee sout x→β' x≠some b)) w' sout ∧
  RE β' (ee sout) (fun b=>I b∨((fresh w w' b∨O4 sin β b)∧∀x,ee sout x→β' x≠some b)) w' r v ∧
  (∀x b,ee sout x→¬ee sin x→β' x=some b→fresh w w' b∨O4 sin β b)
def av(P:Program)(f:FuncId)(args:List EV)(sin:cq)(r:EV)(sout:cq):Prop :=
 tL P f∧∀(I:Nat→Prop) (w:World) (β:Nat→Option Nat) (vs:Array Value),(∀b,I b→b<w.heap.size)→CH β I w sin→args.length=vs.size →
  (∀(j:Nat) e v,args[j]? = some e→vs[j]? = some v→RE β (ee sin) I w e v)→Calls P f vs w (zP sin sout r β I w)
def kV(P:Program)(f:FuncId)(args:List PV)(r:PV):Prop:=av P f (args.map EV.pv) [] (.pv r) []
def ry(n:Nat):Option Nat→Bool
 |none=>true
 |some d=>Nat.blt d n
theorem kf{n:Nat}{dst:Option Nat}(h:ry n dst=true):∀d,dst=some d→d<n:=by
 intro d hd;subst hd
 exact Nat.le_of_ble_eq_true h
def yp(op:Op)(dst:Option Nat)(s:St):St :=
 match op,dst with
 |.alloc _,some d=>kill d s
 |.box _ _,some d=>kill d s
 |.buildSlice _ _ _,some d=>kill d s
 |.makeSlice _ _ _,some d=>kill d s
 |_,_=>s
def DX(s:St)(dst:Option Nat)(res:uC):Option (St×List Prop) :=
 match res.new with
 |none=>some (⟨u6 s.env dst res.val,s.bp⟩,res.ob)
 |some sc=>match dst with
  |some d=>match s.bp.get d with
   |none=>some (⟨u6 s.env (some d) res.val,(d,sc)::s.bp⟩,res.ob)
   |some _=>none
  |none=>none
def FI(T:qU)(n:Nat)(o:Oper)(h:Hint)(s:St):Option (St×List Prop) :=
 bif ry n o.dst then
  match fF T (yp o.op o.dst s).bp o.dst o.op (iq (yp o.op o.dst s).env) h with
  |some res=>DX (yp o.op o.dst s) o.dst res
  |none=>none
 else none
section
variable {P:Program} {T:qU} {Γ:Ctx} {s s':St} {a:Act} {w:World} {β:Nat→Option Nat} {I:Nat→Prop} {o:Oper} {h:Hint} {ob:List Prop}
theorem iA.yp(hr:iA Γ s a w β I)(op:Op)(dst:Option Nat):iA Γ (yp op dst s) a w β I:=by
 unfold Sym.yp
 split<;>first|exact hr.kill _|exact hr
theorem KN(hs:∀r,ee Γ.sin r→Γ.n≤r)(hr:iA Γ s a w β I){dst:Option Nat}(hd:ry Γ.n dst=true){res:uC}{v:Value}{w':World}(hp:BC β (ee s.bp) I w dst res v w')
  (bz:DX s dst res=some (s',ob)):Rel Γ s' (a.put dst v) w'∧ob=res.ob:=by
 obtain⟨val,new,X6⟩:=res
 obtain⟨hb,hp⟩:=hp
 unfold DX at bz
 cases new with
 |none =>
  injection bz with bz
  injection bz with h1 h2
  subst h1;subst h2
  refine⟨⟨β,_,(hr.grow hb (fun b hI => .inl hI) (fun b hI=>hI)).put (kf hd) hp⟩,rfl⟩
 |some sc =>
  obtain⟨d,b,rfl,DJ,hp⟩:=hp
  simp only at bz
  split at bz
  ·rename_i Bm
   injection bz with bz
   injection bz with h1 h2
   subst h1;subst h2
   have DY:¬ee s.bp d:=by unfold ee;rw[Bm];simp
   have Bn:=kf hd d rfl
   have KO:¬ee Γ.sin d:=fun h=>by have:=hs d h;omega
   obtain⟨NV,TO⟩:=hp DY
   have hg:iA Γ s a w' β (fun x=>I x∨(fresh w w' x∧x≠b)):=hr.grow hb (fun b hI => .inl hI) (fun x hx=>hx.elim .inl fun h => .inr h.1)
   have wu:=hg.site (d:=d) (sc:=sc) (Nat.lt_of_lt_of_le Bn Γ.small) DY KO (β':=So β d b) (fun r dk=>by simp[So,dk]) (fun b' kI=>by
    have:b'=b:=by simpa[So] using kI.symm
    subst this
    refine⟨DJ.2,fun hx => ?_,.inl (Nat.le_trans hr.aP.size DJ.1),fun r DW e => ?_⟩
    ·rcases hx with hx|hx
     ·have:=hr.ib _ hx;have:=DJ.1;omega
     ·exact hx.2 rfl
    ·have:=hr.lb r b' DW e;have:=DJ.1;omega) NV
   exact⟨⟨_,_,wu.put (dst:=some d) (fun d' TP=>by injection TP with TP;omega) (TO.mono (fun _ _=>rfl) (fun r hr=>(jf (Nat.lt_of_lt_of_le Bn Γ.small)).2 (hr.elim .inr .inl)) (fun _ h=>h) (fun _ _ _=>rfl) (fun _ _ _ _=>rfl))⟩,rfl⟩
  ·cases bz
theorem Bo(hT:uj P T)(hs:∀r,ee Γ.sin r→Γ.n≤r)(hr:Rel Γ s a w)(bz:FI T Γ.n o h s=some (s',ob))(fK:je ob){K:Act→World→Prop}{Q:Exit→Act→World→Prop}
  (hk:∀a' w',Rel Γ s' a' w'→K a' w'):o.wp P a w K Q:=by
 obtain⟨β,I,hr⟩:=hr
 unfold FI at bz
 cases hd:ry Γ.n o.dst with
 |false=>simp[hd] at bz
 |true =>
  simp only[hd,cond_true] at bz
  have wg:=hr.yp o.op o.dst
  split at bz
  ·rename_i res u7
   have Ux:ob=res.ob:=by
    unfold DX at bz
    split at bz
    ·injection bz with bz;injection bz with _ h2;exact h2.symm
    ·split at bz
     ·split at bz
      ·injection bz with bz;injection bz with _ h2;exact h2.symm
      ·cases bz
     ·cases bz
   rw[Ux] at fK
   obtain⟨v,w',aH,Gi⟩:=EG hT wg.pre u7 fK
   have:=(KN hs wg hd Gi bz).1
   unfold Oper.wp
   rw[aH]
   exact hk _ _ this
  ·cases bz
def cq.Mz:cq→Nat→SC→cq
 |[],_,_=>[]
 |(r',c)::s,r,sc=>bif Nat.beq r' r then (r',sc)::s else (r',c)::cq.Mz s r sc
theorem cq.DZ:∀(s:cq) (r x:Nat) (sc:SC),(cq.Mz s r sc).jG x=if x=r then (s.jG x).map (fun _=>sc) else s.jG x
 |[],r,x,sc=>by simp[cq.Mz,cq.jG]
 |(r',c)::s,r,x,sc=>by
  simp only[cq.Mz]
  cases hb:Nat.beq r' r with
  |true =>
   have:r'=r:=Nat.eq_of_beq_eq_true hb
   subst this
   simp only[cond_true,cq.jG]
   by_cases hx:x=r'
   ·subst hx;simp
   ·have h2:Nat.beq r' x=false:=mP (Ne.symm hx)
    simp[hx,h2]
  |false =>
   simp only[cond_false,cq.jG,cq.DZ s r x sc]
   cases h2:Nat.beq r' x with
   |true =>
    have:r'=x:=Nat.eq_of_beq_eq_true h2
    subst this
    have dk:r'≠r:=by intro e;subst e;simp at hb
    simp[dk]
   |false=>simp
def cq.set(s:cq)(r:Nat)(sc:SC):cq:=bif Nat.blt r 999999 then cq.Mz s r sc else s
theorem cq.rL(s:cq)(r x:Nat)(sc:SC):(cq.set s r sc).get x=if x=r∧r<999999 then (s.get x).map (fun _=>sc) else s.get x:=by
 unfold cq.set
 by_cases hr:r<999999
 ·rw[show Nat.blt r 999999=true from Nat.ble_eq_true_of_le hr]
  simp only[cond_true,hr,and_true]
  rcases KB x with h|rfl|⟨j,rfl⟩
  ·rw[cq.qZ h,cq.qZ h,cq.DZ]
  ·rw[cq.mL,cq.mL];simp
  ·rw[cq.rJ,cq.rJ,if_neg (by unfold hc;omega)]
   unfold cq.hp
   rw[cq.DZ,if_neg (by omega)]
 ·rw[show Nat.blt r 999999=false from Bool.eq_false_iff.2 (fun h=>hr (Nat.le_of_ble_eq_true h))]
  simp[hr]
theorem ml{s:cq}{r x:Nat}{sc:SC} : ee (cq.set s r sc) x↔ee s x:=by
 unfold ee
 rw[cq.rL]
 split<;>simp
theorem yq(w:World)(g k:Nat)(cs YP:Array Value)(t:TypeId)(fr:Nat×Nat)(hg:w.heap[g]? = some (.cells YP t fr))(hs:cs.size=YP.size):(w.setRow g cs).shape? k=w.shape? k:=by
 by_cases hk:k=g
 ·subst hk
  unfold World.shape?
  rw[setRow_heap w k YP cs t fr hg,hg]
  simp[hs]
 ·exact yg (setRow_other w g k cs hk)
theorem iA.Uy (hr : iA Γ s a w β I) {r b : Nat} {sc sc' : SC} {D0 : cq} (Sx : ∀ x, D0.get x = if x = r then (s.bp.get x).map (fun _ => sc') else s.bp.get x) (we : s.bp.get r = some sc) (hb : β r = some b) {arr zQ : Array Value} {el : TypeId} (hg : w.heap[b]? = some (.cells arr el (0, 0)))
    (rD : zQ.size = arr.size) (xA : ∀ (j : Nat) e, sc'.zw[j]? = some e → ∃ u, zQ[j]? = some u ∧ u.oneCell' = true ∧ RE β (ee s.bp) I w e u) :
    iA Γ ⟨s.env, D0⟩ a (w.setRow b zQ) β I := by
  have Sr : ∀ {x}, ee D0 x ↔ ee s.bp x := fun {x} => by
    unfold ee; rw [Sx]; split <;> simp
  have DW : ee s.bp r := by unfold ee; rw [we]; rfl
  have O5 : ¬ I b := ((hr.bp.1 r sc we).2 b hb).2
  have hw : ∀ b' o, I b' → (w.setRow b zQ).cell? ⟨b', o, none⟩ = w.cell? ⟨b', o, none⟩ := fun b' o hI => mN (setRow_other w b b' zQ (fun e => O5 (e ▸ hI))) o
  have IP : ∀ k, (w.setRow b zQ).shape? k = w.shape? k := fun k => yq w b k zQ arr el (0, 0) hg rD
  have CF : (w.setRow b zQ).heap.size = w.heap.size := by simp [World.setRow]
  have hL : ∀ x, ee s.bp x → ee D0 x := fun x hx => Sr.2 hx
  refine ⟨fun t e he => (hr.env t e he).mono (fun _ _ => rfl) hL (fun _ h => h) hw (fun _ b' _ _ => IP b'), ⟨fun x scx hx => ?_, fun x y b' hx hy => hr.bp.2 x y b' (Sr.1 hx) (Sr.1 hy)⟩,
    fun x hx => hr.par x (Sr.1 hx), fun x b' hx => hr.new x b' (Sr.1 hx), fun b' hI => by rw [CF]; exact hr.ib b' hI, fun b' hI => ?_, ?_, hr.size, hr.defers⟩
  · rw [Sx] at hx
    by_cases Ii : x = r
    · subst Ii
      rw [if_pos rfl, we] at hx
      simp only [Option.map_some, Option.some.injEq] at hx
      subst hx
      refine ⟨.inr ⟨b, zQ, el, hb, setRow_heap w b arr zQ el (0, 0) hg, fun j e he => ?_⟩, fun b' kI => by rw [CF]; exact (hr.bp.1 x sc we).2 b' kI⟩
      obtain ⟨u, g1, g2, g3⟩ := xA j e he
      exact ⟨u, g1, g2, g3.mono (fun _ _ => rfl) hL (fun _ h => h) hw (fun _ b' _ _ => IP b')⟩
    · rw [if_neg Ii] at hx
      obtain ⟨g1, g2⟩ := hr.bp.1 x scx hx
      have Ma : ee s.bp x := by unfold ee; rw [hx]; rfl
      refine ⟨g1.mono rfl (fun b' kI => setRow_other w b b' zQ (fun e => Ii (hr.bp.2 x r b Ma DW (e ▸ kI) hb))) (fun _ _ => rfl) hL (fun _ h => h) hw (fun _ b' _ _ => IP b'), fun b' kI => by rw [CF]; exact g2 b' kI⟩
  · rcases hr.ii b' hI with h1 | h1
    · exact .inl h1
    · exact .inr (h1.imp (fun h1 => ⟨h1.1, by rw [CF]; exact h1.2⟩) id)
  · refine ⟨hr.aP.os, hr.aP.tape, hr.aP.output, by rw [CF]; exact hr.aP.size, fun k hk hM => ?_, fun k hk => (IP k).trans (hr.aP.shape k hk), hr.aP.drawn⟩
    refine (setRow_other w b k zQ (fun e => ?_)).trans (hr.aP.block k hk hM)
    subst e
    by_cases hsr : ee Γ.sin r ∧ ¬ gv r
    · exact hM ⟨r, hsr.1, by rw [← hr.par r DW hsr.1 hsr.2]; exact hb⟩
    · exact hM ((hr.new r k DW (by by_cases h : ee Γ.sin r; · exact .inr (Classical.byContradiction fun h2 => hsr ⟨h, h2⟩)
                                   · exact .inl h) hb).m hk)
theorem iA.write(hr:iA Γ s a w β I){r b:Nat}{sc sc':SC}(Qg:r<999999)(we:s.bp.get r=some sc)(hb:β r=some b){arr zQ:Array Value}{el:TypeId}(hg:w.heap[b]? = some (.cells arr el (0,0)))
  (rD:zQ.size=arr.size) (xA:∀(j:Nat) e,sc'.zw[j]? = some e→∃u,zQ[j]? = some u∧u.oneCell'=true∧RE β (ee s.bp) I w e u) :
  iA Γ ⟨s.env,cq.set s.bp r sc'⟩ a (w.setRow b zQ) β I :=
 hr.Uy (fun x=>by rw[cq.rL];simp[Qg]) we hb hg rD xA
def xD(T:qU)(o:Oper)(h:Hint)(s:St):Option (St×List Prop) :=
 match o.op,o.dst with
 |.store t x y,none=>match T.get t,iq s.env x,iq s.env y with
  |some d,some (.ptr r off),some e=>match yl e,s.bp.get r with
   |some cs,some sc=>bif Nat.beq cs.length d.size&&Nat.blt r 999999 then
     match h with
     |.cells sc'=>some (⟨s.env,cq.set s.bp r sc'⟩,[off+cs.length≤sc.zw.length,j7 sc.zw off cs=sc'.zw])
     |_=>match sc with
      |.lit cells=>bif Nat.ble (off+cs.length) cells.length then some (⟨s.env,cq.set s.bp r (.lit (j7 cells off cs))⟩,[]) else none
      |_=>none
    else none
   |_,_=>none
  |_,_,_=>none
 |_,_=>none
theorem KP{e:EV}{cs:List EV}{v:Value}{L:Nat→Prop}(he:RE β L I w e v)(h:yl e=some cs):v.cells.size=cs.length:=by
 cases e with
 |pv p =>
  unfold yl at h
  cases ht:p.Bk with
  |true=>simp[ht] at h
  |false =>
   simp[ht] at h
   subst h
   have hr:eh I w p.cells v.cells.toList:=Rd.cells he (fun vs e=>by subst e;simp[PV.Bk] at ht)
   have:=hr.1
   simpa using this.symm
 |ptr r off=>injection h with h;subst h;obtain⟨_,b,_,rfl⟩:=he;rfl
 |row r off len sz =>
  injection h with h;subst h
  obtain⟨_,⟨_,_,rfl⟩|⟨b,c,_,rfl,_⟩⟩:=he<;>rfl
 |xx r len sz =>
  injection h with h;subst h
  obtain⟨_,⟨_,_,rfl⟩|⟨b,c,_,rfl,_⟩⟩:=he<;>rfl
 |u0 r off=>injection h with h;subst h;obtain⟨_,b,_,rfl⟩:=he;rfl
 |wi c=>injection h with h;subst h;obtain⟨b,o,rfl,_⟩:=he;rfl
 |dead=>cases h
 |wj _ _ _ _ _=>cases h
 |H6 _ _=>cases h
theorem RB.block{L:Nat→Prop}{r b:Nat}{cells:List EV}(h:RB β L I w r cells)(hb:β r=some b) :
  ∃arr el,w.heap[b]? = some (.cells arr el (0,0))∧cells.length≤arr.size∧∀(j:Nat) e,cells[j]? = some e→∃u,arr[j]? = some u∧u.oneCell'=true∧RE β L I w e u:=by
 rcases h with ⟨h1,h2⟩|⟨b',arr,el,kI,h1,h2⟩
 ·rw[h1] at hb;cases hb
 ·rw[kI] at hb;injection hb with hb;subst hb
  refine⟨arr,el,h1,?_,h2⟩
  rcases Nat.eq_zero_or_pos cells.length with h0|h0
  ·omega
  ·obtain⟨u,h3,_⟩:=h2 (cells.length-1) _ (List.getElem?_eq_getElem (by omega))
   have:=(Array.getElem?_eq_some_iff.1 h3).1
   omega
theorem zy(hT:uj P T)(hr:Rel Γ s a w)(bz:xD T o h s=some (s',ob))(fK:je ob){K:Act→World→Prop}{Q:Exit→Act→World→Prop}
  (hk:∀a' w',Rel Γ s' a' w'→K a' w'):o.wp P a w K Q:=by
 obtain⟨β,I,hr⟩:=hr
 unfold xD at bz
 split at bz
 ·rename_i t x y Bc KQ
  split at bz
  ·rename_i d r off e hd hx hy
   split at bz
   ·rename_i cs sc Gg we
    cases KJ:(Nat.beq cs.length d.size&&Nat.blt r 999999) with
    |false=>simp[KJ] at bz
    |true =>
     simp only[KJ,cond_true] at bz
     rw[Bool.and_eq_true] at KJ
     have hl:=KJ.1
     have Qg:r<999999:=Nat.le_of_ble_eq_true KJ.2
     have Sy:cs.length=d.size:=Nat.eq_of_beq_eq_true hl
     obtain⟨DW,b,hb,hv⟩:=hr.Ih x _ hx
     have NW:=hr.Ih y _ hy
     obtain⟨arr,el,hg,TQ,u9⟩:=(hr.bp.1 r sc we).1.block hb
     have Gm:=KP NW Gg
     have main:∀sc':SC,off+cs.length≤sc.zw.length→j7 sc.zw off cs=sc'.zw→(∀a' w',Rel Γ ⟨s.env,cq.set s.bp r sc'⟩ a' w'→K a' w')→o.wp P a w K Q:=by
      intro sc' hle R9 JB
      have h1:∀u∈(a.eval y).cells.toList,u.oneCell'=true:=by
       intro u hu
       obtain⟨j,hj⟩:=List.mem_iff_getElem?.1 hu
       have Sa:j<cs.length:=by
        have:=(List.getElem?_eq_some_iff.1 hj).1
        simp at this;omega
       obtain⟨u',g1,g2,_⟩:=xe NW Gg j _ (List.getElem?_eq_getElem Sa)
       have:u'=u:=by simpa[g1] using hj
       subst this;exact g2
      have SA:=run_storeCells_at P b off el (a.eval y).cells.toList 0 arr w hg (by simp;omega) h1
      simp only[Nat.add_zero] at SA
      have hlen:(arr.toList.take off++(a.eval y).cells.toList++arr.toList.drop (off+(a.eval y).cells.toList.length)).toArray.size=arr.size:=by
       simp;omega
      have qp:=hr.write (sc':=sc') Qg we hb hg hlen (fun j e' mJ=>by
       rw[←R9,qY _ _ _ hle] at mJ
       have Bb:(arr.toList.take off++(a.eval y).cells.toList++arr.toList.drop (off+(a.eval y).cells.toList.length)).toArray[j]? = if off≤j∧j<off+cs.length then (a.eval y).cells[j-off]? else arr[j]? := by
        have:=qY arr.toList off (a.eval y).cells.toList (by simp;omega) j
        unfold j7 at this
        rw[←List.append_assoc] at this
        simp only[List.getElem?_toArray]
        rw[this]
        simp only[Array.length_toList,Gm,Array.getElem?_toList]
       rw[Bb]
       by_cases hj:off≤j∧j<off+cs.length
       ·rw[if_pos hj] at mJ ⊢
        exact xe NW Gg _ e' mJ
       ·rw[if_neg hj] at mJ ⊢
        exact u9 j e' mJ)
      unfold Oper.wp execOp
      simp only[Bc,Instr.storeAt]
      rw[hv]
      simp only[Instr.sureAddr,Sem.run_bind,Sem.run_pure,Result.andThen_ok,storeVar,(hT t d hd).run_sizeOf w]
      rw[if_neg (by simp;omega)]
      rw[SA]
      simp only[Result.andThen_ok]
      show K (a.put o.dst undef) _
      rw[KQ]
      exact JB _ _ ⟨β,I,qp⟩
     split at bz
     ·rename_i sc'
      injection bz with bz;injection bz with h1 h2
      subst h1;subst h2
      obtain⟨g1,g2⟩:=fK.cons
      exact main sc' g1 g2 hk
     ·split at bz
      ·rename_i cells
       cases hle:Nat.ble (off+cs.length) cells.length with
       |false=>simp[hle] at bz
       |true =>
        simp only[hle,cond_true] at bz
        injection bz with bz;injection bz with h1 h2
        subst h1;subst h2
        exact main _ (Nat.le_of_ble_eq_true hle) rfl hk
      ·cases bz
   ·cases bz
  ·cases bz
 ·cases bz
def SB(s s':St):Prop:=(∀t,s'.env.get t=s.env.get t)∧∀r,s'.bp.get r=s.bp.get r
theorem Rel.SD(hl:SB s s')(hr:Rel Γ s a w):Rel Γ s' a w:=by
 obtain⟨β,I,hr⟩:=hr
 have hd:∀r,ee s'.bp r↔ee s.bp r:=fun r=>by unfold ee;rw[hl.2 r]
 have AI:∀r,ee s.bp r→ee s'.bp r:=fun r h=>(hd r).2 h
 refine⟨β,I,fun t e he=>(hr.env t e (by rw[←hl.1 t];exact he)).mono (fun _ _=>rfl) AI (fun _ h=>h) (fun _ _ _=>rfl) (fun _ _ _ _=>rfl),
  ⟨fun r sc hx => ?_,fun x y b hx hy=>hr.bp.2 x y b ((hd x).1 hx) ((hd y).1 hy)⟩,fun x hx=>hr.par x ((hd x).1 hx),fun x b hx=>hr.new x b ((hd x).1 hx),hr.ib,hr.ii,hr.aP,hr.size,hr.defers⟩
 obtain⟨g1,g2⟩:=hr.bp.1 r sc (by rw[←hl.2 r];exact hx)
 exact⟨g1.mono rfl (fun _ _=>rfl) (fun _ _=>rfl) AI (fun _ h=>h) (fun _ _ _=>rfl) (fun _ _ _ _=>rfl),g2⟩
end
end Go.Proofs.YtllmkadmohkbfaaGreatDoor.Sym
