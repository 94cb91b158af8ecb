/- Lemmas for the statements of this seat. -/
import Derived.Test.YtfjfekodeplcoaaGreatWSymJ
namespace Go.Proofs.YtfjfekodeplcoaaGreat.Sym
open Go Go.RowKit
def mu (P : Program) (f : FuncId) : Prop := ∃ fn, P.funcs[f]? = some fn ∧ fn.body.isSome = true ∧ (fn.name == "runtime.NumGoroutine") = false
def pJ(sin sout:aN)(r:EV)(β:Nat→Option Nat)(I:Nat→Prop)(w:World)(e:Ending)(w':World):Prop :=
 ∃v β',e = .returned v∧(∀x,bk sin x→¬gv x→β' x=β x)∧gD (fun b=>∃x,bk sin x∧β x=some b) w w' ∧
  tZ β' (fun b=>I b∨((fresh w w' b∨BV sin β b)∧∀x,bk sout x→β' x≠some b)) w' sout ∧
  RE β' (bk sout) (fun b=>I b∨((fresh w w' b∨BV sin β b)∧∀x,bk sout x→β' x≠some b)) w' r v ∧
  (∀x b,bk sout x→¬bk sin x→β' x=some b→fresh w w' b∨BV sin β b)
def aw(P:Program)(f:FuncId)(args:List EV)(sin:aN)(r:EV)(sout:aN):Prop :=
 mu P f∧∀(I:Nat→Prop) (w:World) (β:Nat→Option Nat) (vs:Array Value),(∀b,I b→b<w.heap.size)→tZ β I w sin→args.length=vs.size →
  (∀(j:Nat) e v,args[j]? = some e→vs[j]? = some v→RE β (bk sin) I w e v)→Calls P f vs w (pJ sin sout r β I w)
def fK(P:Program)(f:FuncId)(args:List PV)(r:PV):Prop:=aw P f (args.map EV.pv) [] (.pv r) []
def jH(n:Nat):Option Nat→Bool
 |none=>true
 |some d=>Nat.blt d n
theorem eb{n:Nat}{dst:Option Nat}(h:jH n dst=true):∀d,dst=some d→d<n:=by
 intro d hd;subst hd
 exact Nat.le_of_ble_eq_true h
def qo(op:Op)(dst:Option Nat)(s:St):St :=
 match op,dst with
 |.alloc _,some d=>kill d s
 |.box _ _,some d=>kill d s
 |.buildSlice _ _ _,some d=>kill d s
 |.makeSlice _ _ _,some d=>kill d s
 |_,_=>s
def u9(s:St)(dst:Option Nat)(res:mW):Option (St×List Prop) :=
 match res.new with
 |none=>some (⟨nj s.env dst res.val,s.sto⟩,res.ob)
 |some sc=>match dst with
  |some d=>match s.sto.get d with
   |none=>some (⟨nj s.env (some d) res.val,(d,sc)::s.sto⟩,res.ob)
   |some _=>none
  |none=>none
def wW(T:jZ)(n:Nat)(o:Oper)(h:Hint)(s:St):Option (St×List Prop) :=
 bif jH n o.dst then
  match b9 T (qo o.op o.dst s).sto o.dst o.op (c9 (qo o.op o.dst s).env) h with
  |some res=>u9 (qo o.op o.dst s) o.dst res
  |none=>none
 else none
section
variable {P:Program} {T:jZ} {Γ:Ctx} {s s':St} {a:Act} {w:World} {β:Nat→Option Nat} {I:Nat→Prop} {o:Oper} {h:Hint} {ob:List Prop}
theorem cO.qo(hr:cO Γ s a w β I)(op:Op)(dst:Option Nat):cO Γ (qo op dst s) a w β I:=by
 unfold Sym.qo
 split<;>first|exact hr.kill _|exact hr
theorem Cd(hs:∀r,bk Γ.sin r→Γ.n≤r)(hr:cO Γ s a w β I){dst:Option Nat}(hd:jH Γ.n dst=true){res:mW}{v:Value}{w':World}(hp:ta β (bk s.sto) I w dst res v w')
  (aP:u9 s dst res=some (s',ob)):Rel Γ s' (a.put dst v) w'∧ob=res.ob:=by
 obtain⟨val,new,Pf⟩:=res
 obtain⟨hb,hp⟩:=hp
 unfold u9 at aP
 cases new with
 |none =>
  injection aP with aP
  injection aP with h1 h2
  subst h1;subst h2
  refine⟨⟨β,_,(hr.grow hb (fun b hI => .inl hI) (fun b hI=>hI)).put (eb hd) hp⟩,rfl⟩
 |some sc =>
  obtain⟨d,b,rfl,LH,hp⟩:=hp
  simp only at aP
  split at aP
  ·rename_i sM
   injection aP with aP
   injection aP with h1 h2
   subst h1;subst h2
   have sN:¬bk s.sto d:=by unfold bk;rw[sM];simp
   have sC:=eb hd d rfl
   have Ce:¬bk Γ.sin d:=fun h=>by have:=hs d h;omega
   obtain⟨BX,z7⟩:=hp sN
   have hg:cO Γ s a w' β (fun x=>I x∨(fresh w w' x∧x≠b)):=hr.grow hb (fun b hI => .inl hI) (fun x hx=>hx.elim .inl fun h => .inr h.1)
   have oD:=hg.site (d:=d) (sc:=sc) (Nat.lt_of_lt_of_le sC Γ.small) sN Ce (β':=JB β d b) (fun r iN=>by simp[JB,iN]) (fun b' cX=>by
    have:b'=b:=by simpa[JB] using cX.symm
    subst this
    refine⟨LH.2,fun hx => ?_,.inl (Nat.le_trans hr.aH.size LH.1),fun r u7 e => ?_⟩
    ·rcases hx with hx|hx
     ·have:=hr.ib _ hx;have:=LH.1;omega
     ·exact hx.2 rfl
    ·have:=hr.lb r b' u7 e;have:=LH.1;omega) BX
   exact⟨⟨_,_,oD.put (dst:=some d) (fun d' KT=>by injection KT with KT;omega) (z7.mono (fun _ _=>rfl) (fun r hr=>(dy (Nat.lt_of_lt_of_le sC Γ.small)).2 (hr.elim .inr .inl)) (fun _ h=>h) (fun _ _ _=>rfl) (fun _ _ _ _=>rfl))⟩,rfl⟩
  ·cases aP
theorem sO(hT:mN P T)(hs:∀r,bk Γ.sin r→Γ.n≤r)(hr:Rel Γ s a w)(aP:wW T Γ.n o h s=some (s',ob))(cd:dw ob){K:Act→World→Prop}{Q:Exit→Act→World→Prop}
  (hk:∀a' w',Rel Γ s' a' w'→K a' w'):o.wp P a w K Q:=by
 obtain⟨β,I,hr⟩:=hr
 unfold wW at aP
 cases hd:jH Γ.n o.dst with
 |false=>simp[hd] at aP
 |true =>
  simp only[hd,cond_true] at aP
  have AI:=hr.qo o.op o.dst
  split at aP
  ·rename_i res nQ
   have LI:ob=res.ob:=by
    unfold u9 at aP
    split at aP
    ·injection aP with aP;injection aP with _ h2;exact h2.symm
    ·split at aP
     ·split at aP
      ·injection aP with aP;injection aP with _ h2;exact h2.symm
      ·cases aP
     ·cases aP
   rw[LI] at cd
   obtain⟨v,w',ax,xD⟩:=vP hT AI.pre nQ cd
   have:=(Cd hs AI hd xD aP).1
   unfold Oper.wp
   rw[ax]
   exact hk _ _ this
  ·cases aP
def aN.DU:aN→Nat→SC→aN
 |[],_,_=>[]
 |(r',c)::s,r,sc=>bif Nat.beq r' r then (r',sc)::s else (r',c)::aN.DU s r sc
theorem aN.va:∀(s:aN) (r x:Nat) (sc:SC),(aN.DU s r sc).dX x=if x=r then (s.dX x).map (fun _=>sc) else s.dX x
 |[],r,x,sc=>by simp[aN.DU,aN.dX]
 |(r',c)::s,r,x,sc=>by
  simp only[aN.DU]
  cases hb:Nat.beq r' r with
  |true =>
   have:r'=r:=Nat.eq_of_beq_eq_true hb
   subst this
   simp only[cond_true,aN.dX]
   by_cases hx:x=r'
   ·subst hx;simp
   ·have h2:Nat.beq r' x=false:=fJ (Ne.symm hx)
    simp[hx,h2]
  |false =>
   simp only[cond_false,aN.dX,aN.va s r x sc]
   cases h2:Nat.beq r' x with
   |true =>
    have:r'=x:=Nat.eq_of_beq_eq_true h2
    subst this
    have iN:r'≠r:=by intro e;subst e;simp at hb
    simp[iN]
   |false=>simp
def aN.set(s:aN)(r:Nat)(sc:SC):aN:=bif Nat.blt r 999999 then aN.DU s r sc else s
theorem aN.kV(s:aN)(r x:Nat)(sc:SC):(aN.set s r sc).get x=if x=r∧r<999999 then (s.get x).map (fun _=>sc) else s.get x:=by
 unfold aN.set
 by_cases hr:r<999999
 ·rw[show Nat.blt r 999999=true from Nat.ble_eq_true_of_le hr]
  simp only[cond_true,hr,and_true]
  rcases B1 x with h|rfl|⟨j,rfl⟩
  ·rw[aN.kf h,aN.kf h,aN.va]
  ·rw[aN.eY,aN.eY];simp
  ·rw[aN.kS,aN.kS,if_neg (by unfold hc;omega)]
   unfold aN.hp
   rw[aN.va,if_neg (by omega)]
 ·rw[show Nat.blt r 999999=false from Bool.eq_false_iff.2 (fun h=>hr (Nat.le_of_ble_eq_true h))]
  simp[hr]
theorem gm{s:aN}{r x:Nat}{sc:SC} : bk (aN.set s r sc) x↔bk s x:=by
 unfold bk
 rw[aN.kV]
 split<;>simp
theorem qp(w:World)(g k:Nat)(cs wX:Array Value)(t:TypeId)(fr:Nat×Nat)(hg:w.heap[g]? = some (.cells wX t fr))(hs:cs.size=wX.size):(w.setRow g cs).shape? k=w.shape? k:=by
 by_cases hk:k=g
 ·subst hk
  unfold World.shape?
  rw[setRow_heap w k wX cs t fr hg,hg]
  simp[hs]
 ·exact nO (setRow_other w g k cs hk)
theorem cO.LJ (hr : cO Γ s a w β I) {r b : Nat} {sc sc' : SC} {sto' : aN} (DV : ∀ x, sto'.get x = if x = r then (s.sto.get x).map (fun _ => sc') else s.sto.get x) (lO : s.sto.get r = some sc) (hb : β r = some b) {arr rf : Array Value} {el : TypeId} (hg : w.heap[b]? = some (.cells arr el (0, 0)))
    (jo : rf.size = arr.size) (pF : ∀ (j : Nat) e, sc'.pE[j]? = some e → ∃ u, rf[j]? = some u ∧ u.oneCell' = true ∧ RE β (bk s.sto) I w e u) :
    cO Γ ⟨s.env, sto'⟩ a (w.setRow b rf) β I := by
  have JD : ∀ {x}, bk sto' x ↔ bk s.sto x := fun {x} => by
    unfold bk; rw [DV]; split <;> simp
  have u7 : bk s.sto r := by unfold bk; rw [lO]; rfl
  have FX : ¬ I b := ((hr.sto.1 r sc lO).2 b hb).2
  have hw : ∀ b' o, I b' → (w.setRow b rf).cell? ⟨b', o, none⟩ = w.cell? ⟨b', o, none⟩ := fun b' o hI => eX (setRow_other w b b' rf (fun e => FX (e ▸ hI))) o
  have xF : ∀ k, (w.setRow b rf).shape? k = w.shape? k := fun k => qp w b k rf arr el (0, 0) hg jo
  have pI : (w.setRow b rf).heap.size = w.heap.size := by simp [World.setRow]
  have hL : ∀ x, bk s.sto x → bk sto' x := fun x hx => JD.2 hx
  refine ⟨fun t e he => (hr.env t e he).mono (fun _ _ => rfl) hL (fun _ h => h) hw (fun _ b' _ _ => xF b'), ⟨fun x Tk hx => ?_, fun x y b' hx hy => hr.sto.2 x y b' (JD.1 hx) (JD.1 hy)⟩,
    fun x hx => hr.par x (JD.1 hx), fun x b' hx => hr.new x b' (JD.1 hx), fun b' hI => by rw [pI]; exact hr.ib b' hI, fun b' hI => ?_, ?_, hr.size, hr.defers⟩
  · rw [DV] at hx
    by_cases zy : x = r
    · subst zy
      rw [if_pos rfl, lO] at hx
      simp only [Option.map_some, Option.some.injEq] at hx
      subst hx
      refine ⟨.inr ⟨b, rf, el, hb, setRow_heap w b arr rf el (0, 0) hg, fun j e he => ?_⟩, fun b' cX => by rw [pI]; exact (hr.sto.1 x sc lO).2 b' cX⟩
      obtain ⟨u, g1, g2, g3⟩ := pF j e he
      exact ⟨u, g1, g2, g3.mono (fun _ _ => rfl) hL (fun _ h => h) hw (fun _ b' _ _ => xF b')⟩
    · rw [if_neg zy] at hx
      obtain ⟨g1, g2⟩ := hr.sto.1 x Tk hx
      have wY : bk s.sto x := by unfold bk; rw [hx]; rfl
      refine ⟨g1.mono rfl (fun b' cX => setRow_other w b b' rf (fun e => zy (hr.sto.2 x r b wY u7 (e ▸ cX) hb))) (fun _ _ => rfl) hL (fun _ h => h) hw (fun _ b' _ _ => xF b'), fun b' cX => by rw [pI]; exact g2 b' cX⟩
  · rcases hr.ii b' hI with h1 | h1
    · exact .inl h1
    · exact .inr (h1.imp (fun h1 => ⟨h1.1, by rw [pI]; exact h1.2⟩) id)
  · refine ⟨hr.aH.os, hr.aH.tape, hr.aH.output, by rw [pI]; exact hr.aH.size, fun k hk hM => ?_, fun k hk => (xF k).trans (hr.aH.shape k hk), hr.aH.drawn⟩
    refine (setRow_other w b k rf (fun e => ?_)).trans (hr.aH.block k hk hM)
    subst e
    by_cases hsr : bk Γ.sin r ∧ ¬ gv r
    · exact hM ⟨r, hsr.1, by rw [← hr.par r u7 hsr.1 hsr.2]; exact hb⟩
    · exact hM ((hr.new r k u7 (by by_cases h : bk Γ.sin r; · exact .inr (Classical.byContradiction fun h2 => hsr ⟨h, h2⟩)
                                   · exact .inl h) hb).m hk)
theorem cO.write(hr:cO Γ s a w β I){r b:Nat}{sc sc':SC}(Hc:r<999999)(lO:s.sto.get r=some sc)(hb:β r=some b){arr rf:Array Value}{el:TypeId}(hg:w.heap[b]? = some (.cells arr el (0,0)))
  (jo:rf.size=arr.size) (pF:∀(j:Nat) e,sc'.pE[j]? = some e→∃u,rf[j]? = some u∧u.oneCell'=true∧RE β (bk s.sto) I w e u) :
  cO Γ ⟨s.env,aN.set s.sto r sc'⟩ a (w.setRow b rf) β I :=
 hr.LJ (fun x=>by rw[aN.kV];simp[Hc]) lO hb hg jo pF
def pK(T:jZ)(o:Oper)(h:Hint)(s:St):Option (St×List Prop) :=
 match o.op,o.dst with
 |.store t x y,none=>match T.get t,c9 s.env x,c9 s.env y with
  |some d,some (.ptr r off),some e=>match ml e,s.sto.get r with
   |some cs,some sc=>bif Nat.beq cs.length d.size&&Nat.blt r 999999 then
     match h with
     |.cells sc'=>some (⟨s.env,aN.set s.sto r sc'⟩,[off+cs.length≤sc.pE.length,cZ sc.pE off cs=sc'.pE])
     |_=>match sc with
      |.lit cells=>bif Nat.ble (off+cs.length) cells.length then some (⟨s.env,aN.set s.sto r (.lit (cZ cells off cs))⟩,[]) else none
      |_=>none
    else none
   |_,_=>none
  |_,_,_=>none
 |_,_=>none
theorem Cf{e:EV}{cs:List EV}{v:Value}{L:Nat→Prop}(he:RE β L I w e v)(h:ml e=some cs):v.cells.size=cs.length:=by
 cases e with
 |pv p =>
  unfold ml at h
  cases ht:p.ra with
  |true=>simp[ht] at h
  |false =>
   simp[ht] at h
   subst h
   have hr:bJ I w p.cells v.cells.toList:=Rd.cells he (fun vs e=>by subst e;simp[PV.ra] at ht)
   have:=hr.1
   simpa using this.symm
 |ptr r off=>injection h with h;subst h;obtain⟨_,b,_,rfl⟩:=he;rfl
 |row r off len sz =>
  injection h with h;subst h
  obtain⟨_,⟨_,_,rfl⟩|⟨b,c,_,rfl,_⟩⟩:=he<;>rfl
 |ox r len sz =>
  injection h with h;subst h
  obtain⟨_,⟨_,_,rfl⟩|⟨b,c,_,rfl,_⟩⟩:=he<;>rfl
 |mM r off=>injection h with h;subst h;obtain⟨_,b,_,rfl⟩:=he;rfl
 |nh c=>injection h with h;subst h;obtain⟨b,o,rfl,_⟩:=he;rfl
 |dead=>cases h
 |ni _ _ _ _ _=>cases h
 |lX _ _=>cases h
 |gj fs =>
  injection h with h;subst h
  obtain⟨us,rfl,g2,_⟩:=he
  rw[List.length_map]
  exact g2
theorem RB.block{L:Nat→Prop}{r b:Nat}{cells:List EV}(h:RB β L I w r cells)(hb:β r=some b) :
  ∃arr el,w.heap[b]? = some (.cells arr el (0,0))∧cells.length≤arr.size∧∀(j:Nat) e,cells[j]? = some e→∃u,arr[j]? = some u∧u.oneCell'=true∧RE β L I w e u:=by
 rcases h with ⟨h1,h2⟩|⟨b',arr,el,cX,h1,h2⟩
 ·rw[h1] at hb;cases hb
 ·rw[cX] at hb;injection hb with hb;subst hb
  refine⟨arr,el,h1,?_,h2⟩
  rcases Nat.eq_zero_or_pos cells.length with h0|h0
  ·omega
  ·obtain⟨u,h3,_⟩:=h2 (cells.length-1) _ (List.getElem?_eq_getElem (by omega))
   have:=(Array.getElem?_eq_some_iff.1 h3).1
   omega
theorem qU(hT:mN P T)(hr:Rel Γ s a w)(aP:pK T o h s=some (s',ob))(cd:dw ob){K:Act→World→Prop}{Q:Exit→Act→World→Prop}
  (hk:∀a' w',Rel Γ s' a' w'→K a' w'):o.wp P a w K Q:=by
 obtain⟨β,I,hr⟩:=hr
 unfold pK at aP
 split at aP
 ·rename_i t x y rh Cg
  split at aP
  ·rename_i d r off e hd hx hy
   split at aP
   ·rename_i cs sc tQ lO
    cases Ca:(Nat.beq cs.length d.size&&Nat.blt r 999999) with
    |false=>simp[Ca] at aP
    |true =>
     simp only[Ca,cond_true] at aP
     rw[Bool.and_eq_true] at Ca
     have hl:=Ca.1
     have Hc:r<999999:=Nat.le_of_ble_eq_true Ca.2
     have GD:cs.length=d.size:=Nat.eq_of_beq_eq_true hl
     obtain⟨u7,b,hb,hv⟩:=hr.BW x _ hx
     have ET:=hr.BW y _ hy
     obtain⟨arr,el,hg,KU,nS⟩:=(hr.sto.1 r sc lO).1.block hb
     have xI:=Cf ET tQ
     have main:∀sc':SC,off+cs.length≤sc.pE.length→cZ sc.pE off cs=sc'.pE→(∀a' w',Rel Γ ⟨s.env,aN.set s.sto r sc'⟩ a' w'→K a' w')→o.wp P a w K Q:=by
      intro sc' hle FN wZ
      have h1:∀u∈(a.eval y).cells.toList,u.oneCell'=true:=by
       intro u hu
       obtain⟨j,hj⟩:=List.mem_iff_getElem?.1 hu
       have DW:j<cs.length:=by
        have:=(List.getElem?_eq_some_iff.1 hj).1
        simp at this;omega
       obtain⟨u',g1,g2,_⟩:=mm ET tQ j _ (List.getElem?_eq_getElem DW)
       have:u'=u:=by simpa[g1] using hj
       subst this;exact g2
      have JI:=run_storeCells_at P b off el (a.eval y).cells.toList 0 arr w hg (by simp;omega) h1
      simp only[Nat.add_zero] at JI
      have hlen:(arr.toList.take off++(a.eval y).cells.toList++arr.toList.drop (off+(a.eval y).cells.toList.length)).toArray.size=arr.size:=by
       simp;omega
      have jL:=hr.write (sc':=sc') Hc lO hb hg hlen (fun j e' gr=>by
       rw[←FN,fI _ _ _ hle] at gr
       have lZ:(arr.toList.take off++(a.eval y).cells.toList++arr.toList.drop (off+(a.eval y).cells.toList.length)).toArray[j]? = if off≤j∧j<off+cs.length then (a.eval y).cells[j-off]? else arr[j]? := by
        have:=fI arr.toList off (a.eval y).cells.toList (by simp;omega) j
        unfold cZ at this
        rw[←List.append_assoc] at this
        simp only[List.getElem?_toArray]
        rw[this]
        simp only[Array.length_toList,xI,Array.getElem?_toList]
       rw[lZ]
       by_cases hj:off≤j∧j<off+cs.length
       ·rw[if_pos hj] at gr ⊢
        exact mm ET tQ _ e' gr
       ·rw[if_neg hj] at gr ⊢
        exact nS j e' gr)
      unfold Oper.wp execOp
      simp only[rh,Instr.storeAt]
      rw[hv]
      simp only[Instr.sureAddr,Sem.run_bind,Sem.run_pure,Result.andThen_ok,storeVar,(hT t d hd).run_sizeOf w]
      rw[if_neg (by simp;omega)]
      rw[JI]
      simp only[Result.andThen_ok]
      show K (a.put o.dst undef) _
      rw[Cg]
      exact wZ _ _ ⟨β,I,jL⟩
     split at aP
     ·rename_i sc'
      injection aP with aP;injection aP with h1 h2
      subst h1;subst h2
      obtain⟨g1,g2⟩:=cd.cons
      exact main sc' g1 g2 hk
     ·split at aP
      ·rename_i cells
       cases hle:Nat.ble (off+cs.length) cells.length with
       |false=>simp[hle] at aP
       |true =>
        simp only[hle,cond_true] at aP
        injection aP with aP;injection aP with h1 h2
        subst h1;subst h2
        exact main _ (Nat.le_of_ble_eq_true hle) rfl hk
      ·cases aP
   ·cases aP
  ·cases aP
 ·cases aP
def JJ(s s':St):Prop:=(∀t,s'.env.get t=s.env.get t)∧∀r,s'.sto.get r=s.sto.get r
theorem Rel.JK(hl:JJ s s')(hr:Rel Γ s a w):Rel Γ s' a w:=by
 obtain⟨β,I,hr⟩:=hr
 have hd:∀r,bk s'.sto r↔bk s.sto r:=fun r=>by unfold bk;rw[hl.2 r]
 have ri:∀r,bk s.sto r→bk s'.sto r:=fun r h=>(hd r).2 h
 refine⟨β,I,fun t e he=>(hr.env t e (by rw[←hl.1 t];exact he)).mono (fun _ _=>rfl) ri (fun _ h=>h) (fun _ _ _=>rfl) (fun _ _ _ _=>rfl),
  ⟨fun r sc hx => ?_,fun x y b hx hy=>hr.sto.2 x y b ((hd x).1 hx) ((hd y).1 hy)⟩,fun x hx=>hr.par x ((hd x).1 hx),fun x b hx=>hr.new x b ((hd x).1 hx),hr.ib,hr.ii,hr.aH,hr.size,hr.defers⟩
 obtain⟨g1,g2⟩:=hr.sto.1 r sc (by rw[←hl.2 r];exact hx)
 exact⟨g1.mono rfl (fun _ _=>rfl) (fun _ _=>rfl) ri (fun _ h=>h) (fun _ _ _=>rfl) (fun _ _ _ _=>rfl),g2⟩
end
end Go.Proofs.YtfjfekodeplcoaaGreat.Sym
