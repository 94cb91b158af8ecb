/- Lemmas for the statements of this seat. -/
import Derived.Test.YtfjfekodeplcoaaGreatWSymJ
namespace Go.Proofs.YtfjfekodeplcoaaGreat.Sym
open Go Go.RowKit
def mj (P : Program) (f : FuncId) : Prop := ∃ fn, P.funcs[f]? = some fn ∧ fn.body.isSome = true ∧ (fn.name == "runtime.NumGoroutine") = false
def pH(sin sout:aG)(r:EV)(β:Nat→Option Nat)(I:Nat→Prop)(w:World)(e:Ending)(w':World):Prop :=
 ∃v β',e = .returned v∧(∀x,aS sin x→¬gv x→β' x=β x)∧gS (fun b=>∃x,aS sin x∧β x=some b) w w' ∧
  tg β' (fun b=>I b∨((fresh w w' b∨xy sin β b)∧∀x,aS sout x→β' x≠some b)) w' sout ∧
  RE β' (aS sout) (fun b=>I b∨((fresh w w' b∨xy sin β b)∧∀x,aS sout x→β' x≠some b)) w' r v ∧
  (∀x b,aS sout x→¬aS sin x→β' x=some b→fresh w w' b∨xy sin β b)
def av(P:Program)(f:FuncId)(args:List EV)(sin:aG)(r:EV)(sout:aG):Prop :=
 mj P f∧∀(I:Nat→Prop) (w:World) (β:Nat→Option Nat) (vs:Array Value),(∀b,I b→b<w.heap.size)→tg β I w sin→args.length=vs.size →
  (∀(j:Nat) e v,args[j]? = some e→vs[j]? = some v→RE β (aS sin) I w e v)→ra sin β w→Calls P f vs w (pH sin sout r β I w)
def fG(P:Program)(f:FuncId)(args:List PV)(r:PV):Prop:=av P f (args.map EV.pv) [] (.pv r) []
def gp(n:Nat):Option Nat→Bool
 |none=>true
 |some d=>Nat.blt d n
theorem c9{n:Nat}{dst:Option Nat}(h:gp n dst=true):∀d,dst=some d→d<n:=by
 intro d hd;subst hd
 exact Nat.le_of_ble_eq_true h
def qn(op:Op)(dst:Option Nat)(s:St):St :=
 match op,dst with
 |.alloc _,some d=>kill d s
 |.box _ _,some d=>kill d s
 |.buildSlice _ _ _,some d=>kill d s
 |.makeSlice _ _ _,some d=>kill d s
 |_,_=>s
def rG(s:St)(dst:Option Nat)(res:mU):Option (St×List Prop) :=
 match res.new with
 |none=>some (⟨jg s.env dst res.val,s.sto⟩,res.ob)
 |some sc=>match dst with
  |some d=>match s.sto.get d with
   |none=>some (⟨jg s.env (some d) res.val,(d,sc)::s.sto⟩,res.ob)
   |some _=>none
  |none=>none
def sr(T:ja)(n:Nat)(o:Oper)(h:Hint)(s:St):Option (St×List Prop) :=
 bif gp n o.dst then
  match cr T (qn o.op o.dst s).sto o.dst o.op (cA (qn o.op o.dst s).env) h with
  |some res=>rG (qn o.op o.dst s) o.dst res
  |none=>none
 else none
section
variable {P:Program} {T:ja} {Γ:Ctx} {s s':St} {a:Act} {w:World} {β:Nat→Option Nat} {I:Nat→Prop} {o:Oper} {h:Hint} {ob:List Prop}
theorem cq.qn(hr:cq Γ s a w β I)(op:Op)(dst:Option Nat):cq Γ (qn op dst s) a w β I:=by
 unfold Sym.qn
 split<;>first|exact hr.kill _|exact hr
theorem uF(hs:∀r,aS Γ.sin r→Γ.n≤r)(hr:cq Γ s a w β I){dst:Option Nat}(hd:gp Γ.n dst=true){res:mU}{v:Value}{w':World}(hp:qi β (aS s.sto) I w dst res v w')
  (aD:rG s dst res=some (s',ob)):Rel Γ s' (a.put dst v) w'∧ob=res.ob:=by
 obtain⟨val,new,Qy⟩:=res
 obtain⟨hb,hp⟩:=hp
 unfold rG at aD
 cases new with
 |none =>
  injection aD with aD
  injection aD with h1 h2
  subst h1;subst h2
  refine⟨⟨β,_,(hr.grow hb (fun b hI => .inl hI) (fun b hI=>hI)).put (c9 hd) hp⟩,rfl⟩
 |some sc =>
  obtain⟨d,b,rfl,GN,hp⟩:=hp
  simp only at aD
  split at aD
  ·rename_i oB
   injection aD with aD
   injection aD with h1 h2
   subst h1;subst h2
   have rb:¬aS s.sto d:=by unfold aS;rw[oB];simp
   have j0:=c9 hd d rfl
   have Az:¬aS Γ.sin d:=fun h=>by have:=hs d h;omega
   obtain⟨xz,wR⟩:=hp rb
   have hg:cq Γ s a w' β (fun x=>I x∨(fresh w w' x∧x≠b)):=hr.grow hb (fun b hI => .inl hI) (fun x hx=>hx.elim .inl fun h => .inr h.1)
   have ji:=hg.site (d:=d) (sc:=sc) (Nat.lt_of_lt_of_le j0 Γ.small) rb Az (β':=Kq β d b) (fun r iO=>by simp[Kq,iO]) (fun b' cI=>by
    have:b'=b:=by simpa[Kq] using cI.symm
    subst this
    refine⟨GN.2,fun hx => ?_,.inl (Nat.le_trans hr.aN.size GN.1),fun r sq e => ?_⟩
    ·rcases hx with hx|hx
     ·have:=hr.ib _ hx;have:=GN.1;omega
     ·exact hx.2 rfl
    ·have:=hr.lb r b' sq e;have:=GN.1;omega) xz
   exact⟨⟨_,_,ji.put (dst:=some d) (fun d' Ee=>by injection Ee with Ee;omega) (wR.mono (fun _ _=>rfl) (fun r hr=>(cZ (Nat.lt_of_lt_of_le j0 Γ.small)).2 (hr.elim .inr .inl)) (fun _ h=>h) (fun _ _ _=>rfl) (fun _ _ _ _=>rfl))⟩,rfl⟩
  ·cases aD
theorem mb(hT:lH P T)(hs:∀r,aS Γ.sin r→Γ.n≤r)(hr:Rel Γ s a w)(aD:sr T Γ.n o h s=some (s',ob))(bK:cW ob){K:Act→World→Prop}{Q:Exit→Act→World→Prop}
  (hk:∀a' w',Rel Γ s' a' w'→K a' w'):o.wp P a w K Q:=by
 obtain⟨β,I,hr⟩:=hr
 unfold sr at aD
 cases hd:gp Γ.n o.dst with
 |false=>simp[hd] at aD
 |true =>
  simp only[hd,cond_true] at aD
  have sP:=hr.qn o.op o.dst
  split at aD
  ·rename_i res nP
   have MB:ob=res.ob:=by
    unfold rG at aD
    split at aD
    ·injection aD with aD;injection aD with _ h2;exact h2.symm
    ·split at aD
     ·split at aD
      ·injection aD with aD;injection aD with _ h2;exact h2.symm
      ·cases aD
     ·cases aD
   rw[MB] at bK
   obtain⟨v,w',aw,pE⟩:=wO hT sP.pre nP bK
   have:=(uF hs sP hd pE aD).1
   unfold Oper.wp
   rw[aw]
   exact hk _ _ this
  ·cases aD
def aG.EH:aG→Nat→SC→aG
 |[],_,_=>[]
 |(r',c)::s,r,sc=>bif Nat.beq r' r then (r',sc)::s else (r',c)::aG.EH s r sc
theorem aG.vL:∀(s:aG) (r x:Nat) (sc:SC),(aG.EH s r sc).cp x=if x=r then (s.cp x).map (fun _=>sc) else s.cp x
 |[],r,x,sc=>by simp[aG.EH,aG.cp]
 |(r',c)::s,r,x,sc=>by
  simp only[aG.EH]
  cases hb:Nat.beq r' r with
  |true =>
   have:r'=r:=Nat.eq_of_beq_eq_true hb
   subst this
   simp only[cond_true,aG.cp]
   by_cases hx:x=r'
   ·subst hx;simp
   ·have h2:Nat.beq r' x=false:=di (Ne.symm hx)
    simp[hx,h2]
  |false =>
   simp only[cond_false,aG.cp,aG.vL s r x sc]
   cases h2:Nat.beq r' x with
   |true =>
    have:r'=x:=Nat.eq_of_beq_eq_true h2
    subst this
    have iO:r'≠r:=by intro e;subst e;simp at hb
    simp[iO]
   |false=>simp
def aG.set(s:aG)(r:Nat)(sc:SC):aG:=bif Nat.blt r 999999 then aG.EH s r sc else s
theorem aG.jD(s:aG)(r x:Nat)(sc:SC):(aG.set s r sc).get x=if x=r∧r<999999 then (s.get x).map (fun _=>sc) else s.get x:=by
 unfold aG.set
 by_cases hr:r<999999
 ·rw[show Nat.blt r 999999=true from Nat.ble_eq_true_of_le hr]
  simp only[cond_true,hr,and_true]
  rcases sQ x with h|rfl|⟨j,rfl⟩
  ·rw[aG.dX h,aG.dX h,aG.vL]
  ·rw[aG.cM,aG.cM];simp
  ·rw[aG.cU,aG.cU,if_neg (by unfold hc;omega)]
   unfold aG.hp
   rw[aG.vL,if_neg (by omega)]
 ·rw[show Nat.blt r 999999=false from Bool.eq_false_iff.2 (fun h=>hr (Nat.le_of_ble_eq_true h))]
  simp[hr]
theorem dj{s:aG}{r x:Nat}{sc:SC} : aS (aG.set s r sc) x↔aS s x:=by
 unfold aS
 rw[aG.jD]
 split<;>simp
theorem kT(w:World)(g k:Nat)(cs OX:Array Value)(t:TypeId)(fr:Nat×Nat)(hg:w.heap[g]? = some (.cells OX t fr))(hs:cs.size=OX.size):(w.setRow g cs).shape? k=w.shape? k:=by
 by_cases hk:k=g
 ·subst hk
  unfold World.shape?
  rw[setRow_heap w k OX cs t fr hg,hg]
  simp[hs]
 ·exact gU (setRow_other w g k cs hk)
theorem cq.HW (hr : cq Γ s a w β I) {r b : Nat} {sc sc' : SC} {sto' : aG} (EI : ∀ x, sto'.get x = if x = r then (s.sto.get x).map (fun _ => sc') else s.sto.get x) (gD : s.sto.get r = some sc) (hb : β r = some b) {arr re : Array Value} {el : TypeId} (hg : w.heap[b]? = some (.cells arr el (0, 0)))
    (jC : re.size = arr.size) (iv : ∀ (j : Nat) e, sc'.jc[j]? = some e → ∃ u, re[j]? = some u ∧ u.oneCell' = true ∧ RE β (aS s.sto) I w e u) :
    cq Γ ⟨s.env, sto'⟩ a (w.setRow b re) β I := by
  have Ks : ∀ {x}, aS sto' x ↔ aS s.sto x := fun {x} => by
    unfold aS; rw [EI]; split <;> simp
  have sq : aS s.sto r := by unfold aS; rw [gD]; rfl
  have A1 : ¬ I b := ((hr.sto.1 r sc gD).2 b hb).2
  have hw : ∀ b' o, I b' → (w.setRow b re).cell? ⟨b', o, none⟩ = w.cell? ⟨b', o, none⟩ := fun b' o hI => dM (setRow_other w b b' re (fun e => A1 (e ▸ hI))) o
  have q9 : ∀ k, (w.setRow b re).shape? k = w.shape? k := fun k => kT w b k re arr el (0, 0) hg jC
  have pG : (w.setRow b re).heap.size = w.heap.size := by simp [World.setRow]
  have hL : ∀ x, aS s.sto x → aS sto' x := fun x hx => Ks.2 hx
  refine ⟨fun t e he => (hr.env t e he).mono (fun _ _ => rfl) hL (fun _ h => h) hw (fun _ b' _ _ => q9 b'), ⟨fun x UT hx => ?_, fun x y b' hx hy => hr.sto.2 x y b' (Ks.1 hx) (Ks.1 hy)⟩,
    fun x hx => hr.par x (Ks.1 hx), fun x b' hx => hr.new x b' (Ks.1 hx), fun b' hI => by rw [pG]; exact hr.ib b' hI, fun b' hI => ?_, ?_, hr.size, hr.defers⟩
  · rw [EI] at hx
    by_cases xX : x = r
    · subst xX
      rw [if_pos rfl, gD] at hx
      simp only [Option.map_some, Option.some.injEq] at hx
      subst hx
      refine ⟨.inr ⟨b, re, el, hb, setRow_heap w b arr re el (0, 0) hg, fun j e he => ?_⟩, fun b' cI => by rw [pG]; exact (hr.sto.1 x sc gD).2 b' cI⟩
      obtain ⟨u, g1, g2, g3⟩ := iv j e he
      exact ⟨u, g1, g2, g3.mono (fun _ _ => rfl) hL (fun _ h => h) hw (fun _ b' _ _ => q9 b')⟩
    · rw [if_neg xX] at hx
      obtain ⟨g1, g2⟩ := hr.sto.1 x UT hx
      have ru : aS s.sto x := by unfold aS; rw [hx]; rfl
      refine ⟨g1.mono rfl (fun b' cI => setRow_other w b b' re (fun e => xX (hr.sto.2 x r b ru sq (e ▸ cI) hb))) (fun _ _ => rfl) hL (fun _ h => h) hw (fun _ b' _ _ => q9 b'), fun b' cI => by rw [pG]; exact g2 b' cI⟩
  · rcases hr.ii b' hI with h1 | h1
    · exact .inl h1
    · exact .inr (h1.imp (fun h1 => ⟨h1.1, by rw [pG]; exact h1.2⟩) id)
  · refine ⟨hr.aN.os, hr.aN.tape, hr.aN.output, by rw [pG]; exact hr.aN.size, fun k hk hM => ?_, fun k hk => (q9 k).trans (hr.aN.shape k hk), hr.aN.drawn⟩
    refine (setRow_other w b k re (fun e => ?_)).trans (hr.aN.block k hk hM)
    subst e
    by_cases hsr : aS Γ.sin r ∧ ¬ gv r
    · exact hM ⟨r, hsr.1, by rw [← hr.par r sq hsr.1 hsr.2]; exact hb⟩
    · exact hM ((hr.new r k sq (by by_cases h : aS Γ.sin r; · exact .inr (Classical.byContradiction fun h2 => hsr ⟨h, h2⟩)
                                   · exact .inl h) hb).m hk)
theorem cq.write(hr:cq Γ s a w β I){r b:Nat}{sc sc':SC}(C0:r<999999)(gD:s.sto.get r=some sc)(hb:β r=some b){arr re:Array Value}{el:TypeId}(hg:w.heap[b]? = some (.cells arr el (0,0)))
  (jC:re.size=arr.size) (iv:∀(j:Nat) e,sc'.jc[j]? = some e→∃u,re[j]? = some u∧u.oneCell'=true∧RE β (aS s.sto) I w e u) :
  cq Γ ⟨s.env,aG.set s.sto r sc'⟩ a (w.setRow b re) β I :=
 hr.HW (fun x=>by rw[aG.jD];simp[C0]) gD hb hg jC iv
def pI(T:ja)(o:Oper)(h:Hint)(s:St):Option (St×List Prop) :=
 match o.op,o.dst with
 |.store t x y,none=>match T.get t,cA s.env x,cA s.env y with
  |some d,some (.ptr r off),some e=>match kd e,s.sto.get r with
   |some cs,some sc=>bif Nat.beq cs.length d.size&&Nat.blt r 999999 then
     match h with
     |.cells sc'=>some (⟨s.env,aG.set s.sto r sc'⟩,[off+cs.length≤sc.jc.length,cF sc.jc off cs=sc'.jc])
     |_=>match sc with
      |.lit cells=>bif Nat.ble (off+cs.length) cells.length then some (⟨s.env,aG.set s.sto r (.lit (cF cells off cs))⟩,[]) else none
      |_=>none
    else none
   |_,_=>none
  |_,_,_=>none
 |_,_=>none
theorem wS{e:EV}{cs:List EV}{v:Value}{L:Nat→Prop}(he:RE β L I w e v)(h:kd e=some cs):v.cells.size=cs.length:=by
 cases e with
 |pv p =>
  unfold kd at h
  cases ht:p.pD with
  |true=>simp[ht] at h
  |false =>
   simp[ht] at h
   subst h
   have hr:bT I w p.cells v.cells.toList:=Rd.cells he (fun vs e=>by subst e;simp[PV.pD] at ht)
   have:=hr.1
   simpa using this.symm
 |ptr r off=>injection h with h;subst h;obtain⟨_,b,_,rfl⟩:=he;rfl
 |row r off len sz =>
  injection h with h;subst h
  obtain⟨_,⟨_,_,rfl⟩|⟨b,c,_,rfl,_⟩⟩:=he<;>rfl
 |cv r len sz =>
  injection h with h;subst h
  obtain⟨_,⟨_,_,rfl⟩|⟨b,c,_,rfl,_⟩⟩:=he<;>rfl
 |kf r off=>injection h with h;subst h;obtain⟨_,b,_,rfl⟩:=he;rfl
 |mL c=>injection h with h;subst h;obtain⟨b,o,rfl,_⟩:=he;rfl
 |dead=>cases h
 |kN _ _ _ _ _=>cases h
 |mM _ _=>cases h
 |dV fs =>
  injection h with h;subst h
  obtain⟨us,rfl,g2,_⟩:=he
  rw[List.length_map]
  exact g2
theorem RB.block{L:Nat→Prop}{r b:Nat}{cells:List EV}(h:RB β L I w r cells)(hb:β r=some b) :
  ∃arr el,w.heap[b]? = some (.cells arr el (0,0))∧cells.length≤arr.size∧∀(j:Nat) e,cells[j]? = some e→∃u,arr[j]? = some u∧u.oneCell'=true∧RE β L I w e u:=by
 rcases h with ⟨h1,h2⟩|⟨b',arr,el,cI,h1,h2⟩
 ·rw[h1] at hb;cases hb
 ·rw[cI] at hb;injection hb with hb;subst hb
  refine⟨arr,el,h1,?_,h2⟩
  rcases Nat.eq_zero_or_pos cells.length with h0|h0
  ·omega
  ·obtain⟨u,h3,_⟩:=h2 (cells.length-1) _ (List.getElem?_eq_getElem (by omega))
   have:=(Array.getElem?_eq_some_iff.1 h3).1
   omega
theorem qU(hT:lH P T)(hr:Rel Γ s a w)(aD:pI T o h s=some (s',ob))(bK:cW ob){K:Act→World→Prop}{Q:Exit→Act→World→Prop}
  (hk:∀a' w',Rel Γ s' a' w'→K a' w'):o.wp P a w K Q:=by
 obtain⟨β,I,hr⟩:=hr
 unfold pI at aD
 split at aD
 ·rename_i t x y ml ow
  split at aD
  ·rename_i d r off e hd hx hy
   split at aD
   ·rename_i cs sc ot gD
    cases tC:(Nat.beq cs.length d.size&&Nat.blt r 999999) with
    |false=>simp[tC] at aD
    |true =>
     simp only[tC,cond_true] at aD
     rw[Bool.and_eq_true] at tC
     have hl:=tC.1
     have C0:r<999999:=Nat.le_of_ble_eq_true tC.2
     have GO:cs.length=d.size:=Nat.eq_of_beq_eq_true hl
     obtain⟨sq,b,hb,hv⟩:=hr.uD x _ hx
     have CJ:=hr.uD y _ hy
     obtain⟨arr,el,hg,Ht,lT⟩:=(hr.sto.1 r sc gD).1.block hb
     have xA:=wS CJ ot
     have main:∀sc':SC,off+cs.length≤sc.jc.length→cF sc.jc off cs=sc'.jc→(∀a' w',Rel Γ ⟨s.env,aG.set s.sto r sc'⟩ a' w'→K a' w')→o.wp P a w K Q:=by
      intro sc' hle GD wT
      have h1:∀u∈(a.eval y).cells.toList,u.oneCell'=true:=by
       intro u hu
       obtain⟨j,hj⟩:=List.mem_iff_getElem?.1 hu
       have C1:j<cs.length:=by
        have:=(List.getElem?_eq_some_iff.1 hj).1
        simp at this;omega
       obtain⟨u',g1,g2,_⟩:=iF CJ ot j _ (List.getElem?_eq_getElem C1)
       have:u'=u:=by simpa[g1] using hj
       subst this;exact g2
      have EJ:=run_storeCells_at P b off el (a.eval y).cells.toList 0 arr w hg (by simp;omega) h1
      simp only[Nat.add_zero] at EJ
      have hlen:(arr.toList.take off++(a.eval y).cells.toList++arr.toList.drop (off+(a.eval y).cells.toList.length)).toArray.size=arr.size:=by
       simp;omega
      have gY:=hr.write (sc':=sc') C0 gD hb hg hlen (fun j e' fj=>by
       rw[←GD,dI _ _ _ hle] at fj
       have fS:(arr.toList.take off++(a.eval y).cells.toList++arr.toList.drop (off+(a.eval y).cells.toList.length)).toArray[j]? = if off≤j∧j<off+cs.length then (a.eval y).cells[j-off]? else arr[j]? := by
        have:=dI arr.toList off (a.eval y).cells.toList (by simp;omega) j
        unfold cF at this
        rw[←List.append_assoc] at this
        simp only[List.getElem?_toArray]
        rw[this]
        simp only[Array.length_toList,xA,Array.getElem?_toList]
       rw[fS]
       by_cases hj:off≤j∧j<off+cs.length
       ·rw[if_pos hj] at fj ⊢
        exact iF CJ ot _ e' fj
       ·rw[if_neg hj] at fj ⊢
        exact lT j e' fj)
      unfold Oper.wp execOp
      simp only[ml,Instr.storeAt]
      rw[hv]
      simp only[Instr.sureAddr,Sem.run_bind,Sem.run_pure,Result.andThen_ok,storeVar,(hT t d hd).run_sizeOf w]
      rw[if_neg (by simp;omega)]
      rw[EJ]
      simp only[Result.andThen_ok]
      show K (a.put o.dst undef) _
      rw[ow]
      exact wT _ _ ⟨β,I,gY⟩
     split at aD
     ·rename_i sc'
      injection aD with aD;injection aD with h1 h2
      subst h1;subst h2
      obtain⟨g1,g2⟩:=bK.cons
      exact main sc' g1 g2 hk
     ·split at aD
      ·rename_i cells
       cases hle:Nat.ble (off+cs.length) cells.length with
       |false=>simp[hle] at aD
       |true =>
        simp only[hle,cond_true] at aD
        injection aD with aD;injection aD with h1 h2
        subst h1;subst h2
        exact main _ (Nat.le_of_ble_eq_true hle) rfl hk
      ·cases aD
   ·cases aD
  ·cases aD
 ·cases aD
def aG.pJ:aG→List (Option (List PV))→aG
 |[],_=>[]
 |(r,c)::s,xs=>bif Nat.beq r 999999 then (r,.heap xs)::s else (r,c)::aG.pJ s xs
theorem aG.vM(xs:List (Option (List PV))):∀(s:aG) (x:Nat),(aG.pJ s xs).cp x=if x=999999 then (s.cp x).map (fun _ => .heap xs) else s.cp x
 |[],x=>by simp[aG.pJ,aG.cp]
 |(r,c)::s,x=>by
  simp only[aG.pJ]
  cases hb:Nat.beq r 999999 with
  |true =>
   have:r=999999:=Nat.eq_of_beq_eq_true hb
   subst this
   simp only[cond_true]
   by_cases hx:x=999999
   ·subst hx;simp[aG.cp]
   ·have h2:Nat.beq 999999 x=false:=di (Ne.symm hx)
    simp[aG.cp,h2,hx]
  |false =>
   simp only[cond_false,aG.cp,aG.vM xs s x]
   by_cases hx:x=999999
   ·subst hx;simp[hb]
   ·simp[hx]
theorem aG.xY{xs ys:List (Option (List PV))}{s:aG}(h:s.cp 999999=some (.heap ys)):(aG.pJ s xs).hp=xs:=by
 unfold aG.hp
 rw[aG.vM,if_pos rfl,h]
 rfl
theorem aG.yD{xs ys:List (Option (List PV))}{s:aG}(h:s.cp 999999=some (.heap ys))(x:Nat)(hx:∀j,x=hc j→cY xs j=cY s.hp j):(aG.pJ s xs).get x=s.get x:=by
 rcases sQ x with cQ|rfl|⟨j,rfl⟩
 ·rw[aG.dX cQ,aG.dX cQ,aG.vM,if_neg (by omega)]
 ·rw[aG.cM,aG.cM]
 ·rw[aG.cU,aG.cU,aG.xY h,hx j rfl]
theorem aG.HX{s:aG}{j:Nat}{ps OX:List PV}{xs:List (Option (List PV))}(ho:s.hp[j]? = some (some OX))(hx:s.hp.set j (some ps)=xs)(x:Nat) :
  (aG.pJ s xs).get x=if x=hc j then (s.get x).map (fun _ => .pure ps) else s.get x:=by
 have hh:s.cp 999999=some (.heap s.hp):=by
  unfold aG.hp at ho ⊢
  split at ho
  ·rename_i ys hg;rw[hg]
  ·simp at ho
 by_cases hxj:x=hc j
 ·subst hxj
  rw[if_pos rfl,aG.cU,aG.cU,aG.xY hh,←hx]
  unfold cY
  rw[ho,List.getElem?_set]
  have:=(List.getElem?_eq_some_iff.1 ho).1
  simp[this]
 ·rw[if_neg hxj]
  refine aG.yD hh x (fun k hk => ?_)
  unfold cY
  rw[←hx,List.getElem?_set_ne (fun e=>hxj (by rw[hk,e]))]
def tF(T:ja)(o:Oper)(h:Hint)(s:St):Option (St×List Prop) :=
 match o.op,o.dst,h with
 |.store t x y,none,.uB ps out xs=>match T.get t,cA s.env x,cA s.env y with
  |some d,some (.kf j off),some (.pv p)=>bif Nat.beq p.cells.length d.size && !p.pD then
    some (⟨s.env,aG.pJ s.sto xs⟩,[s.sto.hp[j]? = some (some ps),off+p.cells.length≤ps.length,cF ps off p.cells=out,s.sto.hp.set j (some out)=xs])
   else none
  |_,_,_=>none
 |_,_,_=>none
theorem vN(hT:lH P T)(hr:Rel Γ s a w)(aD:tF T o h s=some (s',ob))(bK:cW ob){K:Act→World→Prop}{Q:Exit→Act→World→Prop}
  (hk:∀a' w',Rel Γ s' a' w'→K a' w'):o.wp P a w K Q:=by
 obtain⟨β,I,hr⟩:=hr
 unfold tF at aD
 split at aD
 ·rename_i t x y ps out xs ml ow
  split at aD
  ·rename_i d j off p hd hx hy
   cases tC:(Nat.beq p.cells.length d.size && !p.pD) with
   |false=>simp[tC] at aD
   |true =>
    simp only[tC,cond_true] at aD
    simp only[Bool.and_eq_true,Bool.not_eq_true'] at tC
    have GO:p.cells.length=d.size:=Nat.eq_of_beq_eq_true tC.1
    injection aD with aD;injection aD with h1 h2
    subst h1;subst h2
    obtain⟨g1,bK⟩:=bK.cons
    obtain⟨g2,bK⟩:=bK.cons
    obtain⟨g3,g4⟩:=bK.cons
    have g4:s.sto.hp.set j (some out)=xs:=g4
    obtain⟨sq,b,hb,hv⟩:=hr.uD x _ hx
    have CJ:=hr.uD y _ hy
    have ot:kd (.pv p)=some (p.cells.map EV.pv):=by simp[kd,tC.2]
    have fS:s.sto.get (hc j)=some (.pure ps):=by rw[aG.cU];unfold cY;rw[g1]
    obtain⟨arr,el,hg,Ht,lT⟩:=(hr.sto.1 (hc j) _ fS).1.block hb
    have Ht:ps.length≤arr.size:=by simpa[SC.jc] using Ht
    have xA:(a.eval y).cells.size=p.cells.length:=by have:=wS CJ ot;simpa using this
    have h1:∀u∈(a.eval y).cells.toList,u.oneCell'=true:=by
     intro u hu
     obtain⟨k,hk⟩:=List.mem_iff_getElem?.1 hu
     have C1:k<(p.cells.map EV.pv).length:=by
      have:=(List.getElem?_eq_some_iff.1 hk).1
      simp at this;simp;omega
     obtain⟨u',q1,q2,_⟩:=iF CJ ot k _ (List.getElem?_eq_getElem C1)
     have:u'=u:=by simpa[q1] using hk
     subst this;exact q2
    have EJ:=run_storeCells_at P b off el (a.eval y).cells.toList 0 arr w hg (by simp;omega) h1
    simp only[Nat.add_zero] at EJ
    have hlen:(arr.toList.take off++(a.eval y).cells.toList++arr.toList.drop (off+(a.eval y).cells.toList.length)).toArray.size=arr.size:=by
     simp;omega
    have gY:=hr.HW (sc' := .pure out) (sto':=aG.pJ s.sto xs) (aG.HX g1 g4) fS hb hg hlen (fun k e' fj=>by
     have fj:(out.map EV.pv)[k]? = some e':=fj
     rw[←g3,List.getElem?_map,dI _ _ _ g2] at fj
     have UU:(arr.toList.take off++(a.eval y).cells.toList++arr.toList.drop (off+(a.eval y).cells.toList.length)).toArray[k]? = if off≤k∧k<off+p.cells.length then (a.eval y).cells[k-off]? else arr[k]? := by
      have:=dI arr.toList off (a.eval y).cells.toList (by simp;omega) k
      unfold cF at this
      rw[←List.append_assoc] at this
      simp only[List.getElem?_toArray]
      rw[this]
      simp only[Array.length_toList,xA,Array.getElem?_toList]
     rw[UU]
     by_cases hj:off≤k∧k<off+p.cells.length
     ·rw[if_pos hj] at fj ⊢
      exact iF CJ ot _ e' (by rw[List.getElem?_map];exact fj)
     ·rw[if_neg hj] at fj ⊢
      exact lT k e' (by show(ps.map EV.pv)[k]? = _;rw[List.getElem?_map];exact fj))
    unfold Oper.wp execOp
    simp only[ml,Instr.storeAt]
    rw[hv]
    simp only[Instr.sureAddr,Sem.run_bind,Sem.run_pure,Result.andThen_ok,storeVar,(hT t d hd).run_sizeOf w]
    rw[if_neg (by simp;omega)]
    rw[EJ]
    simp only[Result.andThen_ok]
    show K (a.put o.dst undef) _
    rw[ow]
    exact hk _ _ ⟨β,I,gY⟩
  ·cases aD
 ·cases aD
def vO(T:ja)(n:Nat)(o:Oper)(h:Hint)(s:St):Option (St×List Prop) :=
 match o.op,h with
 |.load t x,.BD ps out=>bif gp n o.dst then match T.get t,cA s.env x with
  |some d,some (.kf j off)=>bif d.agg then some (⟨jg s.env o.dst (.pv (.agg out)),s.sto⟩,[s.sto.hp[j]? = some (some ps),(ps.drop off).take d.size=out,out.length=d.size]) else match out with
    |[p]=>some (⟨jg s.env o.dst (.pv p),s.sto⟩,[s.sto.hp[j]? = some (some ps),ps[off]? = some p])
    |_=>none
  |_,_=>none
  else none
 |_,_=>none
theorem xB(hT:lH P T)(hr:Rel Γ s a w)(aD:vO T Γ.n o h s=some (s',ob))(bK:cW ob){K:Act→World→Prop}{Q:Exit→Act→World→Prop}
  (hk:∀a' w',Rel Γ s' a' w'→K a' w'):o.wp P a w K Q:=by
 obtain⟨β,I,hr⟩:=hr
 unfold vO at aD
 split at aD
 ·rename_i t x ps out ml
  cases Ef:gp Γ.n o.dst with
  |false=>simp[Ef] at aD
  |true =>
   simp only[Ef,cond_true] at aD
   split at aD
   ·rename_i d j off hd hx
    obtain⟨Ov,b,j5,hv⟩:=hr.uD x _ hx
    have key:∀{ps:List PV},s.sto.hp[j]? = some (some ps)→RB β (aS s.sto) I w (hc j) (ps.map EV.pv):=fun {ps} jf =>
     (hr.sto.1 (hc j) (.pure ps) (by rw[aG.cU];unfold cY;rw[jf])).1
    have fin:∀{e:EV} {v:Value},(loadVar t ⟨b,off,none⟩).run P w = .ok v w→RE β (aS s.sto) I w e v→(∀a' w',Rel Γ ⟨jg s.env o.dst e,s.sto⟩ a' w'→K a' w')→o.wp P a w K Q:=by
     intro e v h1 h2 hk
     unfold Oper.wp execOp
     simp only[ml,Instr.loadAt]
     rw[hv]
     simp only[Instr.sureAddr,Sem.run_bind,Sem.run_pure,Result.andThen_ok]
     rw[h1]
     simp only[Result.andThen_ok]
     exact hk _ _ ⟨β,I,hr.put (c9 Ef) h2⟩
    cases ha:d.agg with
    |true =>
     simp only[ha,cond_true] at aD
     injection aD with aD;injection aD with h1 h2
     subst h1;subst h2
     obtain⟨h1,bK⟩:=bK.cons
     obtain⟨h2,h3⟩:=bK.cons
     have h3:out.length=d.size:=h3
     obtain⟨v,g1,g2,_⟩:=so (h := .none) (off:=off) (res:=⟨.pv (.agg out),none,[]⟩) (hT t d hd) (key h1) j5 (by
      unfold vG
      have hm:((ps.map EV.pv).drop off).take d.size=out.map EV.pv:=by rw[←h2,List.map_take,List.map_drop]
      have Eu:∀l:List PV,mV (l.map EV.pv)=some l:=fun l=>by
       induction l with
       |nil=>rfl
       |cons p l ih=>simp[mV,ih]
      simp[ha,hm,Eu,h3,fb]) True.intro
     exact fin g1 g2 hk
    |false =>
     simp only[ha,cond_false] at aD
     split at aD
     ·rename_i p
      injection aD with aD;injection aD with h1 h2
      subst h1;subst h2
      obtain⟨h1,h2⟩:=bK.cons
      have h2:ps[off]? = some p:=h2
      obtain⟨v,g1,g2,_⟩:=so (h := .none) (off:=off) (res:=⟨.pv p,none,[]⟩) (hT t d hd) (key h1) j5 (by
       unfold vG
       simp[ha,h2,fb]) True.intro
      exact fin g1 g2 hk
     ·cases aD
   ·cases aD
 ·cases aD
def Kv(s s':St):Prop:=(∀t,s'.env.get t=s.env.get t)∧∀r,s'.sto.get r=s.sto.get r
theorem Rel.HY(hl:Kv s s')(hr:Rel Γ s a w):Rel Γ s' a w:=by
 obtain⟨β,I,hr⟩:=hr
 have hd:∀r,aS s'.sto r↔aS s.sto r:=fun r=>by unfold aS;rw[hl.2 r]
 have rf:∀r,aS s.sto r→aS s'.sto r:=fun r h=>(hd r).2 h
 refine⟨β,I,fun t e he=>(hr.env t e (by rw[←hl.1 t];exact he)).mono (fun _ _=>rfl) rf (fun _ h=>h) (fun _ _ _=>rfl) (fun _ _ _ _=>rfl),
  ⟨fun r sc hx => ?_,fun x y b hx hy=>hr.sto.2 x y b ((hd x).1 hx) ((hd y).1 hy)⟩,fun x hx=>hr.par x ((hd x).1 hx),fun x b hx=>hr.new x b ((hd x).1 hx),hr.ib,hr.ii,hr.aN,hr.size,hr.defers⟩
 obtain⟨g1,g2⟩:=hr.sto.1 r sc (by rw[←hl.2 r];exact hx)
 exact⟨g1.mono rfl (fun _ _=>rfl) (fun _ _=>rfl) rf (fun _ h=>h) (fun _ _ _=>rfl) (fun _ _ _ _=>rfl),g2⟩
end
end Go.Proofs.YtfjfekodeplcoaaGreat.Sym
