/- Lemmas for the statements of this seat. -/
import Derived.Test.YtnjhplhbmapclaaGreatDoorWSymJ
namespace Go.Proofs.YtnjhplhbmapclaaGreatDoor.Sym
open Go Go.RowKit
def fZ (P : Program) (f : FuncId) : Prop := ∃ fn, P.funcs[f]? = some fn ∧ fn.body.isSome = true ∧ (fn.name == "runtime.NumGoroutine") = false
def mN(sin sout:aD)(r:EV)(β:Nat→Option Nat)(I:Nat→Prop)(w:World)(e:Ending)(w':World):Prop :=
 ∃v β',e = .returned v∧(∀x,aT sin x→¬gv x→β' x=β x)∧gF (fun b=>∃x,aT sin x∧β x=some b) w w' ∧
  ph β' (fun b=>I b∨((fresh w w' b∨Br sin β b)∧∀x,aT sout x→β' x≠some b)) w' sout ∧
  RE β' (aT sout) (fun b=>I b∨((fresh w w' b∨Br sin β b)∧∀x,aT sout x→β' x≠some b)) w' r v ∧
  (∀x b,aT sout x→¬aT sin x→β' x=some b→fresh w w' b∨Br sin β b)
def aq(P:Program)(f:FuncId)(args:List EV)(sin:aD)(r:EV)(sout:aD):Prop :=
 fZ P f∧∀(I:Nat→Prop) (w:World) (β:Nat→Option Nat) (vs:Array Value),(∀b,I b→b<w.heap.size)→ph β I w sin→args.length=vs.size →
  (∀(j:Nat) e v,args[j]? = some e→vs[j]? = some v→RE β (aT sin) I w e v)→mM sin β w→Calls P f vs w (mN sin sout r β I w)
def cb(P:Program)(f:FuncId)(args:List PV)(r:PV):Prop:=aq P f (args.map EV.pv) [] (.pv r) []
def gG(n:Nat):Option Nat→Bool
 |none=>true
 |some d=>Nat.blt d n
theorem cD{n:Nat}{dst:Option Nat}(h:gG n dst=true):∀d,dst=some d→d<n:=by
 intro d hd;subst hd
 exact Nat.le_of_ble_eq_true h
def lQ(op:Op)(dst:Option Nat)(s:St):St :=
 match op,dst with
 |.alloc _,some d=>kill d s
 |.box _ _,some d=>kill d s
 |.buildSlice _ _ _,some d=>kill d s
 |.makeSlice _ _ _,some d=>kill d s
 |_,_=>s
def qz(s:St)(dst:Option Nat)(res:jv):Option (St×List Prop) :=
 match res.new with
 |none=>some (⟨jU s.env dst res.val,s.aw⟩,res.ob)
 |some sc=>match dst with
  |some d=>match s.aw.get d with
   |none=>some (⟨jU s.env (some d) res.val,(d,sc)::s.aw⟩,res.ob)
   |some _=>none
  |none=>none
def sq(T:gi)(n:Nat)(o:Oper)(h:Hint)(s:St):Option (St×List Prop) :=
 bif gG n o.dst then
  match bk T (lQ o.op o.dst s).aw o.dst o.op (bL (lQ o.op o.dst s).env) h with
  |some res=>qz (lQ o.op o.dst s) o.dst res
  |none=>none
 else none
section
variable {P:Program} {T:gi} {Γ:Ctx} {s s':St} {a:Act} {w:World} {β:Nat→Option Nat} {I:Nat→Prop} {o:Oper} {h:Hint} {ob:List Prop}
theorem bK.lQ(hr:bK Γ s a w β I)(op:Op)(dst:Option Nat):bK Γ (lQ op dst s) a w β I:=by
 unfold Sym.lQ
 split<;>first|exact hr.kill _|exact hr
theorem xy(hs:∀r,aT Γ.sin r→Γ.n≤r)(hr:bK Γ s a w β I){dst:Option Nat}(hd:gG Γ.n dst=true){res:jv}{v:Value}{w':World}(hp:ow β (aT s.aw) I w dst res v w')
  (ay:qz s dst res=some (s',ob)):Rel Γ s' (a.put dst v) w'∧ob=res.ob:=by
 obtain⟨val,new,JY⟩:=res
 obtain⟨hb,hp⟩:=hp
 unfold qz at ay
 cases new with
 |none =>
  injection ay with ay
  injection ay with h1 h2
  subst h1;subst h2
  refine⟨⟨β,_,(hr.grow hb (fun b hI => .inl hI) (fun b hI=>hI)).put (cD hd) hp⟩,rfl⟩
 |some sc =>
  obtain⟨d,b,rfl,JZ,hp⟩:=hp
  simp only at ay
  split at ay
  ·rename_i oa
   injection ay with ay
   injection ay with h1 h2
   subst h1;subst h2
   have sr:¬aT s.aw d:=by unfold aT;rw[oa];simp
   have oc:=cD hd d rfl
   have xz:¬aT Γ.sin d:=fun h=>by have:=hs d h;omega
   obtain⟨Av,FY⟩:=hp sr
   have hg:bK Γ s a w' β (fun x=>I x∨(fresh w w' x∧x≠b)):=hr.grow hb (fun b hI => .inl hI) (fun x hx=>hx.elim .inl fun h => .inr h.1)
   have ky:=hg.site (d:=d) (sc:=sc) (Nat.lt_of_lt_of_le oc Γ.small) sr xz (β':=EG β d b) (fun r fP=>by simp[EG,fP]) (fun b' cQ=>by
    have:b'=b:=by simpa[EG] using cQ.symm
    subst this
    refine⟨JZ.2,fun hx => ?_,.inl (Nat.le_trans hr.aB.size JZ.1),fun r r6 e => ?_⟩
    ·rcases hx with hx|hx
     ·have:=hr.ib _ hx;have:=JZ.1;omega
     ·exact hx.2 rfl
    ·have:=hr.lb r b' r6 e;have:=JZ.1;omega) Av
   exact⟨⟨_,_,ky.put (dst:=some d) (fun d' EM=>by injection EM with EM;omega) (FY.mono (fun _ _=>rfl) (fun r hr=>(bW (Nat.lt_of_lt_of_le oc Γ.small)).2 (hr.elim .inr .inl)) (fun _ h=>h) (fun _ _ _=>rfl) (fun _ _ _ _=>rfl))⟩,rfl⟩
  ·cases ay
theorem od(hT:jh P T)(hs:∀r,aT Γ.sin r→Γ.n≤r)(hr:Rel Γ s a w)(ay:sq T Γ.n o h s=some (s',ob))(bj:bV ob){K:Act→World→Prop}{Q:Exit→Act→World→Prop}
  (hk:∀a' w',Rel Γ s' a' w'→K a' w'):o.wp P a w K Q:=by
 obtain⟨β,I,hr⟩:=hr
 unfold sq at ay
 cases hd:gG Γ.n o.dst with
 |false=>simp[hd] at ay
 |true =>
  simp only[hd,cond_true] at ay
  have vR:=hr.lQ o.op o.dst
  split at ay
  ·rename_i res jV
   have GK:ob=res.ob:=by
    unfold qz at ay
    split at ay
    ·injection ay with ay;injection ay with _ h2;exact h2.symm
    ·split at ay
     ·split at ay
      ·injection ay with ay;injection ay with _ h2;exact h2.symm
      ·cases ay
     ·cases ay
   rw[GK] at bj
   obtain⟨v,w',ai,sX⟩:=rj hT vR.pre jV bj
   have:=(xy hs vR hd sX ay).1
   unfold Oper.wp
   rw[ai]
   exact hk _ _ this
  ·cases ay
def aD.zc:aD→Nat→SC→aD
 |[],_,_=>[]
 |(r',c)::s,r,sc=>bif Nat.beq r' r then (r',sc)::s else (r',c)::aD.zc s r sc
theorem aD.qA:∀(s:aD) (r x:Nat) (sc:SC),(aD.zc s r sc).cp x=if x=r then (s.cp x).map (fun _=>sc) else s.cp x
 |[],r,x,sc=>by simp[aD.zc,aD.cp]
 |(r',c)::s,r,x,sc=>by
  simp only[aD.zc]
  cases hb:Nat.beq r' r with
  |true =>
   have:r'=r:=Nat.eq_of_beq_eq_true hb
   subst this
   simp only[cond_true,aD.cp]
   by_cases hx:x=r'
   ·subst hx;simp
   ·have h2:Nat.beq r' x=false:=dU (Ne.symm hx)
    simp[hx,h2]
  |false =>
   simp only[cond_false,aD.cp,aD.qA s r x sc]
   cases h2:Nat.beq r' x with
   |true =>
    have:r'=x:=Nat.eq_of_beq_eq_true h2
    subst this
    have fP:r'≠r:=by intro e;subst e;simp at hb
    simp[fP]
   |false=>simp
def aD.set(s:aD)(r:Nat)(sc:SC):aD:=bif Nat.blt r 999999 then aD.zc s r sc else s
theorem aD.gT(s:aD)(r x:Nat)(sc:SC):(aD.set s r sc).get x=if x=r∧r<999999 then (s.get x).map (fun _=>sc) else s.get x:=by
 unfold aD.set
 by_cases hr:r<999999
 ·rw[show Nat.blt r 999999=true from Nat.ble_eq_true_of_le hr]
  simp only[cond_true,hr,and_true]
  rcases xi x with h|rfl|⟨j,rfl⟩
  ·rw[aD.gm h,aD.gm h,aD.qA]
  ·rw[aD.dP,aD.dP];simp
  ·rw[aD.gQ,aD.gQ,if_neg (by unfold hc;omega)]
   unfold aD.hp
   rw[aD.qA,if_neg (by omega)]
 ·rw[show Nat.blt r 999999=false from Bool.eq_false_iff.2 (fun h=>hr (Nat.le_of_ble_eq_true h))]
  simp[hr]
theorem dD{s:aD}{r x:Nat}{sc:SC} : aT (aD.set s r sc) x↔aT s x:=by
 unfold aT
 rw[aD.gT]
 split<;>simp
theorem lR(w:World)(g k:Nat)(cs KD:Array Value)(t:TypeId)(fr:Nat×Nat)(hg:w.heap[g]? = some (.cells KD t fr))(hs:cs.size=KD.size):(w.setRow g cs).shape? k=w.shape? k:=by
 by_cases hk:k=g
 ·subst hk
  unfold World.shape?
  rw[setRow_heap w k KD cs t fr hg,hg]
  simp[hs]
 ·exact lH (setRow_other w g k cs hk)
theorem bK.GL (hr : bK Γ s a w β I) {r b : Nat} {sc sc' : SC} {qB : aD} (EN : ∀ x, qB.get x = if x = r then (s.aw.get x).map (fun _ => sc') else s.aw.get x) (jP : s.aw.get r = some sc) (hb : β r = some b) {arr mO : Array Value} {el : TypeId} (hg : w.heap[b]? = some (.cells arr el (0, 0)))
    (gn : mO.size = arr.size) (ji : ∀ (j : Nat) e, sc'.mw[j]? = some e → ∃ u, mO[j]? = some u ∧ u.oneCell' = true ∧ RE β (aT s.aw) I w e u) :
    bK Γ ⟨s.env, qB⟩ a (w.setRow b mO) β I := by
  have Cz : ∀ {x}, aT qB x ↔ aT s.aw x := fun {x} => by
    unfold aT; rw [EN]; split <;> simp
  have r6 : aT s.aw r := by unfold aT; rw [jP]; rfl
  have Bs : ¬ I b := ((hr.aw.1 r sc jP).2 b hb).2
  have hw : ∀ b' o, I b' → (w.setRow b mO).cell? ⟨b', o, none⟩ = w.cell? ⟨b', o, none⟩ := fun b' o hI => dS (setRow_other w b b' mO (fun e => Bs (e ▸ hI))) o
  have vc : ∀ k, (w.setRow b mO).shape? k = w.shape? k := fun k => lR w b k mO arr el (0, 0) hg gn
  have pf : (w.setRow b mO).heap.size = w.heap.size := by simp [World.setRow]
  have hL : ∀ x, aT s.aw x → aT qB x := fun x hx => Cz.2 hx
  refine ⟨fun t e he => (hr.env t e he).mono (fun _ _ => rfl) hL (fun _ h => h) hw (fun _ b' _ _ => vc b'), ⟨fun x NC hx => ?_, fun x y b' hx hy => hr.aw.2 x y b' (Cz.1 hx) (Cz.1 hy)⟩,
    fun x hx => hr.par x (Cz.1 hx), fun x b' hx => hr.new x b' (Cz.1 hx), fun b' hI => by rw [pf]; exact hr.ib b' hI, fun b' hI => ?_, ?_, hr.size, hr.defers⟩
  · rw [EN] at hx
    by_cases uK : x = r
    · subst uK
      rw [if_pos rfl, jP] at hx
      simp only [Option.map_some, Option.some.injEq] at hx
      subst hx
      refine ⟨.inr ⟨b, mO, el, hb, setRow_heap w b arr mO el (0, 0) hg, fun j e he => ?_⟩, fun b' cQ => by rw [pf]; exact (hr.aw.1 x sc jP).2 b' cQ⟩
      obtain ⟨u, g1, g2, g3⟩ := ji j e he
      exact ⟨u, g1, g2, g3.mono (fun _ _ => rfl) hL (fun _ h => h) hw (fun _ b' _ _ => vc b')⟩
    · rw [if_neg uK] at hx
      obtain ⟨g1, g2⟩ := hr.aw.1 x NC hx
      have yE : aT s.aw x := by unfold aT; rw [hx]; rfl
      refine ⟨g1.mono rfl (fun b' cQ => setRow_other w b b' mO (fun e => uK (hr.aw.2 x r b yE r6 (e ▸ cQ) hb))) (fun _ _ => rfl) hL (fun _ h => h) hw (fun _ b' _ _ => vc b'), fun b' cQ => by rw [pf]; exact g2 b' cQ⟩
  · rcases hr.ii b' hI with h1 | h1
    · exact .inl h1
    · exact .inr (h1.imp (fun h1 => ⟨h1.1, by rw [pf]; exact h1.2⟩) id)
  · refine ⟨hr.aB.os, hr.aB.tape, hr.aB.output, by rw [pf]; exact hr.aB.size, fun k hk hM => ?_, fun k hk => (vc k).trans (hr.aB.shape k hk), hr.aB.drawn⟩
    refine (setRow_other w b k mO (fun e => ?_)).trans (hr.aB.block k hk hM)
    subst e
    by_cases hsr : aT Γ.sin r ∧ ¬ gv r
    · exact hM ⟨r, hsr.1, by rw [← hr.par r r6 hsr.1 hsr.2]; exact hb⟩
    · exact hM ((hr.new r k r6 (by by_cases h : aT Γ.sin r; · exact .inr (Classical.byContradiction fun h2 => hsr ⟨h, h2⟩)
                                   · exact .inl h) hb).m hk)
theorem bK.write(hr:bK Γ s a w β I){r b:Nat}{sc sc':SC}(CG:r<999999)(jP:s.aw.get r=some sc)(hb:β r=some b){arr mO:Array Value}{el:TypeId}(hg:w.heap[b]? = some (.cells arr el (0,0)))
  (gn:mO.size=arr.size) (ji:∀(j:Nat) e,sc'.mw[j]? = some e→∃u,mO[j]? = some u∧u.oneCell'=true∧RE β (aT s.aw) I w e u) :
  bK Γ ⟨s.env,aD.set s.aw r sc'⟩ a (w.setRow b mO) β I :=
 hr.GL (fun x=>by rw[aD.gT];simp[CG]) jP hb hg gn ji
def lh(T:gi)(o:Oper)(h:Hint)(s:St):Option (St×List Prop) :=
 match o.op,o.dst with
 |.store t x y,none=>match T.get t,bL s.env x,bL s.env y with
  |some d,some (.ptr r off),some e=>match iM e,s.aw.get r with
   |some cs,some sc=>bif Nat.beq cs.length d.size&&Nat.blt r 999999 then
     match h with
     |.cells sc'=>some (⟨s.env,aD.set s.aw r sc'⟩,[off+cs.length≤sc.mw.length,cR sc.mw off cs=sc'.mw])
     |_=>match sc with
      |.lit cells=>bif Nat.ble (off+cs.length) cells.length then some (⟨s.env,aD.set s.aw r (.lit (cR cells off cs))⟩,[]) else none
      |_=>none
    else none
   |_,_=>none
  |_,_,_=>none
 |_,_=>none
theorem xA{e:EV}{cs:List EV}{v:Value}{L:Nat→Prop}(he:RE β L I w e v)(h:iM e=some cs):v.cells.size=cs.length:=by
 cases e with
 |pv p =>
  unfold iM at h
  cases ht:p.mI with
  |true=>simp[ht] at h
  |false =>
   simp[ht] at h
   subst h
   have hr:aV I w p.cells v.cells.toList:=Rd.cells he (fun vs e=>by subst e;simp[PV.mI] at ht)
   have:=hr.1
   simpa using this.symm
 |ptr r off=>injection h with h;subst h;obtain⟨_,b,_,rfl⟩:=he;rfl
 |row r off len sz =>
  injection h with h;subst h
  obtain⟨_,⟨_,_,rfl⟩|⟨b,c,_,rfl,_⟩⟩:=he<;>rfl
 |km r len sz =>
  injection h with h;subst h
  obtain⟨_,⟨_,_,rfl⟩|⟨b,c,_,rfl,_⟩⟩:=he<;>rfl
 |jg r off=>injection h with h;subst h;obtain⟨_,b,_,rfl⟩:=he;rfl
 |jD c=>injection h with h;subst h;obtain⟨b,o,rfl,_⟩:=he;rfl
 |dead=>cases h
 |jE _ _ _ _ _=>cases h
 |sk _ _=>cases h
 |jF fs =>
  injection h with h;subst h
  obtain⟨us,rfl,g2,_⟩:=he
  rw[List.length_map]
  exact g2
theorem RB.block{L:Nat→Prop}{r b:Nat}{cells:List EV}(h:RB β L I w r cells)(hb:β r=some b) :
  ∃arr el,w.heap[b]? = some (.cells arr el (0,0))∧cells.length≤arr.size∧∀(j:Nat) e,cells[j]? = some e→∃u,arr[j]? = some u∧u.oneCell'=true∧RE β L I w e u:=by
 rcases h with ⟨h1,h2⟩|⟨b',arr,el,cQ,h1,h2⟩
 ·rw[h1] at hb;cases hb
 ·rw[cQ] at hb;injection hb with hb;subst hb
  refine⟨arr,el,h1,?_,h2⟩
  rcases Nat.eq_zero_or_pos cells.length with h0|h0
  ·omega
  ·obtain⟨u,h3,_⟩:=h2 (cells.length-1) _ (List.getElem?_eq_getElem (by omega))
   have:=(Array.getElem?_eq_some_iff.1 h3).1
   omega
theorem mA(hT:jh P T)(hr:Rel Γ s a w)(ay:lh T o h s=some (s',ob))(bj:bV ob){K:Act→World→Prop}{Q:Exit→Act→World→Prop}
  (hk:∀a' w',Rel Γ s' a' w'→K a' w'):o.wp P a w K Q:=by
 obtain⟨β,I,hr⟩:=hr
 unfold lh at ay
 split at ay
 ·rename_i t x y nZ xC
  split at ay
  ·rename_i d r off e hd hx hy
   split at ay
   ·rename_i cs sc rX jP
    cases xr:(Nat.beq cs.length d.size&&Nat.blt r 999999) with
    |false=>simp[xr] at ay
    |true =>
     simp only[xr,cond_true] at ay
     rw[Bool.and_eq_true] at xr
     have hl:=xr.1
     have CG:r<999999:=Nat.le_of_ble_eq_true xr.2
     have IK:cs.length=d.size:=Nat.eq_of_beq_eq_true hl
     obtain⟨r6,b,hb,hv⟩:=hr.xb x _ hx
     have Aw:=hr.xb y _ hy
     obtain⟨arr,el,hg,FZ,jW⟩:=(hr.aw.1 r sc jP).1.block hb
     have s6:=xA Aw rX
     have main:∀sc':SC,off+cs.length≤sc.mw.length→cR sc.mw off cs=sc'.mw→(∀a' w',Rel Γ ⟨s.env,aD.set s.aw r sc'⟩ a' w'→K a' w')→o.wp P a w K Q:=by
      intro sc' hle Bm CH
      have h1:∀u∈(a.eval y).cells.toList,u.oneCell'=true:=by
       intro u hu
       obtain⟨j,hj⟩:=List.mem_iff_getElem?.1 hu
       have Eo:j<cs.length:=by
        have:=(List.getElem?_eq_some_iff.1 hj).1
        simp at this;omega
       obtain⟨u',g1,g2,_⟩:=iN Aw rX j _ (List.getElem?_eq_getElem Eo)
       have:u'=u:=by simpa[g1] using hj
       subst this;exact g2
      have EO:=run_storeCells_at P b off el (a.eval y).cells.toList 0 arr w hg (by simp;omega) h1
      simp only[Nat.add_zero] at EO
      have hlen:(arr.toList.take off++(a.eval y).cells.toList++arr.toList.drop (off+(a.eval y).cells.toList.length)).toArray.size=arr.size:=by
       simp;omega
      have fR:=hr.write (sc':=sc') CG jP hb hg hlen (fun j e' dN=>by
       rw[←Bm,e7 _ _ _ hle] at dN
       have nY:(arr.toList.take off++(a.eval y).cells.toList++arr.toList.drop (off+(a.eval y).cells.toList.length)).toArray[j]? = if off≤j∧j<off+cs.length then (a.eval y).cells[j-off]? else arr[j]? := by
        have:=e7 arr.toList off (a.eval y).cells.toList (by simp;omega) j
        unfold cR at this
        rw[←List.append_assoc] at this
        simp only[List.getElem?_toArray]
        rw[this]
        simp only[Array.length_toList,s6,Array.getElem?_toList]
       rw[nY]
       by_cases hj:off≤j∧j<off+cs.length
       ·rw[if_pos hj] at dN ⊢
        exact iN Aw rX _ e' dN
       ·rw[if_neg hj] at dN ⊢
        exact jW j e' dN)
      unfold Oper.wp execOp
      simp only[nZ,Instr.storeAt]
      rw[hv]
      simp only[Instr.sureAddr,Sem.run_bind,Sem.run_pure,Result.andThen_ok,storeVar,(hT t d hd).run_sizeOf w]
      rw[if_neg (by simp;omega)]
      rw[EO]
      simp only[Result.andThen_ok]
      show K (a.put o.dst undef) _
      rw[xC]
      exact CH _ _ ⟨β,I,fR⟩
     split at ay
     ·rename_i sc'
      injection ay with ay;injection ay with h1 h2
      subst h1;subst h2
      obtain⟨g1,g2⟩:=bj.cons
      exact main sc' g1 g2 hk
     ·split at ay
      ·rename_i cells
       cases hle:Nat.ble (off+cs.length) cells.length with
       |false=>simp[hle] at ay
       |true =>
        simp only[hle,cond_true] at ay
        injection ay with ay;injection ay with h1 h2
        subst h1;subst h2
        exact main _ (Nat.le_of_ble_eq_true hle) rfl hk
      ·cases ay
   ·cases ay
  ·cases ay
 ·cases ay
def EP(s s':St):Prop:=(∀t,s'.env.get t=s.env.get t)∧∀r,s'.aw.get r=s.aw.get r
theorem Rel.ER(hl:EP s s')(hr:Rel Γ s a w):Rel Γ s' a w:=by
 obtain⟨β,I,hr⟩:=hr
 have hd:∀r,aT s'.aw r↔aT s.aw r:=fun r=>by unfold aT;rw[hl.2 r]
 have ss:∀r,aT s.aw r→aT s'.aw r:=fun r h=>(hd r).2 h
 refine⟨β,I,fun t e he=>(hr.env t e (by rw[←hl.1 t];exact he)).mono (fun _ _=>rfl) ss (fun _ h=>h) (fun _ _ _=>rfl) (fun _ _ _ _=>rfl),
  ⟨fun r sc hx => ?_,fun x y b hx hy=>hr.aw.2 x y b ((hd x).1 hx) ((hd y).1 hy)⟩,fun x hx=>hr.par x ((hd x).1 hx),fun x b hx=>hr.new x b ((hd x).1 hx),hr.ib,hr.ii,hr.aB,hr.size,hr.defers⟩
 obtain⟨g1,g2⟩:=hr.aw.1 r sc (by rw[←hl.2 r];exact hx)
 exact⟨g1.mono rfl (fun _ _=>rfl) (fun _ _=>rfl) ss (fun _ h=>h) (fun _ _ _=>rfl) (fun _ _ _ _=>rfl),g2⟩
end
end Go.Proofs.YtnjhplhbmapclaaGreatDoor.Sym
