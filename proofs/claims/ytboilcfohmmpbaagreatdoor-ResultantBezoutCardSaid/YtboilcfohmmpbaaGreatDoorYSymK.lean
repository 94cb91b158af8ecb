/- Bezout and Accepts of the program answer as the reference does. -/
import Derived.Test.YtboilcfohmmpbaaGreatDoorYSymJ
namespace Go.Proofs.YtboilcfohmmpbaaGreatDoor.Sym
open Go Go.RowKit
def Callable (P : Program) (f : FuncId) : Prop := ∃ fn, P.funcs[f]? = some fn ∧ fn.body.isSome = true ∧ (fn.name == "runtime.NumGoroutine") = false
def CallPost(sin sout:Sto)(r:EV)(β:Nat→Option Nat)(I:Nat→Prop)(w:World)(e:Ending)(w':World):Prop :=
 ∃v β',e = .returned v∧(∀x,dom sin x→¬gv x→β' x=β x)∧Keeps (fun b=>∃x,dom sin x∧β x=some b) w w' ∧
  StoOk β' (fun b=>I b∨((fresh w w' b∨Gvn sin β b)∧∀x,dom sout x→β' x≠some b)) w' sout ∧
  RE β' (dom sout) (fun b=>I b∨((fresh w w' b∨Gvn sin β b)∧∀x,dom sout x→β' x≠some b)) w' r v ∧
  (∀x b,dom sout x→¬dom sin x→β' x=some b→fresh w w' b∨Gvn sin β b)
def ContractX(P:Program)(f:FuncId)(args:List EV)(sin:Sto)(r:EV)(sout:Sto):Prop :=
 Callable P f∧∀(I:Nat→Prop) (w:World) (β:Nat→Option Nat) (vs:Array Value),(∀b,I b→b<w.heap.size)→StoOk β I w sin→args.length=vs.size →
  (∀(j:Nat) e v,args[j]? = some e→vs[j]? = some v→RE β (dom sin) I w e v)→Calls P f vs w (CallPost sin sout r β I w)
def Contract(P:Program)(f:FuncId)(args:List PV)(r:PV):Prop:=ContractX P f (args.map EV.pv) [] (.pv r) []
def dstOk(n:Nat):Option Nat→Bool
 |none=>true
 |some d=>Nat.blt d n
theorem dstOk_spec{n:Nat}{dst:Option Nat}(h:dstOk n dst=true):∀d,dst=some d→d<n:=by
 intro d hd;subst hd
 exact Nat.le_of_ble_eq_true h
def preKill(op:Op)(dst:Option Nat)(s:St):St :=
 match op,dst with
 |.alloc _,some d=>kill d s
 |.box _ _,some d=>kill d s
 |.buildSlice _ _ _,some d=>kill d s
 |.makeSlice _ _ _,some d=>kill d s
 |_,_=>s
def addRes(s:St)(dst:Option Nat)(res:OpRes):Option (St×List Prop) :=
 match res.new with
 |none=>some (⟨setD s.env dst res.val,s.sto⟩,res.ob)
 |some sc=>match dst with
  |some d=>match s.sto.get d with
   |none=>some (⟨setD s.env (some d) res.val,(d,sc)::s.sto⟩,res.ob)
   |some _=>none
  |none=>none
def stepGen(T:Tab)(n:Nat)(o:Oper)(h:Hint)(s:St):Option (St×List Prop) :=
 bif dstOk n o.dst then
  match opRun T (preKill o.op o.dst s).sto o.dst o.op (evalO (preKill o.op o.dst s).env) h with
  |some res=>addRes (preKill o.op o.dst s) o.dst res
  |none=>none
 else none
section
variable {P:Program} {T:Tab} {Γ:Ctx} {s s':St} {a:Act} {w:World} {β:Nat→Option Nat} {I:Nat→Prop} {o:Oper} {h:Hint} {ob:List Prop}
theorem RelB.preKill(hr:RelB Γ s a w β I)(op:Op)(dst:Option Nat):RelB Γ (preKill op dst s) a w β I:=by
 unfold Sym.preKill
 split<;>first|exact hr.kill _|exact hr
theorem rel_post(hs:∀r,dom Γ.sin r→Γ.n≤r)(hr:RelB Γ s a w β I){dst:Option Nat}(hd:dstOk Γ.n dst=true){res:OpRes}{v:Value}{w':World}(hp:Post β (dom s.sto) I w dst res v w')
  (hst:addRes s dst res=some (s',ob)):Rel Γ s' (a.put dst v) w'∧ob=res.ob:=by
 obtain⟨val,new,ob'⟩:=res
 obtain⟨hb,hp⟩:=hp
 unfold addRes at hst
 cases new with
 |none =>
  injection hst with hst
  injection hst with h1 h2
  subst h1;subst h2
  refine⟨⟨β,_,(hr.grow hb (fun b hI => .inl hI) (fun b hI=>hI)).put (dstOk_spec hd) hp⟩,rfl⟩
 |some sc =>
  obtain⟨d,b,rfl,hfb,hp⟩:=hp
  simp only at hst
  split at hst
  ·rename_i hnone
   injection hst with hst
   injection hst with h1 h2
   subst h1;subst h2
   have hnd:¬dom s.sto d:=by unfold dom;rw[hnone];simp
   have hdn:=dstOk_spec hd d rfl
   have hns:¬dom Γ.sin d:=fun h=>by have:=hs d h;omega
   obtain⟨hrb,hre⟩:=hp hnd
   have hg:RelB Γ s a w' β (fun x=>I x∨(fresh w w' x∧x≠b)):=hr.grow hb (fun b hI => .inl hI) (fun x hx=>hx.elim .inl fun h => .inr h.1)
   have hsite:=hg.site (d:=d) (sc:=sc) (Nat.lt_of_lt_of_le hdn Γ.small) hnd hns (β':=upd β d b) (fun r hne=>by simp[upd,hne]) (fun b' hb'=>by
    have:b'=b:=by simpa[upd] using hb'.symm
    subst this
    refine⟨hfb.2,fun hx => ?_,.inl (Nat.le_trans hr.keep.size hfb.1),fun r hdr e => ?_⟩
    ·rcases hx with hx|hx
     ·have:=hr.ib _ hx;have:=hfb.1;omega
     ·exact hx.2 rfl
    ·have:=hr.lb r b' hdr e;have:=hfb.1;omega) hrb
   exact⟨⟨_,_,hsite.put (dst:=some d) (fun d' hd'=>by injection hd' with hd';omega) (hre.mono (fun _ _=>rfl) (fun r hr=>(dom_cons (Nat.lt_of_lt_of_le hdn Γ.small)).2 (hr.elim .inr .inl)) (fun _ h=>h) (fun _ _ _=>rfl) (fun _ _ _ _=>rfl))⟩,rfl⟩
  ·cases hst
theorem stepGen_sound(hT:TOk P T)(hs:∀r,dom Γ.sin r→Γ.n≤r)(hr:Rel Γ s a w)(hst:stepGen T Γ.n o h s=some (s',ob))(hob:Alls ob){K:Act→World→Prop}{Q:Exit→Act→World→Prop}
  (hk:∀a' w',Rel Γ s' a' w'→K a' w'):o.wp P a w K Q:=by
 obtain⟨β,I,hr⟩:=hr
 unfold stepGen at hst
 cases hd:dstOk Γ.n o.dst with
 |false=>simp[hd] at hst
 |true =>
  simp only[hd,cond_true] at hst
  have hr1:=hr.preKill o.op o.dst
  split at hst
  ·rename_i res hres
   have hobs:ob=res.ob:=by
    unfold addRes at hst
    split at hst
    ·injection hst with hst;injection hst with _ h2;exact h2.symm
    ·split at hst
     ·split at hst
      ·injection hst with hst;injection hst with _ h2;exact h2.symm
      ·cases hst
     ·cases hst
   rw[hobs] at hob
   obtain⟨v,w',hrun,hpost⟩:=opRun_sound hT hr1.pre hres hob
   have:=(rel_post hs hr1 hd hpost hst).1
   unfold Oper.wp
   rw[hrun]
   exact hk _ _ this
  ·cases hst
def Sto.set0:Sto→Nat→SC→Sto
 |[],_,_=>[]
 |(r',c)::s,r,sc=>bif Nat.beq r' r then (r',sc)::s else (r',c)::Sto.set0 s r sc
theorem Sto.get0_set0:∀(s:Sto) (r x:Nat) (sc:SC),(Sto.set0 s r sc).get0 x=if x=r then (s.get0 x).map (fun _=>sc) else s.get0 x
 |[],r,x,sc=>by simp[Sto.set0,Sto.get0]
 |(r',c)::s,r,x,sc=>by
  simp only[Sto.set0]
  cases hb:Nat.beq r' r with
  |true =>
   have:r'=r:=Nat.eq_of_beq_eq_true hb
   subst this
   simp only[cond_true,Sto.get0]
   by_cases hx:x=r'
   ·subst hx;simp
   ·have h2:Nat.beq r' x=false:=beq_ne (Ne.symm hx)
    simp[hx,h2]
  |false =>
   simp only[cond_false,Sto.get0,Sto.get0_set0 s r x sc]
   cases h2:Nat.beq r' x with
   |true =>
    have:r'=x:=Nat.eq_of_beq_eq_true h2
    subst this
    have hne:r'≠r:=by intro e;subst e;simp at hb
    simp[hne]
   |false=>simp
def Sto.set(s:Sto)(r:Nat)(sc:SC):Sto:=bif Nat.blt r 999999 then Sto.set0 s r sc else s
theorem Sto.get_set(s:Sto)(r x:Nat)(sc:SC):(Sto.set s r sc).get x=if x=r∧r<999999 then (s.get x).map (fun _=>sc) else s.get x:=by
 unfold Sto.set
 by_cases hr:r<999999
 ·rw[show Nat.blt r 999999=true from Nat.ble_eq_true_of_le hr]
  simp only[cond_true,hr,and_true]
  rcases num3 x with h|rfl|⟨j,rfl⟩
  ·rw[Sto.get_lt h,Sto.get_lt h,Sto.get0_set0]
  ·rw[Sto.get_mid,Sto.get_mid];simp
  ·rw[Sto.get_hc,Sto.get_hc,if_neg (by unfold hc;omega)]
   unfold Sto.hp
   rw[Sto.get0_set0,if_neg (by omega)]
 ·rw[show Nat.blt r 999999=false from Bool.eq_false_iff.2 (fun h=>hr (Nat.le_of_ble_eq_true h))]
  simp[hr]
theorem dom_set{s:Sto}{r x:Nat}{sc:SC} : dom (Sto.set s r sc) x↔dom s x:=by
 unfold dom
 rw[Sto.get_set]
 split<;>simp
theorem shape_setRow(w:World)(g k:Nat)(cs old:Array Value)(t:TypeId)(fr:Nat×Nat)(hg:w.heap[g]? = some (.cells old t fr))(hs:cs.size=old.size):(w.setRow g cs).shape? k=w.shape? k:=by
 by_cases hk:k=g
 ·subst hk
  unfold World.shape?
  rw[setRow_heap w k old cs t fr hg,hg]
  simp[hs]
 ·exact shape_heap (setRow_other w g k cs hk)
theorem RelB.writeG (hr : RelB Γ s a w β I) {r b : Nat} {sc sc' : SC} {sto' : Sto} (hset : ∀ x, sto'.get x = if x = r then (s.sto.get x).map (fun _ => sc') else s.sto.get x) (hsc : s.sto.get r = some sc) (hb : β r = some b) {arr arr' : Array Value} {el : TypeId} (hg : w.heap[b]? = some (.cells arr el (0, 0)))
    (hsz : arr'.size = arr.size) (hnew : ∀ (j : Nat) e, sc'.evs[j]? = some e → ∃ u, arr'[j]? = some u ∧ u.oneCell' = true ∧ RE β (dom s.sto) I w e u) :
    RelB Γ ⟨s.env, sto'⟩ a (w.setRow b arr') β I := by
  have hds : ∀ {x}, dom sto' x ↔ dom s.sto x := fun {x} => by
    unfold dom; rw [hset]; split <;> simp
  have hdr : dom s.sto r := by unfold dom; rw [hsc]; rfl
  have hbI : ¬ I b := ((hr.sto.1 r sc hsc).2 b hb).2
  have hw : ∀ b' o, I b' → (w.setRow b arr').cell? ⟨b', o, none⟩ = w.cell? ⟨b', o, none⟩ := fun b' o hI => cell_heap (setRow_other w b b' arr' (fun e => hbI (e ▸ hI))) o
  have hsh : ∀ k, (w.setRow b arr').shape? k = w.shape? k := fun k => shape_setRow w b k arr' arr el (0, 0) hg hsz
  have hsize : (w.setRow b arr').heap.size = w.heap.size := by simp [World.setRow]
  have hL : ∀ x, dom s.sto x → dom sto' x := fun x hx => hds.2 hx
  refine ⟨fun t e he => (hr.env t e he).mono (fun _ _ => rfl) hL (fun _ h => h) hw (fun _ b' _ _ => hsh b'), ⟨fun x scx hx => ?_, fun x y b' hx hy => hr.sto.2 x y b' (hds.1 hx) (hds.1 hy)⟩,
    fun x hx => hr.par x (hds.1 hx), fun x b' hx => hr.new x b' (hds.1 hx), fun b' hI => by rw [hsize]; exact hr.ib b' hI, fun b' hI => ?_, ?_, hr.size, hr.defers⟩
  · rw [hset] at hx
    by_cases hxr : x = r
    · subst hxr
      rw [if_pos rfl, hsc] at hx
      simp only [Option.map_some, Option.some.injEq] at hx
      subst hx
      refine ⟨.inr ⟨b, arr', el, hb, setRow_heap w b arr arr' el (0, 0) hg, fun j e he => ?_⟩, fun b' hb' => by rw [hsize]; exact (hr.sto.1 x sc hsc).2 b' hb'⟩
      obtain ⟨u, g1, g2, g3⟩ := hnew j e he
      exact ⟨u, g1, g2, g3.mono (fun _ _ => rfl) hL (fun _ h => h) hw (fun _ b' _ _ => hsh b')⟩
    · rw [if_neg hxr] at hx
      obtain ⟨g1, g2⟩ := hr.sto.1 x scx hx
      have hdx : dom s.sto x := by unfold dom; rw [hx]; rfl
      refine ⟨g1.mono rfl (fun b' hb' => setRow_other w b b' arr' (fun e => hxr (hr.sto.2 x r b hdx hdr (e ▸ hb') hb))) (fun _ _ => rfl) hL (fun _ h => h) hw (fun _ b' _ _ => hsh b'), fun b' hb' => by rw [hsize]; exact g2 b' hb'⟩
  · rcases hr.ii b' hI with h1 | h1
    · exact .inl h1
    · exact .inr (h1.imp (fun h1 => ⟨h1.1, by rw [hsize]; exact h1.2⟩) id)
  · refine ⟨hr.keep.os, hr.keep.tape, hr.keep.output, by rw [hsize]; exact hr.keep.size, fun k hk hM => ?_, fun k hk => (hsh k).trans (hr.keep.shape k hk), hr.keep.drawn⟩
    refine (setRow_other w b k arr' (fun e => ?_)).trans (hr.keep.block k hk hM)
    subst e
    by_cases hsr : dom Γ.sin r ∧ ¬ gv r
    · exact hM ⟨r, hsr.1, by rw [← hr.par r hdr hsr.1 hsr.2]; exact hb⟩
    · exact hM ((hr.new r k hdr (by by_cases h : dom Γ.sin r; · exact .inr (Classical.byContradiction fun h2 => hsr ⟨h, h2⟩)
                                    · exact .inl h) hb).m hk)
theorem RelB.write(hr:RelB Γ s a w β I){r b:Nat}{sc sc':SC}(hr9:r<999999)(hsc:s.sto.get r=some sc)(hb:β r=some b){arr arr':Array Value}{el:TypeId}(hg:w.heap[b]? = some (.cells arr el (0,0)))
  (hsz:arr'.size=arr.size) (hnew:∀(j:Nat) e,sc'.evs[j]? = some e→∃u,arr'[j]? = some u∧u.oneCell'=true∧RE β (dom s.sto) I w e u) :
  RelB Γ ⟨s.env,Sto.set s.sto r sc'⟩ a (w.setRow b arr') β I :=
 hr.writeG (fun x=>by rw[Sto.get_set];simp[hr9]) hsc hb hg hsz hnew
def stepStore(T:Tab)(o:Oper)(h:Hint)(s:St):Option (St×List Prop) :=
 match o.op,o.dst with
 |.store t x y,none=>match T.get t,evalO s.env x,evalO s.env y with
  |some d,some (.ptr r off),some e=>match cellsEV e,s.sto.get r with
   |some cs,some sc=>bif Nat.beq cs.length d.size&&Nat.blt r 999999 then
     match h with
     |.cells sc'=>some (⟨s.env,Sto.set s.sto r sc'⟩,[off+cs.length≤sc.evs.length,splice sc.evs off cs=sc'.evs])
     |_=>match sc with
      |.lit cells=>bif Nat.ble (off+cs.length) cells.length then some (⟨s.env,Sto.set s.sto r (.lit (splice cells off cs))⟩,[]) else none
      |_=>none
    else none
   |_,_=>none
  |_,_,_=>none
 |_,_=>none
theorem cellsEV_len{e:EV}{cs:List EV}{v:Value}{L:Nat→Prop}(he:RE β L I w e v)(h:cellsEV e=some cs):v.cells.size=cs.length:=by
 cases e with
 |pv p =>
  unfold cellsEV at h
  cases ht:p.isTup with
  |true=>simp[ht] at h
  |false =>
   simp[ht] at h
   subst h
   have hr:RdCells I w p.cells v.cells.toList:=Rd.cells he (fun vs e=>by subst e;simp[PV.isTup] at ht)
   have:=hr.1
   simpa using this.symm
 |ptr r off=>injection h with h;subst h;obtain⟨_,b,_,rfl⟩:=he;rfl
 |row r off len sz =>
  injection h with h;subst h
  obtain⟨_,⟨_,_,rfl⟩|⟨b,c,_,rfl,_⟩⟩:=he<;>rfl
 |mrow r len sz =>
  injection h with h;subst h
  obtain⟨_,⟨_,_,rfl⟩|⟨b,c,_,rfl,_⟩⟩:=he<;>rfl
 |mptr r off=>injection h with h;subst h;obtain⟨_,b,_,rfl⟩:=he;rfl
 |cptr c=>injection h with h;subst h;obtain⟨b,o,rfl,_⟩:=he;rfl
 |dead=>cases h
 |rowT _ _ _ _ _=>cases h
 |clo _ _=>cases h
theorem RB.block{L:Nat→Prop}{r b:Nat}{cells:List EV}(h:RB β L I w r cells)(hb:β r=some b) :
  ∃arr el,w.heap[b]? = some (.cells arr el (0,0))∧cells.length≤arr.size∧∀(j:Nat) e,cells[j]? = some e→∃u,arr[j]? = some u∧u.oneCell'=true∧RE β L I w e u:=by
 rcases h with ⟨h1,h2⟩|⟨b',arr,el,hb',h1,h2⟩
 ·rw[h1] at hb;cases hb
 ·rw[hb'] at hb;injection hb with hb;subst hb
  refine⟨arr,el,h1,?_,h2⟩
  rcases Nat.eq_zero_or_pos cells.length with h0|h0
  ·omega
  ·obtain⟨u,h3,_⟩:=h2 (cells.length-1) _ (List.getElem?_eq_getElem (by omega))
   have:=(Array.getElem?_eq_some_iff.1 h3).1
   omega
theorem stepStore_sound(hT:TOk P T)(hr:Rel Γ s a w)(hst:stepStore T o h s=some (s',ob))(hob:Alls ob){K:Act→World→Prop}{Q:Exit→Act→World→Prop}
  (hk:∀a' w',Rel Γ s' a' w'→K a' w'):o.wp P a w K Q:=by
 obtain⟨β,I,hr⟩:=hr
 unfold stepStore at hst
 split at hst
 ·rename_i t x y hop hdst
  split at hst
  ·rename_i d r off e hd hx hy
   split at hst
   ·rename_i cs sc hcs hsc
    cases hl0:(Nat.beq cs.length d.size&&Nat.blt r 999999) with
    |false=>simp[hl0] at hst
    |true =>
     simp only[hl0,cond_true] at hst
     rw[Bool.and_eq_true] at hl0
     have hl:=hl0.1
     have hr9:r<999999:=Nat.le_of_ble_eq_true hl0.2
     have hl':cs.length=d.size:=Nat.eq_of_beq_eq_true hl
     obtain⟨hdr,b,hb,hv⟩:=hr.evO x _ hx
     have hey:=hr.evO y _ hy
     obtain⟨arr,el,hg,hla,hcells⟩:=(hr.sto.1 r sc hsc).1.block hb
     have hvl:=cellsEV_len hey hcs
     have main:∀sc':SC,off+cs.length≤sc.evs.length→splice sc.evs off cs=sc'.evs→(∀a' w',Rel Γ ⟨s.env,Sto.set s.sto r sc'⟩ a' w'→K a' w')→o.wp P a w K Q:=by
      intro sc' hle hsp hk'
      have h1:∀u∈(a.eval y).cells.toList,u.oneCell'=true:=by
       intro u hu
       obtain⟨j,hj⟩:=List.mem_iff_getElem?.1 hu
       have hjl:j<cs.length:=by
        have:=(List.getElem?_eq_some_iff.1 hj).1
        simp at this;omega
       obtain⟨u',g1,g2,_⟩:=cellsEV_sound hey hcs j _ (List.getElem?_eq_getElem hjl)
       have:u'=u:=by simpa[g1] using hj
       subst this;exact g2
      have hst':=run_storeCells_at P b off el (a.eval y).cells.toList 0 arr w hg (by simp;omega) h1
      simp only[Nat.add_zero] at hst'
      have hlen:(arr.toList.take off++(a.eval y).cells.toList++arr.toList.drop (off+(a.eval y).cells.toList.length)).toArray.size=arr.size:=by
       simp;omega
      have hrel:=hr.write (sc':=sc') hr9 hsc hb hg hlen (fun j e' he'=>by
       rw[←hsp,splice_get _ _ _ hle] at he'
       have hget:(arr.toList.take off++(a.eval y).cells.toList++arr.toList.drop (off+(a.eval y).cells.toList.length)).toArray[j]? = if off≤j∧j<off+cs.length then (a.eval y).cells[j-off]? else arr[j]? := by
        have:=splice_get arr.toList off (a.eval y).cells.toList (by simp;omega) j
        unfold splice at this
        rw[←List.append_assoc] at this
        simp only[List.getElem?_toArray]
        rw[this]
        simp only[Array.length_toList,hvl,Array.getElem?_toList]
       rw[hget]
       by_cases hj:off≤j∧j<off+cs.length
       ·rw[if_pos hj] at he' ⊢
        exact cellsEV_sound hey hcs _ e' he'
       ·rw[if_neg hj] at he' ⊢
        exact hcells j e' he')
      unfold Oper.wp execOp
      simp only[hop,Instr.storeAt]
      rw[hv]
      simp only[Instr.sureAddr,Sem.run_bind,Sem.run_pure,Result.andThen_ok,storeVar,(hT t d hd).run_sizeOf w]
      rw[if_neg (by simp;omega)]
      rw[hst']
      simp only[Result.andThen_ok]
      show K (a.put o.dst undef) _
      rw[hdst]
      exact hk' _ _ ⟨β,I,hrel⟩
     split at hst
     ·rename_i sc'
      injection hst with hst;injection hst with h1 h2
      subst h1;subst h2
      obtain⟨g1,g2⟩:=hob.cons
      exact main sc' g1 g2 hk
     ·split at hst
      ·rename_i cells
       cases hle:Nat.ble (off+cs.length) cells.length with
       |false=>simp[hle] at hst
       |true =>
        simp only[hle,cond_true] at hst
        injection hst with hst;injection hst with h1 h2
        subst h1;subst h2
        exact main _ (Nat.le_of_ble_eq_true hle) rfl hk
      ·cases hst
   ·cases hst
  ·cases hst
 ·cases hst
def Sto.hput:Sto→List (Option (List PV))→Sto
 |[],_=>[]
 |(r,c)::s,xs=>bif Nat.beq r 999999 then (r,.heap xs)::s else (r,c)::Sto.hput s xs
theorem Sto.hput_get0(xs:List (Option (List PV))):∀(s:Sto) (x:Nat),(Sto.hput s xs).get0 x=if x=999999 then (s.get0 x).map (fun _ => .heap xs) else s.get0 x
 |[],x=>by simp[Sto.hput,Sto.get0]
 |(r,c)::s,x=>by
  simp only[Sto.hput]
  cases hb:Nat.beq r 999999 with
  |true =>
   have:r=999999:=Nat.eq_of_beq_eq_true hb
   subst this
   simp only[cond_true]
   by_cases hx:x=999999
   ·subst hx;simp[Sto.get0]
   ·have h2:Nat.beq 999999 x=false:=beq_ne (Ne.symm hx)
    simp[Sto.get0,h2,hx]
  |false =>
   simp only[cond_false,Sto.get0,Sto.hput_get0 xs s x]
   by_cases hx:x=999999
   ·subst hx;simp[hb]
   ·simp[hx]
theorem Sto.hput_hp{xs ys:List (Option (List PV))}{s:Sto}(h:s.get0 999999=some (.heap ys)):(Sto.hput s xs).hp=xs:=by
 unfold Sto.hp
 rw[Sto.hput_get0,if_pos rfl,h]
 rfl
theorem Sto.hput_get{xs ys:List (Option (List PV))}{s:Sto}(h:s.get0 999999=some (.heap ys))(x:Nat)(hx:∀j,x=hc j→heapAt xs j=heapAt s.hp j):(Sto.hput s xs).get x=s.get x:=by
 rcases num3 x with hlt|rfl|⟨j,rfl⟩
 ·rw[Sto.get_lt hlt,Sto.get_lt hlt,Sto.hput_get0,if_neg (by omega)]
 ·rw[Sto.get_mid,Sto.get_mid]
 ·rw[Sto.get_hc,Sto.get_hc,Sto.hput_hp h,hx j rfl]
theorem Sto.hput_set{s:Sto}{j:Nat}{ps old:List PV}{xs:List (Option (List PV))}(ho:s.hp[j]? = some (some old))(hx:s.hp.set j (some ps)=xs)(x:Nat) :
  (Sto.hput s xs).get x=if x=hc j then (s.get x).map (fun _ => .pure ps) else s.get x:=by
 have hh:s.get0 999999=some (.heap s.hp):=by
  unfold Sto.hp at ho ⊢
  split at ho
  ·rename_i ys hg;rw[hg]
  ·simp at ho
 by_cases hxj:x=hc j
 ·subst hxj
  rw[if_pos rfl,Sto.get_hc,Sto.get_hc,Sto.hput_hp hh,←hx]
  unfold heapAt
  rw[ho,List.getElem?_set]
  have:=(List.getElem?_eq_some_iff.1 ho).1
  simp[this]
 ·rw[if_neg hxj]
  refine Sto.hput_get hh x (fun k hk => ?_)
  unfold heapAt
  rw[←hx,List.getElem?_set_ne (fun e=>hxj (by rw[hk,e]))]
def stepStoreM(T:Tab)(o:Oper)(h:Hint)(s:St):Option (St×List Prop) :=
 match o.op,o.dst,h with
 |.store t x y,none,.mset ps out xs=>match T.get t,evalO s.env x,evalO s.env y with
  |some d,some (.mptr j off),some (.pv p)=>bif Nat.beq p.cells.length d.size && !p.isTup then
    some (⟨s.env,Sto.hput s.sto xs⟩,[s.sto.hp[j]? = some (some ps),off+p.cells.length≤ps.length,splice ps off p.cells=out,s.sto.hp.set j (some out)=xs])
   else none
  |_,_,_=>none
 |_,_,_=>none
theorem stepStoreM_sound(hT:TOk P T)(hr:Rel Γ s a w)(hst:stepStoreM T o h s=some (s',ob))(hob:Alls ob){K:Act→World→Prop}{Q:Exit→Act→World→Prop}
  (hk:∀a' w',Rel Γ s' a' w'→K a' w'):o.wp P a w K Q:=by
 obtain⟨β,I,hr⟩:=hr
 unfold stepStoreM at hst
 split at hst
 ·rename_i t x y ps out xs hop hdst
  split at hst
  ·rename_i d j off p hd hx hy
   cases hl0:(Nat.beq p.cells.length d.size && !p.isTup) with
   |false=>simp[hl0] at hst
   |true =>
    simp only[hl0,cond_true] at hst
    simp only[Bool.and_eq_true,Bool.not_eq_true'] at hl0
    have hl':p.cells.length=d.size:=Nat.eq_of_beq_eq_true hl0.1
    injection hst with hst;injection hst with h1 h2
    subst h1;subst h2
    obtain⟨g1,hob⟩:=hob.cons
    obtain⟨g2,hob⟩:=hob.cons
    obtain⟨g3,g4⟩:=hob.cons
    have g4:s.sto.hp.set j (some out)=xs:=g4
    obtain⟨hdr,b,hb,hv⟩:=hr.evO x _ hx
    have hey:=hr.evO y _ hy
    have hcs:cellsEV (.pv p)=some (p.cells.map EV.pv):=by simp[cellsEV,hl0.2]
    have hget:s.sto.get (hc j)=some (.pure ps):=by rw[Sto.get_hc];unfold heapAt;rw[g1]
    obtain⟨arr,el,hg,hla,hcells⟩:=(hr.sto.1 (hc j) _ hget).1.block hb
    have hla:ps.length≤arr.size:=by simpa[SC.evs] using hla
    have hvl:(a.eval y).cells.size=p.cells.length:=by have:=cellsEV_len hey hcs;simpa using this
    have h1:∀u∈(a.eval y).cells.toList,u.oneCell'=true:=by
     intro u hu
     obtain⟨k,hk⟩:=List.mem_iff_getElem?.1 hu
     have hjl:k<(p.cells.map EV.pv).length:=by
      have:=(List.getElem?_eq_some_iff.1 hk).1
      simp at this;simp;omega
     obtain⟨u',q1,q2,_⟩:=cellsEV_sound hey hcs k _ (List.getElem?_eq_getElem hjl)
     have:u'=u:=by simpa[q1] using hk
     subst this;exact q2
    have hst':=run_storeCells_at P b off el (a.eval y).cells.toList 0 arr w hg (by simp;omega) h1
    simp only[Nat.add_zero] at hst'
    have hlen:(arr.toList.take off++(a.eval y).cells.toList++arr.toList.drop (off+(a.eval y).cells.toList.length)).toArray.size=arr.size:=by
     simp;omega
    have hrel:=hr.writeG (sc' := .pure out) (sto':=Sto.hput s.sto xs) (Sto.hput_set g1 g4) hget hb hg hlen (fun k e' he'=>by
     have he':(out.map EV.pv)[k]? = some e':=he'
     rw[←g3,List.getElem?_map,splice_get _ _ _ g2] at he'
     have hgt:(arr.toList.take off++(a.eval y).cells.toList++arr.toList.drop (off+(a.eval y).cells.toList.length)).toArray[k]? = if off≤k∧k<off+p.cells.length then (a.eval y).cells[k-off]? else arr[k]? := by
      have:=splice_get arr.toList off (a.eval y).cells.toList (by simp;omega) k
      unfold splice at this
      rw[←List.append_assoc] at this
      simp only[List.getElem?_toArray]
      rw[this]
      simp only[Array.length_toList,hvl,Array.getElem?_toList]
     rw[hgt]
     by_cases hj:off≤k∧k<off+p.cells.length
     ·rw[if_pos hj] at he' ⊢
      exact cellsEV_sound hey hcs _ e' (by rw[List.getElem?_map];exact he')
     ·rw[if_neg hj] at he' ⊢
      exact hcells k e' (by show(ps.map EV.pv)[k]? = _;rw[List.getElem?_map];exact he'))
    unfold Oper.wp execOp
    simp only[hop,Instr.storeAt]
    rw[hv]
    simp only[Instr.sureAddr,Sem.run_bind,Sem.run_pure,Result.andThen_ok,storeVar,(hT t d hd).run_sizeOf w]
    rw[if_neg (by simp;omega)]
    rw[hst']
    simp only[Result.andThen_ok]
    show K (a.put o.dst undef) _
    rw[hdst]
    exact hk _ _ ⟨β,I,hrel⟩
  ·cases hst
 ·cases hst
def stepLoadM(T:Tab)(n:Nat)(o:Oper)(h:Hint)(s:St):Option (St×List Prop) :=
 match o.op,h with
 |.load t x,.mseg ps out=>bif dstOk n o.dst then match T.get t,evalO s.env x with
  |some d,some (.mptr j off)=>bif d.agg then some (⟨setD s.env o.dst (.pv (.agg out)),s.sto⟩,[s.sto.hp[j]? = some (some ps),(ps.drop off).take d.size=out,out.length=d.size]) else match out with
    |[p]=>some (⟨setD s.env o.dst (.pv p),s.sto⟩,[s.sto.hp[j]? = some (some ps),ps[off]? = some p])
    |_=>none
  |_,_=>none
  else none
 |_,_=>none
theorem stepLoadM_sound(hT:TOk P T)(hr:Rel Γ s a w)(hst:stepLoadM T Γ.n o h s=some (s',ob))(hob:Alls ob){K:Act→World→Prop}{Q:Exit→Act→World→Prop}
  (hk:∀a' w',Rel Γ s' a' w'→K a' w'):o.wp P a w K Q:=by
 obtain⟨β,I,hr⟩:=hr
 unfold stepLoadM at hst
 split at hst
 ·rename_i t x ps out hop
  cases hdd:dstOk Γ.n o.dst with
  |false=>simp[hdd] at hst
  |true =>
   simp only[hdd,cond_true] at hst
   split at hst
   ·rename_i d j off hd hx
    obtain⟨hLr,b,hbr,hv⟩:=hr.evO x _ hx
    have key:∀{ps:List PV},s.sto.hp[j]? = some (some ps)→RB β (dom s.sto) I w (hc j) (ps.map EV.pv):=fun {ps} hps =>
     (hr.sto.1 (hc j) (.pure ps) (by rw[Sto.get_hc];unfold heapAt;rw[hps])).1
    have fin:∀{e:EV} {v:Value},(loadVar t ⟨b,off,none⟩).run P w = .ok v w→RE β (dom s.sto) I w e v→(∀a' w',Rel Γ ⟨setD s.env o.dst e,s.sto⟩ a' w'→K a' w')→o.wp P a w K Q:=by
     intro e v h1 h2 hk
     unfold Oper.wp execOp
     simp only[hop,Instr.loadAt]
     rw[hv]
     simp only[Instr.sureAddr,Sem.run_bind,Sem.run_pure,Result.andThen_ok]
     rw[h1]
     simp only[Result.andThen_ok]
     exact hk _ _ ⟨β,I,hr.put (dstOk_spec hdd) h2⟩
    cases ha:d.agg with
    |true =>
     simp only[ha,cond_true] at hst
     injection hst with hst;injection hst with h1 h2
     subst h1;subst h2
     obtain⟨h1,hob⟩:=hob.cons
     obtain⟨h2,h3⟩:=hob.cons
     have h3:out.length=d.size:=h3
     obtain⟨v,g1,g2,_⟩:=load_site (h := .none) (off:=off) (res:=⟨.pv (.agg out),none,[]⟩) (hT t d hd) (key h1) hbr (by
      unfold loadEV
      have hm:((ps.map EV.pv).drop off).take d.size=out.map EV.pv:=by rw[←h2,List.map_take,List.map_drop]
      have hall:∀l:List PV,allPV (l.map EV.pv)=some l:=fun l=>by
       induction l with
       |nil=>rfl
       |cons p l ih=>simp[allPV,ih]
      simp[ha,hm,hall,h3,pure1]) True.intro
     exact fin g1 g2 hk
    |false =>
     simp only[ha,cond_false] at hst
     split at hst
     ·rename_i p
      injection hst with hst;injection hst with h1 h2
      subst h1;subst h2
      obtain⟨h1,h2⟩:=hob.cons
      have h2:ps[off]? = some p:=h2
      obtain⟨v,g1,g2,_⟩:=load_site (h := .none) (off:=off) (res:=⟨.pv p,none,[]⟩) (hT t d hd) (key h1) hbr (by
       unfold loadEV
       simp[ha,h2,pure1]) True.intro
      exact fin g1 g2 hk
     ·cases hst
   ·cases hst
 ·cases hst
def Like(s s':St):Prop:=(∀t,s'.env.get t=s.env.get t)∧∀r,s'.sto.get r=s.sto.get r
theorem Rel.like(hl:Like s s')(hr:Rel Γ s a w):Rel Γ s' a w:=by
 obtain⟨β,I,hr⟩:=hr
 have hd:∀r,dom s'.sto r↔dom s.sto r:=fun r=>by unfold dom;rw[hl.2 r]
 have hd1:∀r,dom s.sto r→dom s'.sto r:=fun r h=>(hd r).2 h
 refine⟨β,I,fun t e he=>(hr.env t e (by rw[←hl.1 t];exact he)).mono (fun _ _=>rfl) hd1 (fun _ h=>h) (fun _ _ _=>rfl) (fun _ _ _ _=>rfl),
  ⟨fun r sc hx => ?_,fun x y b hx hy=>hr.sto.2 x y b ((hd x).1 hx) ((hd y).1 hy)⟩,fun x hx=>hr.par x ((hd x).1 hx),fun x b hx=>hr.new x b ((hd x).1 hx),hr.ib,hr.ii,hr.keep,hr.size,hr.defers⟩
 obtain⟨g1,g2⟩:=hr.sto.1 r sc (by rw[←hl.2 r];exact hx)
 exact⟨g1.mono rfl (fun _ _=>rfl) (fun _ _=>rfl) hd1 (fun _ h=>h) (fun _ _ _=>rfl) (fun _ _ _ _=>rfl),g2⟩
end
end Go.Proofs.YtboilcfohmmpbaaGreatDoor.Sym
