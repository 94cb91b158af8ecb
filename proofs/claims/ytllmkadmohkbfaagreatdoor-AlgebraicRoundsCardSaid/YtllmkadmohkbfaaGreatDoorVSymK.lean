/- Lemmas for the statements of this seat. -/
import Derived.Test.YtllmkadmohkbfaaGreatDoorVSymJ
namespace Go.Proofs.YtllmkadmohkbfaaGreatDoor.Sym
open Go Go.RowKit
def nm (P : Program) (f : FuncId) : Prop := ∃ fn, P.funcs[f]? = some fn ∧ fn.body.isSome = true ∧ (fn.name == "runtime.NumGoroutine") = false
def sY(sin sout:aS)(r:EV)(β:Nat→Option Nat)(I:Nat→Prop)(w:World)(e:Ending)(w':World):Prop :=
 ∃v β',e = .returned v∧(∀x,bS sin x→¬gv x→β' x=β x)∧ll (fun b=>∃x,bS sin x∧β x=some b) w w' ∧
  wi β' (fun b=>I b∨((fresh w w' b∨Ko sin β b)∧∀x,bS sout x→β' x≠some b)) w' sout ∧
  RE β' (bS sout) (fun b=>I b∨((fresh w w' b∨Ko sin β b)∧∀x,bS sout x→β' x≠some b)) w' r v ∧
  (∀x b,bS sout x→¬bS sin x→β' x=some b→fresh w w' b∨Ko sin β b)
def av(P:Program)(f:FuncId)(args:List EV)(sin:aS)(r:EV)(sout:aS):Prop :=
 nm P f∧∀(I:Nat→Prop) (w:World) (β:Nat→Option Nat) (vs:Array Value),(∀b,I b→b<w.heap.size)→wi β I w sin→args.length=vs.size →
  (∀(j:Nat) e v,args[j]? = some e→vs[j]? = some v→RE β (bS sin) I w e v)→Calls P f vs w (sY sin sout r β I w)
def fH(P:Program)(f:FuncId)(args:List PV)(r:PV):Prop:=av P f (args.map EV.pv) [] (.pv r) []
def lu(n:Nat):Option Nat→Bool
 |none=>true
 |some d=>Nat.blt d n
theorem eT{n:Nat}{dst:Option Nat}(h:lu n dst=true):∀d,dst=some d→d<n:=by
 intro d hd;subst hd
 exact Nat.le_of_ble_eq_true h
def rH(op:Op)(dst:Option Nat)(s:St):St :=
 match op,dst with
 |.alloc _,some d=>kill d s
 |.box _ _,some d=>kill d s
 |.buildSlice _ _ _,some d=>kill d s
 |.makeSlice _ _ _,some d=>kill d s
 |_,_=>s
def xH(s:St)(dst:Option Nat)(res:nZ):Option (St×List Prop) :=
 match res.new with
 |none=>some (⟨oC s.env dst res.val,s.aG⟩,res.ob)
 |some sc=>match dst with
  |some d=>match s.aG.get d with
   |none=>some (⟨oC s.env (some d) res.val,(d,sc)::s.aG⟩,res.ob)
   |some _=>none
  |none=>none
def zY(T:kL)(n:Nat)(o:Oper)(h:Hint)(s:St):Option (St×List Prop) :=
 bif lu n o.dst then
  match cf T (rH o.op o.dst s).aG o.dst o.op (dw (rH o.op o.dst s).env) h with
  |some res=>xH (rH o.op o.dst s) o.dst res
  |none=>none
 else none
section
variable {P:Program} {T:kL} {Γ:Ctx} {s s':St} {a:Act} {w:World} {β:Nat→Option Nat} {I:Nat→Prop} {o:Oper} {h:Hint} {ob:List Prop}
theorem dD.rH(hr:dD Γ s a w β I)(op:Op)(dst:Option Nat):dD Γ (rH op dst s) a w β I:=by
 unfold Sym.rH
 split<;>first|exact hr.kill _|exact hr
theorem FE(hs:∀r,bS Γ.sin r→Γ.n≤r)(hr:dD Γ s a w β I){dst:Option Nat}(hd:lu Γ.n dst=true){res:nZ}{v:Value}{w':World}(hp:vh β (bS s.aG) I w dst res v w')
  (aI:xH s dst res=some (s',ob)):Rel Γ s' (a.put dst v) w'∧ob=res.ob:=by
 obtain⟨val,new,US⟩:=res
 obtain⟨hb,hp⟩:=hp
 unfold xH at aI
 cases new with
 |none =>
  injection aI with aI
  injection aI with h1 h2
  subst h1;subst h2
  refine⟨⟨β,_,(hr.grow hb (fun b hI => .inl hI) (fun b hI=>hI)).put (eT hd) hp⟩,rfl⟩
 |some sc =>
  obtain⟨d,b,rfl,NX,hp⟩:=hp
  simp only at aI
  split at aI
  ·rename_i uQ
   injection aI with aI
   injection aI with h1 h2
   subst h1;subst h2
   have zZ:¬bS s.aG d:=by unfold bS;rw[uQ];simp
   have uR:=eT hd d rfl
   have FF:¬bS Γ.sin d:=fun h=>by have:=hs d h;omega
   obtain⟨I5,PK⟩:=hp zZ
   have hg:dD Γ s a w' β (fun x=>I x∨(fresh w w' x∧x≠b)):=hr.grow hb (fun b hI => .inl hI) (fun x hx=>hx.elim .inl fun h => .inr h.1)
   have pF:=hg.site (d:=d) (sc:=sc) (Nat.lt_of_lt_of_le uR Γ.small) zZ FF (β':=Od β d b) (fun r di=>by simp[Od,di]) (fun b' fz=>by
    have:b'=b:=by simpa[Od] using fz.symm
    subst this
    refine⟨NX.2,fun hx => ?_,.inl (Nat.le_trans hr.aF.size NX.1),fun r xG e => ?_⟩
    ·rcases hx with hx|hx
     ·have:=hr.ib _ hx;have:=NX.1;omega
     ·exact hx.2 rfl
    ·have:=hr.lb r b' xG e;have:=NX.1;omega) I5
   exact⟨⟨_,_,pF.put (dst:=some d) (fun d' PL=>by injection PL with PL;omega) (PK.mono (fun _ _=>rfl) (fun r hr=>(dQ (Nat.lt_of_lt_of_le uR Γ.small)).2 (hr.elim .inr .inl)) (fun _ h=>h) (fun _ _ _=>rfl) (fun _ _ _ _=>rfl))⟩,rfl⟩
  ·cases aI
theorem uS(hT:nM P T)(hs:∀r,bS Γ.sin r→Γ.n≤r)(hr:Rel Γ s a w)(aI:zY T Γ.n o h s=some (s',ob))(cr:dP ob){K:Act→World→Prop}{Q:Exit→Act→World→Prop}
  (hk:∀a' w',Rel Γ s' a' w'→K a' w'):o.wp P a w K Q:=by
 obtain⟨β,I,hr⟩:=hr
 unfold zY at aI
 cases hd:lu Γ.n o.dst with
 |false=>simp[hd] at aI
 |true =>
  simp only[hd,cond_true] at aI
  have xv:=hr.rH o.op o.dst
  split at aI
  ·rename_i res oD
   have QK:ob=res.ob:=by
    unfold xH at aI
    split at aI
    ·injection aI with aI;injection aI with _ h2;exact h2.symm
    ·split at aI
     ·split at aI
      ·injection aI with aI;injection aI with _ h2;exact h2.symm
      ·cases aI
     ·cases aI
   rw[QK] at cr
   obtain⟨v,w',aq,AJ⟩:=yE hT xv.pre oD cr
   have:=(FE hs xv hd AJ aI).1
   unfold Oper.wp
   rw[aq]
   exact hk _ _ this
  ·cases aI
def aS.HL:aS→Nat→SC→aS
 |[],_,_=>[]
 |(r',c)::s,r,sc=>bif Nat.beq r' r then (r',sc)::s else (r',c)::aS.HL s r sc
theorem aS.xI:∀(s:aS) (r x:Nat) (sc:SC),(aS.HL s r sc).eE x=if x=r then (s.eE x).map (fun _=>sc) else s.eE x
 |[],r,x,sc=>by simp[aS.HL,aS.eE]
 |(r',c)::s,r,x,sc=>by
  simp only[aS.HL]
  cases hb:Nat.beq r' r with
  |true =>
   have:r'=r:=Nat.eq_of_beq_eq_true hb
   subst this
   simp only[cond_true,aS.eE]
   by_cases hx:x=r'
   ·subst hx;simp
   ·have h2:Nat.beq r' x=false:=ij (Ne.symm hx)
    simp[hx,h2]
  |false =>
   simp only[cond_false,aS.eE,aS.xI s r x sc]
   cases h2:Nat.beq r' x with
   |true =>
    have:r'=x:=Nat.eq_of_beq_eq_true h2
    subst this
    have di:r'≠r:=by intro e;subst e;simp at hb
    simp[di]
   |false=>simp
def aS.set(s:aS)(r:Nat)(sc:SC):aS:=bif Nat.blt r 999999 then aS.HL s r sc else s
theorem aS.lP(s:aS)(r x:Nat)(sc:SC):(aS.set s r sc).get x=if x=r∧r<999999 then (s.get x).map (fun _=>sc) else s.get x:=by
 unfold aS.set
 by_cases hr:r<999999
 ·rw[show Nat.blt r 999999=true from Nat.ble_eq_true_of_le hr]
  simp only[cond_true,hr,and_true]
  rcases Fq x with h|rfl|⟨j,rfl⟩
  ·rw[aS.kR h,aS.kR h,aS.xI]
  ·rw[aS.hX,aS.hX];simp
  ·rw[aS.lN,aS.lN,if_neg (by unfold hc;omega)]
   unfold aS.hp
   rw[aS.xI,if_neg (by omega)]
 ·rw[show Nat.blt r 999999=false from Bool.eq_false_iff.2 (fun h=>hr (Nat.le_of_ble_eq_true h))]
  simp[hr]
theorem gK{s:aS}{r x:Nat}{sc:SC} : bS (aS.set s r sc) x↔bS s x:=by
 unfold bS
 rw[aS.lP]
 split<;>simp
theorem rI(w:World)(g k:Nat)(cs VG:Array Value)(t:TypeId)(fr:Nat×Nat)(hg:w.heap[g]? = some (.cells VG t fr))(hs:cs.size=VG.size):(w.setRow g cs).shape? k=w.shape? k:=by
 by_cases hk:k=g
 ·subst hk
  unfold World.shape?
  rw[setRow_heap w k VG cs t fr hg,hg]
  simp[hs]
 ·exact rr (setRow_other w g k cs hk)
theorem dD.QL (hr : dD Γ s a w β I) {r b : Nat} {sc sc' : SC} {xJ : aS} (Oq : ∀ x, xJ.get x = if x = r then (s.aG.get x).map (fun _ => sc') else s.aG.get x) (pr : s.aG.get r = some sc) (hb : β r = some b) {arr sZ : Array Value} {el : TypeId} (hg : w.heap[b]? = some (.cells arr el (0, 0)))
    (lI : sZ.size = arr.size) (qQ : ∀ (j : Nat) e, sc'.sE[j]? = some e → ∃ u, sZ[j]? = some u ∧ u.oneCell' = true ∧ RE β (bS s.aG) I w e u) :
    dD Γ ⟨s.env, xJ⟩ a (w.setRow b sZ) β I := by
  have Oh : ∀ {x}, bS xJ x ↔ bS s.aG x := fun {x} => by
    unfold bS; rw [Oq]; split <;> simp
  have xG : bS s.aG r := by unfold bS; rw [pr]; rfl
  have Kp : ¬ I b := ((hr.aG.1 r sc pr).2 b hb).2
  have hw : ∀ b' o, I b' → (w.setRow b sZ).cell? ⟨b', o, none⟩ = w.cell? ⟨b', o, none⟩ := fun b' o hI => ig (setRow_other w b b' sZ (fun e => Kp (e ▸ hI))) o
  have C4 : ∀ k, (w.setRow b sZ).shape? k = w.shape? k := fun k => rI w b k sZ arr el (0, 0) hg lI
  have wg : (w.setRow b sZ).heap.size = w.heap.size := by simp [World.setRow]
  have hL : ∀ x, bS s.aG x → bS xJ x := fun x hx => Oh.2 hx
  refine ⟨fun t e he => (hr.env t e he).mono (fun _ _ => rfl) hL (fun _ h => h) hw (fun _ b' _ _ => C4 b'), ⟨fun x Zj hx => ?_, fun x y b' hx hy => hr.aG.2 x y b' (Oh.1 hx) (Oh.1 hy)⟩,
    fun x hx => hr.par x (Oh.1 hx), fun x b' hx => hr.new x b' (Oh.1 hx), fun b' hI => by rw [wg]; exact hr.ib b' hI, fun b' hI => ?_, ?_, hr.size, hr.defers⟩
  · rw [Oq] at hx
    by_cases CB : x = r
    · subst CB
      rw [if_pos rfl, pr] at hx
      simp only [Option.map_some, Option.some.injEq] at hx
      subst hx
      refine ⟨.inr ⟨b, sZ, el, hb, setRow_heap w b arr sZ el (0, 0) hg, fun j e he => ?_⟩, fun b' fz => by rw [wg]; exact (hr.aG.1 x sc pr).2 b' fz⟩
      obtain ⟨u, g1, g2, g3⟩ := qQ j e he
      exact ⟨u, g1, g2, g3.mono (fun _ _ => rfl) hL (fun _ h => h) hw (fun _ b' _ _ => C4 b')⟩
    · rw [if_neg CB] at hx
      obtain ⟨g1, g2⟩ := hr.aG.1 x Zj hx
      have Hk : bS s.aG x := by unfold bS; rw [hx]; rfl
      refine ⟨g1.mono rfl (fun b' fz => setRow_other w b b' sZ (fun e => CB (hr.aG.2 x r b Hk xG (e ▸ fz) hb))) (fun _ _ => rfl) hL (fun _ h => h) hw (fun _ b' _ _ => C4 b'), fun b' fz => by rw [wg]; exact g2 b' fz⟩
  · rcases hr.ii b' hI with h1 | h1
    · exact .inl h1
    · exact .inr (h1.imp (fun h1 => ⟨h1.1, by rw [wg]; exact h1.2⟩) id)
  · refine ⟨hr.aF.os, hr.aF.tape, hr.aF.output, by rw [wg]; exact hr.aF.size, fun k hk hM => ?_, fun k hk => (C4 k).trans (hr.aF.shape k hk), hr.aF.drawn⟩
    refine (setRow_other w b k sZ (fun e => ?_)).trans (hr.aF.block k hk hM)
    subst e
    by_cases hsr : bS Γ.sin r ∧ ¬ gv r
    · exact hM ⟨r, hsr.1, by rw [← hr.par r xG hsr.1 hsr.2]; exact hb⟩
    · exact hM ((hr.new r k xG (by by_cases h : bS Γ.sin r; · exact .inr (Classical.byContradiction fun h2 => hsr ⟨h, h2⟩)
                                   · exact .inl h) hb).m hk)
theorem dD.write(hr:dD Γ s a w β I){r b:Nat}{sc sc':SC}(LC:r<999999)(pr:s.aG.get r=some sc)(hb:β r=some b){arr sZ:Array Value}{el:TypeId}(hg:w.heap[b]? = some (.cells arr el (0,0)))
  (lI:sZ.size=arr.size) (qQ:∀(j:Nat) e,sc'.sE[j]? = some e→∃u,sZ[j]? = some u∧u.oneCell'=true∧RE β (bS s.aG) I w e u) :
  dD Γ ⟨s.env,aS.set s.aG r sc'⟩ a (w.setRow b sZ) β I :=
 hr.QL (fun x=>by rw[aS.lP];simp[LC]) pr hb hg lI qQ
def qS(T:kL)(o:Oper)(h:Hint)(s:St):Option (St×List Prop) :=
 match o.op,o.dst with
 |.store t x y,none=>match T.get t,dw s.env x,dw s.env y with
  |some d,some (.ptr r off),some e=>match rC e,s.aG.get r with
   |some cs,some sc=>bif Nat.beq cs.length d.size&&Nat.blt r 999999 then
     match h with
     |.cells sc'=>some (⟨s.env,aS.set s.aG r sc'⟩,[off+cs.length≤sc.sE.length,fk sc.sE off cs=sc'.sE])
     |_=>match sc with
      |.lit cells=>bif Nat.ble (off+cs.length) cells.length then some (⟨s.env,aS.set s.aG r (.lit (fk cells off cs))⟩,[]) else none
      |_=>none
    else none
   |_,_=>none
  |_,_,_=>none
 |_,_=>none
theorem FG{e:EV}{cs:List EV}{v:Value}{L:Nat→Prop}(he:RE β L I w e v)(h:rC e=some cs):v.cells.size=cs.length:=by
 cases e with
 |pv p =>
  unfold rC at h
  cases ht:p.wc with
  |true=>simp[ht] at h
  |false =>
   simp[ht] at h
   subst h
   have hr:bV I w p.cells v.cells.toList:=Rd.cells he (fun vs e=>by subst e;simp[PV.wc] at ht)
   have:=hr.1
   simpa using this.symm
 |ptr r off=>injection h with h;subst h;obtain⟨_,b,_,rfl⟩:=he;rfl
 |row r off len sz =>
  injection h with h;subst h
  obtain⟨_,⟨_,_,rfl⟩|⟨b,c,_,rfl,_⟩⟩:=he<;>rfl
 |qM r len sz =>
  injection h with h;subst h
  obtain⟨_,⟨_,_,rfl⟩|⟨b,c,_,rfl,_⟩⟩:=he<;>rfl
 |oA r off=>injection h with h;subst h;obtain⟨_,b,_,rfl⟩:=he;rfl
 |pz c=>injection h with h;subst h;obtain⟨b,o,rfl,_⟩:=he;rfl
 |dead=>cases h
 |pA _ _ _ _ _=>cases h
 |Cu _ _=>cases h
theorem RB.block{L:Nat→Prop}{r b:Nat}{cells:List EV}(h:RB β L I w r cells)(hb:β r=some b) :
  ∃arr el,w.heap[b]? = some (.cells arr el (0,0))∧cells.length≤arr.size∧∀(j:Nat) e,cells[j]? = some e→∃u,arr[j]? = some u∧u.oneCell'=true∧RE β L I w e u:=by
 rcases h with ⟨h1,h2⟩|⟨b',arr,el,fz,h1,h2⟩
 ·rw[h1] at hb;cases hb
 ·rw[fz] at hb;injection hb with hb;subst hb
  refine⟨arr,el,h1,?_,h2⟩
  rcases Nat.eq_zero_or_pos cells.length with h0|h0
  ·omega
  ·obtain⟨u,h3,_⟩:=h2 (cells.length-1) _ (List.getElem?_eq_getElem (by omega))
   have:=(Array.getElem?_eq_some_iff.1 h3).1
   omega
theorem sG(hT:nM P T)(hr:Rel Γ s a w)(aI:qS T o h s=some (s',ob))(cr:dP ob){K:Act→World→Prop}{Q:Exit→Act→World→Prop}
  (hk:∀a' w',Rel Γ s' a' w'→K a' w'):o.wp P a w K Q:=by
 obtain⟨β,I,hr⟩:=hr
 unfold qS at aI
 split at aI
 ·rename_i t x y uH FH
  split at aI
  ·rename_i d r off e hd hx hy
   split at aI
   ·rename_i cs sc AH pr
    cases FA:(Nat.beq cs.length d.size&&Nat.blt r 999999) with
    |false=>simp[FA] at aI
    |true =>
     simp only[FA,cond_true] at aI
     rw[Bool.and_eq_true] at FA
     have hl:=FA.1
     have LC:r<999999:=Nat.le_of_ble_eq_true FA.2
     have Ot:cs.length=d.size:=Nat.eq_of_beq_eq_true hl
     obtain⟨xG,b,hb,hv⟩:=hr.Fg x _ hx
     have I6:=hr.Fg y _ hy
     obtain⟨arr,el,hg,PM,oE⟩:=(hr.aG.1 r sc pr).1.block hb
     have AN:=FG I6 AH
     have main:∀sc':SC,off+cs.length≤sc.sE.length→fk sc.sE off cs=sc'.sE→(∀a' w',Rel Γ ⟨s.env,aS.set s.aG r sc'⟩ a' w'→K a' w')→o.wp P a w K Q:=by
      intro sc' hle NY Kq
      have h1:∀u∈(a.eval y).cells.toList,u.oneCell'=true:=by
       intro u hu
       obtain⟨j,hj⟩:=List.mem_iff_getElem?.1 hu
       have NZ:j<cs.length:=by
        have:=(List.getElem?_eq_some_iff.1 hj).1
        simp at this;omega
       obtain⟨u',g1,g2,_⟩:=qy I6 AH j _ (List.getElem?_eq_getElem NZ)
       have:u'=u:=by simpa[g1] using hj
       subst this;exact g2
      have Ou:=run_storeCells_at P b off el (a.eval y).cells.toList 0 arr w hg (by simp;omega) h1
      simp only[Nat.add_zero] at Ou
      have hlen:(arr.toList.take off++(a.eval y).cells.toList++arr.toList.drop (off+(a.eval y).cells.toList.length)).toArray.size=arr.size:=by
       simp;omega
      have kl:=hr.write (sc':=sc') LC pr hb hg hlen (fun j e' hO=>by
       rw[←NY,kQ _ _ _ hle] at hO
       have uG:(arr.toList.take off++(a.eval y).cells.toList++arr.toList.drop (off+(a.eval y).cells.toList.length)).toArray[j]? = if off≤j∧j<off+cs.length then (a.eval y).cells[j-off]? else arr[j]? := by
        have:=kQ arr.toList off (a.eval y).cells.toList (by simp;omega) j
        unfold fk at this
        rw[←List.append_assoc] at this
        simp only[List.getElem?_toArray]
        rw[this]
        simp only[Array.length_toList,AN,Array.getElem?_toList]
       rw[uG]
       by_cases hj:off≤j∧j<off+cs.length
       ·rw[if_pos hj] at hO ⊢
        exact qy I6 AH _ e' hO
       ·rw[if_neg hj] at hO ⊢
        exact oE j e' hO)
      unfold Oper.wp execOp
      simp only[uH,Instr.storeAt]
      rw[hv]
      simp only[Instr.sureAddr,Sem.run_bind,Sem.run_pure,Result.andThen_ok,storeVar,(hT t d hd).run_sizeOf w]
      rw[if_neg (by simp;omega)]
      rw[Ou]
      simp only[Result.andThen_ok]
      show K (a.put o.dst undef) _
      rw[FH]
      exact Kq _ _ ⟨β,I,kl⟩
     split at aI
     ·rename_i sc'
      injection aI with aI;injection aI with h1 h2
      subst h1;subst h2
      obtain⟨g1,g2⟩:=cr.cons
      exact main sc' g1 g2 hk
     ·split at aI
      ·rename_i cells
       cases hle:Nat.ble (off+cs.length) cells.length with
       |false=>simp[hle] at aI
       |true =>
        simp only[hle,cond_true] at aI
        injection aI with aI;injection aI with h1 h2
        subst h1;subst h2
        exact main _ (Nat.le_of_ble_eq_true hle) rfl hk
      ·cases aI
   ·cases aI
  ·cases aI
 ·cases aI
def Ow(s s':St):Prop:=(∀t,s'.env.get t=s.env.get t)∧∀r,s'.aG.get r=s.aG.get r
theorem Rel.Ox(hl:Ow s s')(hr:Rel Γ s a w):Rel Γ s' a w:=by
 obtain⟨β,I,hr⟩:=hr
 have hd:∀r,bS s'.aG r↔bS s.aG r:=fun r=>by unfold bS;rw[hl.2 r]
 have tV:∀r,bS s.aG r→bS s'.aG r:=fun r h=>(hd r).2 h
 refine⟨β,I,fun t e he=>(hr.env t e (by rw[←hl.1 t];exact he)).mono (fun _ _=>rfl) tV (fun _ h=>h) (fun _ _ _=>rfl) (fun _ _ _ _=>rfl),
  ⟨fun r sc hx => ?_,fun x y b hx hy=>hr.aG.2 x y b ((hd x).1 hx) ((hd y).1 hy)⟩,fun x hx=>hr.par x ((hd x).1 hx),fun x b hx=>hr.new x b ((hd x).1 hx),hr.ib,hr.ii,hr.aF,hr.size,hr.defers⟩
 obtain⟨g1,g2⟩:=hr.aG.1 r sc (by rw[←hl.2 r];exact hx)
 exact⟨g1.mono rfl (fun _ _=>rfl) (fun _ _=>rfl) tV (fun _ h=>h) (fun _ _ _=>rfl) (fun _ _ _ _=>rfl),g2⟩
end
end Go.Proofs.YtllmkadmohkbfaaGreatDoor.Sym
