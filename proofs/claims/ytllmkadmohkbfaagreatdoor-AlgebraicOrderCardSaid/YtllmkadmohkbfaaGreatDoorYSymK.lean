/- The comparison of algebraic numbers is a total order that agrees with the comparison with fractions. The law AlgebraicOrder returns true for every input, with the tables of numerals of the Go library that the row lists as they are laid. -/
import Derived.Test.YtllmkadmohkbfaaGreatDoorYSymJ
namespace Go.Proofs.YtllmkadmohkbfaaGreatDoor.Sym
open Go Go.RowKit
def me (P : Program) (f : FuncId) : Prop := ∃ fn, P.funcs[f]? = some fn ∧ fn.body.isSome = true ∧ (fn.name == "runtime.NumGoroutine") = false
def rh(sin sout:aS)(r:EV)(β:Nat→Option Nat)(I:Nat→Prop)(w:World)(e:Ending)(w':World):Prop :=
 ∃v β',e = .returned v∧(∀x,bM sin x→¬gv x→β' x=β x)∧kx (fun b=>∃x,bM sin x∧β x=some b) w w' ∧
  uI β' (fun b=>I b∨((fresh w w' b∨Ir sin β b)∧∀x,bM sout x→β' x≠some b)) w' sout ∧
  RE β' (bM sout) (fun b=>I b∨((fresh w w' b∨Ir sin β b)∧∀x,bM sout x→β' x≠some b)) w' r v ∧
  (∀x b,bM sout x→¬bM sin x→β' x=some b→fresh w w' b∨Ir sin β b)
def av(P:Program)(f:FuncId)(args:List EV)(sin:aS)(r:EV)(sout:aS):Prop :=
 me P f∧∀(I:Nat→Prop) (w:World) (β:Nat→Option Nat) (vs:Array Value),(∀b,I b→b<w.heap.size)→uI β I w sin→args.length=vs.size →
  (∀(j:Nat) e v,args[j]? = some e→vs[j]? = some v→RE β (bM sin) I w e v)→Calls P f vs w (rh sin sout r β I w)
def eV(P:Program)(f:FuncId)(args:List PV)(r:PV):Prop:=av P f (args.map EV.pv) [] (.pv r) []
def ky(n:Nat):Option Nat→Bool
 |none=>true
 |some d=>Nat.blt d n
theorem ej{n:Nat}{dst:Option Nat}(h:ky n dst=true):∀d,dst=some d→d<n:=by
 intro d hd;subst hd
 exact Nat.le_of_ble_eq_true h
def qa(op:Op)(dst:Option Nat)(s:St):St :=
 match op,dst with
 |.alloc _,some d=>kill d s
 |.box _ _,some d=>kill d s
 |.buildSlice _ _ _,some d=>kill d s
 |.makeSlice _ _ _,some d=>kill d s
 |_,_=>s
def vZ(s:St)(dst:Option Nat)(res:mN):Option (St×List Prop) :=
 match res.new with
 |none=>some (⟨nm s.env dst res.val,s.aG⟩,res.ob)
 |some sc=>match dst with
  |some d=>match s.aG.get d with
   |none=>some (⟨nm s.env (some d) res.val,(d,sc)::s.aG⟩,res.ob)
   |some _=>none
  |none=>none
def yd(T:j0)(n:Nat)(o:Oper)(h:Hint)(s:St):Option (St×List Prop) :=
 bif ky n o.dst then
  match b8 T (qa o.op o.dst s).aG o.dst o.op (cZ (qa o.op o.dst s).env) h with
  |some res=>vZ (qa o.op o.dst s) o.dst res
  |none=>none
 else none
section
variable {P:Program} {T:j0} {Γ:Ctx} {s s':St} {a:Act} {w:World} {β:Nat→Option Nat} {I:Nat→Prop} {o:Oper} {h:Hint} {ob:List Prop}
theorem dh.qa(hr:dh Γ s a w β I)(op:Op)(dst:Option Nat):dh Γ (qa op dst s) a w β I:=by
 unfold Sym.qa
 split<;>first|exact hr.kill _|exact hr
theorem D5(hs:∀r,bM Γ.sin r→Γ.n≤r)(hr:dh Γ s a w β I){dst:Option Nat}(hd:ky Γ.n dst=true){res:mN}{v:Value}{w':World}(hp:tJ β (bM s.aG) I w dst res v w')
  (aI:vZ s dst res=some (s',ob)):Rel Γ s' (a.put dst v) w'∧ob=res.ob:=by
 obtain⟨val,new,SM⟩:=res
 obtain⟨hb,hp⟩:=hp
 unfold vZ at aI
 cases new with
 |none =>
  injection aI with aI
  injection aI with h1 h2
  subst h1;subst h2
  refine⟨⟨β,_,(hr.grow hb (fun b hI => .inl hI) (fun b hI=>hI)).put (ej hd) hp⟩,rfl⟩
 |some sc =>
  obtain⟨d,b,rfl,LY,hp⟩:=hp
  simp only at aI
  split at aI
  ·rename_i th
   injection aI with aI
   injection aI with h1 h2
   subst h1;subst h2
   have ye:¬bM s.aG d:=by unfold bM;rw[th];simp
   have ti:=ej hd d rfl
   have D6:¬bM Γ.sin d:=fun h=>by have:=hs d h;omega
   obtain⟨G7,NQ⟩:=hp ye
   have hg:dh Γ s a w' β (fun x=>I x∨(fresh w w' x∧x≠b)):=hr.grow hb (fun b hI => .inl hI) (fun x hx=>hx.elim .inl fun h => .inr h.1)
   have oc:=hg.site (d:=d) (sc:=sc) (Nat.lt_of_lt_of_le ti Γ.small) ye D6 (β':=Mj β d b) (fun r df=>by simp[Mj,df]) (fun b' eN=>by
    have:b'=b:=by simpa[Mj] using eN.symm
    subst this
    refine⟨LY.2,fun hx => ?_,.inl (Nat.le_trans hr.aH.size LY.1),fun r vY e => ?_⟩
    ·rcases hx with hx|hx
     ·have:=hr.ib _ hx;have:=LY.1;omega
     ·exact hx.2 rfl
    ·have:=hr.lb r b' vY e;have:=LY.1;omega) G7
   exact⟨⟨_,_,oc.put (dst:=some d) (fun d' NR=>by injection NR with NR;omega) (NQ.mono (fun _ _=>rfl) (fun r hr=>(dB (Nat.lt_of_lt_of_le ti Γ.small)).2 (hr.elim .inr .inl)) (fun _ h=>h) (fun _ _ _=>rfl) (fun _ _ _ _=>rfl))⟩,rfl⟩
  ·cases aI
theorem tj(hT:mC P T)(hs:∀r,bM Γ.sin r→Γ.n≤r)(hr:Rel Γ s a w)(aI:yd T Γ.n o h s=some (s',ob))(cb:dA ob){K:Act→World→Prop}{Q:Exit→Act→World→Prop}
  (hk:∀a' w',Rel Γ s' a' w'→K a' w'):o.wp P a w K Q:=by
 obtain⟨β,I,hr⟩:=hr
 unfold yd at aI
 cases hd:ky Γ.n o.dst with
 |false=>simp[hd] at aI
 |true =>
  simp only[hd,cond_true] at aI
  have vN:=hr.qa o.op o.dst
  split at aI
  ·rename_i res np
   have OJ:ob=res.ob:=by
    unfold vZ at aI
    split at aI
    ·injection aI with aI;injection aI with _ h2;exact h2.symm
    ·split at aI
     ·split at aI
      ·injection aI with aI;injection aI with _ h2;exact h2.symm
      ·cases aI
     ·cases aI
   rw[OJ] at cb
   obtain⟨v,w',aq,yM⟩:=xa hT vN.pre np cb
   have:=(D5 hs vN hd yM aI).1
   unfold Oper.wp
   rw[aq]
   exact hk _ _ this
  ·cases aI
def aS.FY:aS→Nat→SC→aS
 |[],_,_=>[]
 |(r',c)::s,r,sc=>bif Nat.beq r' r then (r',sc)::s else (r',c)::aS.FY s r sc
theorem aS.v7:∀(s:aS) (r x:Nat) (sc:SC),(aS.FY s r sc).dR x=if x=r then (s.dR x).map (fun _=>sc) else s.dR x
 |[],r,x,sc=>by simp[aS.FY,aS.dR]
 |(r',c)::s,r,x,sc=>by
  simp only[aS.FY]
  cases hb:Nat.beq r' r with
  |true =>
   have:r'=r:=Nat.eq_of_beq_eq_true hb
   subst this
   simp only[cond_true,aS.dR]
   by_cases hx:x=r'
   ·subst hx;simp
   ·have h2:Nat.beq r' x=false:=gz (Ne.symm hx)
    simp[hx,h2]
  |false =>
   simp only[cond_false,aS.dR,aS.v7 s r x sc]
   cases h2:Nat.beq r' x with
   |true =>
    have:r'=x:=Nat.eq_of_beq_eq_true h2
    subst this
    have df:r'≠r:=by intro e;subst e;simp at hb
    simp[df]
   |false=>simp
def aS.set(s:aS)(r:Nat)(sc:SC):aS:=bif Nat.blt r 999999 then aS.FY s r sc else s
theorem aS.kM(s:aS)(r x:Nat)(sc:SC):(aS.set s r sc).get x=if x=r∧r<999999 then (s.get x).map (fun _=>sc) else s.get x:=by
 unfold aS.set
 by_cases hr:r<999999
 ·rw[show Nat.blt r 999999=true from Nat.ble_eq_true_of_le hr]
  simp only[cond_true,hr,and_true]
  rcases DT x with h|rfl|⟨j,rfl⟩
  ·rw[aS.ke h,aS.ke h,aS.v7]
  ·rw[aS.gr,aS.gr];simp
  ·rw[aS.kK,aS.kK,if_neg (by unfold hc;omega)]
   unfold aS.hp
   rw[aS.v7,if_neg (by omega)]
 ·rw[show Nat.blt r 999999=false from Bool.eq_false_iff.2 (fun h=>hr (Nat.le_of_ble_eq_true h))]
  simp[hr]
theorem fT{s:aS}{r x:Nat}{sc:SC} : bM (aS.set s r sc) x↔bM s x:=by
 unfold bM
 rw[aS.kM]
 split<;>simp
theorem qb(w:World)(g k:Nat)(cs Tv:Array Value)(t:TypeId)(fr:Nat×Nat)(hg:w.heap[g]? = some (.cells Tv t fr))(hs:cs.size=Tv.size):(w.setRow g cs).shape? k=w.shape? k:=by
 by_cases hk:k=g
 ·subst hk
  unfold World.shape?
  rw[setRow_heap w k Tv cs t fr hg,hg]
  simp[hs]
 ·exact pQ (setRow_other w g k cs hk)
theorem dh.OK (hr : dh Γ s a w β I) {r b : Nat} {sc sc' : SC} {v8 : aS} (Mt : ∀ x, v8.get x = if x = r then (s.aG.get x).map (fun _ => sc') else s.aG.get x) (nY : s.aG.get r = some sc) (hb : β r = some b) {arr ri : Array Value} {el : TypeId} (hg : w.heap[b]? = some (.cells arr el (0, 0)))
    (kF : ri.size = arr.size) (pn : ∀ (j : Nat) e, sc'.qR[j]? = some e → ∃ u, ri[j]? = some u ∧ u.oneCell' = true ∧ RE β (bM s.aG) I w e u) :
    dh Γ ⟨s.env, v8⟩ a (w.setRow b ri) β I := by
  have Ml : ∀ {x}, bM v8 x ↔ bM s.aG x := fun {x} => by
    unfold bM; rw [Mt]; split <;> simp
  have vY : bM s.aG r := by unfold bM; rw [nY]; rfl
  have Is : ¬ I b := ((hr.aG.1 r sc nY).2 b hb).2
  have hw : ∀ b' o, I b' → (w.setRow b ri).cell? ⟨b', o, none⟩ = w.cell? ⟨b', o, none⟩ := fun b' o hI => gy (setRow_other w b b' ri (fun e => Is (e ▸ hI))) o
  have Bw : ∀ k, (w.setRow b ri).shape? k = w.shape? k := fun k => qb w b k ri arr el (0, 0) hg kF
  have uG : (w.setRow b ri).heap.size = w.heap.size := by simp [World.setRow]
  have hL : ∀ x, bM s.aG x → bM v8 x := fun x hx => Ml.2 hx
  refine ⟨fun t e he => (hr.env t e he).mono (fun _ _ => rfl) hL (fun _ h => h) hw (fun _ b' _ _ => Bw b'), ⟨fun x W8 hx => ?_, fun x y b' hx hy => hr.aG.2 x y b' (Ml.1 hx) (Ml.1 hy)⟩,
    fun x hx => hr.par x (Ml.1 hx), fun x b' hx => hr.new x b' (Ml.1 hx), fun b' hI => by rw [uG]; exact hr.ib b' hI, fun b' hI => ?_, ?_, hr.size, hr.defers⟩
  · rw [Mt] at hx
    by_cases A2 : x = r
    · subst A2
      rw [if_pos rfl, nY] at hx
      simp only [Option.map_some, Option.some.injEq] at hx
      subst hx
      refine ⟨.inr ⟨b, ri, el, hb, setRow_heap w b arr ri el (0, 0) hg, fun j e he => ?_⟩, fun b' eN => by rw [uG]; exact (hr.aG.1 x sc nY).2 b' eN⟩
      obtain ⟨u, g1, g2, g3⟩ := pn j e he
      exact ⟨u, g1, g2, g3.mono (fun _ _ => rfl) hL (fun _ h => h) hw (fun _ b' _ _ => Bw b')⟩
    · rw [if_neg A2] at hx
      obtain ⟨g1, g2⟩ := hr.aG.1 x W8 hx
      have Fu : bM s.aG x := by unfold bM; rw [hx]; rfl
      refine ⟨g1.mono rfl (fun b' eN => setRow_other w b b' ri (fun e => A2 (hr.aG.2 x r b Fu vY (e ▸ eN) hb))) (fun _ _ => rfl) hL (fun _ h => h) hw (fun _ b' _ _ => Bw b'), fun b' eN => by rw [uG]; exact g2 b' eN⟩
  · rcases hr.ii b' hI with h1 | h1
    · exact .inl h1
    · exact .inr (h1.imp (fun h1 => ⟨h1.1, by rw [uG]; exact h1.2⟩) id)
  · refine ⟨hr.aH.os, hr.aH.tape, hr.aH.output, by rw [uG]; exact hr.aH.size, fun k hk hM => ?_, fun k hk => (Bw k).trans (hr.aH.shape k hk), hr.aH.drawn⟩
    refine (setRow_other w b k ri (fun e => ?_)).trans (hr.aH.block k hk hM)
    subst e
    by_cases hsr : bM Γ.sin r ∧ ¬ gv r
    · exact hM ⟨r, hsr.1, by rw [← hr.par r vY hsr.1 hsr.2]; exact hb⟩
    · exact hM ((hr.new r k vY (by by_cases h : bM Γ.sin r; · exact .inr (Classical.byContradiction fun h2 => hsr ⟨h, h2⟩)
                                   · exact .inl h) hb).m hk)
theorem dh.write(hr:dh Γ s a w β I){r b:Nat}{sc sc':SC}(JC:r<999999)(nY:s.aG.get r=some sc)(hb:β r=some b){arr ri:Array Value}{el:TypeId}(hg:w.heap[b]? = some (.cells arr el (0,0)))
  (kF:ri.size=arr.size) (pn:∀(j:Nat) e,sc'.qR[j]? = some e→∃u,ri[j]? = some u∧u.oneCell'=true∧RE β (bM s.aG) I w e u) :
  dh Γ ⟨s.env,aS.set s.aG r sc'⟩ a (w.setRow b ri) β I :=
 hr.OK (fun x=>by rw[aS.kM];simp[JC]) nY hb hg kF pn
def pr(T:j0)(o:Oper)(h:Hint)(s:St):Option (St×List Prop) :=
 match o.op,o.dst with
 |.store t x y,none=>match T.get t,cZ s.env x,cZ s.env y with
  |some d,some (.ptr r off),some e=>match pW e,s.aG.get r with
   |some cs,some sc=>bif Nat.beq cs.length d.size&&Nat.blt r 999999 then
     match h with
     |.cells sc'=>some (⟨s.env,aS.set s.aG r sc'⟩,[off+cs.length≤sc.qR.length,ee sc.qR off cs=sc'.qR])
     |_=>match sc with
      |.lit cells=>bif Nat.ble (off+cs.length) cells.length then some (⟨s.env,aS.set s.aG r (.lit (ee cells off cs))⟩,[]) else none
      |_=>none
    else none
   |_,_=>none
  |_,_,_=>none
 |_,_=>none
theorem D7{e:EV}{cs:List EV}{v:Value}{L:Nat→Prop}(he:RE β L I w e v)(h:pW e=some cs):v.cells.size=cs.length:=by
 cases e with
 |pv p =>
  unfold pW at h
  cases ht:p.td with
  |true=>simp[ht] at h
  |false =>
   simp[ht] at h
   subst h
   have hr:bQ I w p.cells v.cells.toList:=Rd.cells he (fun vs e=>by subst e;simp[PV.td] at ht)
   have:=hr.1
   simpa using this.symm
 |ptr r off=>injection h with h;subst h;obtain⟨_,b,_,rfl⟩:=he;rfl
 |row r off len sz =>
  injection h with h;subst h
  obtain⟨_,⟨_,_,rfl⟩|⟨b,c,_,rfl,_⟩⟩:=he<;>rfl
 |pg r len sz =>
  injection h with h;subst h
  obtain⟨_,⟨_,_,rfl⟩|⟨b,c,_,rfl,_⟩⟩:=he<;>rfl
 |nj r off=>injection h with h;subst h;obtain⟨_,b,_,rfl⟩:=he;rfl
 |n6 c=>injection h with h;subst h;obtain⟨b,o,rfl,_⟩:=he;rfl
 |dead=>cases h
 |n7 _ _ _ _ _=>cases h
 |AT _ _=>cases h
theorem RB.block{L:Nat→Prop}{r b:Nat}{cells:List EV}(h:RB β L I w r cells)(hb:β r=some b) :
  ∃arr el,w.heap[b]? = some (.cells arr el (0,0))∧cells.length≤arr.size∧∀(j:Nat) e,cells[j]? = some e→∃u,arr[j]? = some u∧u.oneCell'=true∧RE β L I w e u:=by
 rcases h with ⟨h1,h2⟩|⟨b',arr,el,eN,h1,h2⟩
 ·rw[h1] at hb;cases hb
 ·rw[eN] at hb;injection hb with hb;subst hb
  refine⟨arr,el,h1,?_,h2⟩
  rcases Nat.eq_zero_or_pos cells.length with h0|h0
  ·omega
  ·obtain⟨u,h3,_⟩:=h2 (cells.length-1) _ (List.getElem?_eq_getElem (by omega))
   have:=(Array.getElem?_eq_some_iff.1 h3).1
   omega
theorem qT(hT:mC P T)(hr:Rel Γ s a w)(aI:pr T o h s=some (s',ob))(cb:dA ob){K:Act→World→Prop}{Q:Exit→Act→World→Prop}
  (hk:∀a' w',Rel Γ s' a' w'→K a' w'):o.wp P a w K Q:=by
 obtain⟨β,I,hr⟩:=hr
 unfold pr at aI
 split at aI
 ·rename_i t x y s6 D8
  split at aI
  ·rename_i d r off e hd hx hy
   split at aI
   ·rename_i cs sc yK nY
    cases D1:(Nat.beq cs.length d.size&&Nat.blt r 999999) with
    |false=>simp[D1] at aI
    |true =>
     simp only[D1,cond_true] at aI
     rw[Bool.and_eq_true] at D1
     have hl:=D1.1
     have JC:r<999999:=Nat.le_of_ble_eq_true D1.2
     have Mu:cs.length=d.size:=Nat.eq_of_beq_eq_true hl
     obtain⟨vY,b,hb,hv⟩:=hr.DN x _ hx
     have G8:=hr.DN y _ hy
     obtain⟨arr,el,hg,NS,nq⟩:=(hr.aG.1 r sc nY).1.block hb
     have yQ:=D7 G8 yK
     have main:∀sc':SC,off+cs.length≤sc.qR.length→ee sc.qR off cs=sc'.qR→(∀a' w',Rel Γ ⟨s.env,aS.set s.aG r sc'⟩ a' w'→K a' w')→o.wp P a w K Q:=by
      intro sc' hle LZ It
      have h1:∀u∈(a.eval y).cells.toList,u.oneCell'=true:=by
       intro u hu
       obtain⟨j,hj⟩:=List.mem_iff_getElem?.1 hu
       have L0:j<cs.length:=by
        have:=(List.getElem?_eq_some_iff.1 hj).1
        simp at this;omega
       obtain⟨u',g1,g2,_⟩:=oV G8 yK j _ (List.getElem?_eq_getElem L0)
       have:u'=u:=by simpa[g1] using hj
       subst this;exact g2
      have Mv:=run_storeCells_at P b off el (a.eval y).cells.toList 0 arr w hg (by simp;omega) h1
      simp only[Nat.add_zero] at Mv
      have hlen:(arr.toList.take off++(a.eval y).cells.toList++arr.toList.drop (off+(a.eval y).cells.toList.length)).toArray.size=arr.size:=by
       simp;omega
      have jD:=hr.write (sc':=sc') JC nY hb hg hlen (fun j e' gn=>by
       rw[←LZ,kd _ _ _ hle] at gn
       have s5:(arr.toList.take off++(a.eval y).cells.toList++arr.toList.drop (off+(a.eval y).cells.toList.length)).toArray[j]? = if off≤j∧j<off+cs.length then (a.eval y).cells[j-off]? else arr[j]? := by
        have:=kd arr.toList off (a.eval y).cells.toList (by simp;omega) j
        unfold ee at this
        rw[←List.append_assoc] at this
        simp only[List.getElem?_toArray]
        rw[this]
        simp only[Array.length_toList,yQ,Array.getElem?_toList]
       rw[s5]
       by_cases hj:off≤j∧j<off+cs.length
       ·rw[if_pos hj] at gn ⊢
        exact oV G8 yK _ e' gn
       ·rw[if_neg hj] at gn ⊢
        exact nq j e' gn)
      unfold Oper.wp execOp
      simp only[s6,Instr.storeAt]
      rw[hv]
      simp only[Instr.sureAddr,Sem.run_bind,Sem.run_pure,Result.andThen_ok,storeVar,(hT t d hd).run_sizeOf w]
      rw[if_neg (by simp;omega)]
      rw[Mv]
      simp only[Result.andThen_ok]
      show K (a.put o.dst undef) _
      rw[D8]
      exact It _ _ ⟨β,I,jD⟩
     split at aI
     ·rename_i sc'
      injection aI with aI;injection aI with h1 h2
      subst h1;subst h2
      obtain⟨g1,g2⟩:=cb.cons
      exact main sc' g1 g2 hk
     ·split at aI
      ·rename_i cells
       cases hle:Nat.ble (off+cs.length) cells.length with
       |false=>simp[hle] at aI
       |true =>
        simp only[hle,cond_true] at aI
        injection aI with aI;injection aI with h1 h2
        subst h1;subst h2
        exact main _ (Nat.le_of_ble_eq_true hle) rfl hk
      ·cases aI
   ·cases aI
  ·cases aI
 ·cases aI
def Mw(s s':St):Prop:=(∀t,s'.env.get t=s.env.get t)∧∀r,s'.aG.get r=s.aG.get r
theorem Rel.Mx(hl:Mw s s')(hr:Rel Γ s a w):Rel Γ s' a w:=by
 obtain⟨β,I,hr⟩:=hr
 have hd:∀r,bM s'.aG r↔bM s.aG r:=fun r=>by unfold bM;rw[hl.2 r]
 have sl:∀r,bM s.aG r→bM s'.aG r:=fun r h=>(hd r).2 h
 refine⟨β,I,fun t e he=>(hr.env t e (by rw[←hl.1 t];exact he)).mono (fun _ _=>rfl) sl (fun _ h=>h) (fun _ _ _=>rfl) (fun _ _ _ _=>rfl),
  ⟨fun r sc hx => ?_,fun x y b hx hy=>hr.aG.2 x y b ((hd x).1 hx) ((hd y).1 hy)⟩,fun x hx=>hr.par x ((hd x).1 hx),fun x b hx=>hr.new x b ((hd x).1 hx),hr.ib,hr.ii,hr.aH,hr.size,hr.defers⟩
 obtain⟨g1,g2⟩:=hr.aG.1 r sc (by rw[←hl.2 r];exact hx)
 exact⟨g1.mono rfl (fun _ _=>rfl) (fun _ _=>rfl) sl (fun _ h=>h) (fun _ _ _=>rfl) (fun _ _ _ _=>rfl),g2⟩
end
end Go.Proofs.YtllmkadmohkbfaaGreatDoor.Sym
