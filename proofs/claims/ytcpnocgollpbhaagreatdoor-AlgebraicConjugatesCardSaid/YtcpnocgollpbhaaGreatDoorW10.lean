/- Lemmas for the statements of this seat. -/
import Derived.Test.YtcpnocgollpbhaaGreatDoorW9
namespace Go.Proofs.YtcpnocgollpbhaaGreatDoor.Sym
open Go Go.RowKit
def l7 (P : Program) (f : FuncId) : Prop := ∃ fn, P.funcs[f]? = some fn ∧ fn.body.isSome = true ∧ (fn.name == "runtime.NumGoroutine") = false
def tp(sin sout:aS)(r:EV)(β:Nat→Option Nat)(I:Nat→Prop)(w:World)(e:Ending)(w':World):Prop :=
 ∃v β',e = .returned v∧(∀x,bB sin x→¬gv x→β' x=β x)∧lJ (fun b=>∃x,bB sin x∧β x=some b) w w' ∧
  wX β' (fun b=>I b∨((fresh w w' b∨Mv sin β b)∧∀x,bB sout x→β' x≠some b)) w' sout ∧
  RE β' (bB sout) (fun b=>I b∨((fresh w w' b∨Mv sin β b)∧∀x,bB sout x→β' x≠some b)) w' r v ∧
  (∀x b,bB sout x→¬bB sin x→β' x=some b→fresh w w' b∨Mv sin β b)
def au(P:Program)(f:FuncId)(args:List EV)(sin:aS)(r:EV)(sout:aS):Prop :=
 l7 P f∧∀(I:Nat→Prop) (w:World) (β:Nat→Option Nat) (vs:Array Value),(∀b,I b→b<w.heap.size)→wX β I w sin→args.length=vs.size →
  (∀(j:Nat) e v,args[j]? = some e→vs[j]? = some v→RE β (bB sin) I w e v)→tn sin β w→Calls P f vs w (tp sin sout r β I w)
def eu(P:Program)(f:FuncId)(args:List PV)(r:PV):Prop:=au P f (args.map EV.pv) [] (.pv r) []
def lK(n:Nat):Option Nat→Bool
 |none=>true
 |some d=>Nat.blt d n
theorem fc{n:Nat}{dst:Option Nat}(h:lK n dst=true):∀d,dst=some d→d<n:=by intro d hd;subst hd;exact afS h
def rX(op:Op)(dst:Option Nat)(s:St):St :=
 match op,dst with
 |.alloc _,some d=>kill d s
 |.box _ _,some d=>kill d s
 |.buildSlice _ _ _,some d=>kill d s
 |.makeSlice _ _ _,some d=>kill d s
 |_,_=>s
def yj(s:St)(dst:Option Nat)(res:oq):Option (St×List Prop) :=
 match res.new with
 |none=>some (⟨oY s.env dst res.val,s.aG⟩,res.ob)
 |some sc=>match dst with
  |some d=>match s.aG.get d with
   |none=>some (⟨oY s.env (some d) res.val,(d,sc)::s.aG⟩,res.ob)
   |some _=>none
  |none=>none
def Ax(T:kL)(n:Nat)(o:Oper)(h:Hint)(s:St):Option (St×List Prop) :=
 bif lK n o.dst then
  match bW T (rX o.op o.dst s).aG o.dst o.op (dh (rX o.op o.dst s).env) h with
  |some res=>yj (rX o.op o.dst s) o.dst res
  |none=>none
 else none
section
variable {P:Program} {T:kL} {Γ:Ctx} {s s':St} {a:Act} {w:World} {β:Nat→Option Nat} {I:Nat→Prop} {o:Oper} {h:Hint} {ob:List Prop}
theorem df.rX(hr:df Γ s a w β I)(op:Op)(dst:Option Nat):df Γ (rX op dst s) a w β I:=by unfold Sym.rX;split<;>first|exact hr.kill _|exact hr
theorem Hv(hs:∀r,bB Γ.sin r→Γ.n≤r)(hr:df Γ s a w β I){dst:Option Nat}(hd:lK Γ.n dst=true){res:oq}{v:Value}{w':World}(hp:vF β (bB s.aG) I w dst res v w')
  (aK:yj s dst res=some (s',ob)):Rel Γ s' (a.put dst v) w'∧ob=res.ob:=by
 obtain⟨val,new,YA⟩:=res;obtain⟨hb,hp⟩:=hp;unfold yj at aK;cases new with
 |none =>
  injection aK with aK
  injection aK with h1 h2
  subst h1;subst h2;refine⟨⟨β,_,(hr.grow hb (fun b hI => .inl hI) (fun b hI=>hI)).put (fc hd) hp⟩,rfl⟩
 |some sc =>
  obtain⟨d,b,rfl,TW,hp⟩:=hp;simp only at aK;split at aK
  ·rename_i ve;injection aK with aK
   injection aK with h1 h2
   subst h1;subst h2;have Ay:¬bB s.aG d:=by unfold bB;rw[ve];simp
   have vf:=fc hd d rfl;have Hw:¬bB Γ.sin d:=fun h=>by have:=hs d h;omega
   obtain⟨KP,SN⟩:=hp Ay;have hg:df Γ s a w' β (fun x=>I x∨(fresh w w' x∧x≠b)):=hr.grow hb (fun b hI => .inl hI) (fun x hx=>hx.elim .inl fun h => .inr h.1);have pR:=hg.site (d:=d) (sc:=sc) (agA vf Γ.small) Ay Hw (β':=QY β d b) (fun r et=>by simp[QY,et]) (fun b' fw=>by
    have:b'=b:=by simpa[QY] using fw.symm
    subst this;refine⟨TW.2,fun hx => ?_,.inl (ag3 hr.aH.size TW.1),fun r yi e => ?_⟩
    ·rcases hx with hx|hx
     ·have:=hr.ib _ hx;have:=TW.1;omega
     ·exact hx.2 rfl
    ·have:=hr.lb r b' yi e;have:=TW.1;omega) KP
   exact⟨⟨_,_,pR.put (dst:=some d) (fun d' SO=>by injection SO with SO;omega) (SN.mono (fun _ _=>rfl) (fun r hr=>(dL (agA vf Γ.small)).2 (hr.elim .inr .inl)) (fun _ h=>h) (fun _ _ _=>rfl) (fun _ _ _ _=>rfl))⟩,rfl⟩
  ·cases aK
theorem vg(hT:n8 P T)(hs:∀r,bB Γ.sin r→Γ.n≤r)(hr:Rel Γ s a w)(aK:Ax T Γ.n o h s=some (s',ob))(bT:dK ob){K:Act→World→Prop}{Q:Exit→Act→World→Prop}
  (hk:∀a' w',Rel Γ s' a' w'→K a' w'):o.wp P a w K Q:=by
 obtain⟨β,I,hr⟩:=hr;unfold Ax at aK;cases hd:lK Γ.n o.dst with
 |false=>simp[hd] at aK
 |true =>
  simp only[hd,cond_true] at aK;have wQ:=hr.rX o.op o.dst;split at aK
  ·rename_i res oZ;have TX:ob=res.ob:=by
    unfold yj at aK;split at aK
    ·injection aK with aK;injection aK with _ h2;exact h2.symm
    ·split at aK
     ·split at aK
      ·injection aK with aK;injection aK with _ h2;exact h2.symm
      ·cases aK
     ·cases aK
   rw[TX] at bT;obtain⟨v,w',ar,Bg⟩:=zl hT wQ.pre oZ bT;have:=(Hv hs wQ hd Bg aK).1;unfold Oper.wp;rw[ar];exact hk _ _ this
  ·cases aK
def aS.Jz:aS→Nat→SC→aS
 |[],_,_=>[]
 |(r',c)::s,r,sc=>bif Nat.beq r' r then (r',sc)::s else (r',c)::aS.Jz s r sc
theorem aS.yk:∀(s:aS) (r x:Nat) (sc:SC),(aS.Jz s r sc).ej x=if x=r then (s.ej x).map (fun _=>sc) else s.ej x
 |[],r,x,sc=>by simp[aS.Jz,aS.ej]
 |(r',c)::s,r,x,sc=>by
  simp only[aS.Jz];cases hb:Nat.beq r' r with
  |true =>
   have:r'=r:=ag0 hb;subst this;simp only[cond_true,aS.ej];by_cases hx:x=r'
   ·subst hx;simp
   ·have h2:Nat.beq r' x=false:=ig (Ne.symm hx);simp[hx,h2]
  |false =>
   simp only[cond_false,aS.ej,aS.yk s r x sc];cases h2:Nat.beq r' x with
   |true =>
    have:r'=x:=ag0 h2;subst this;have et:r'≠r:=by intro e;subst e;simp at hb
    simp[et]
   |false=>simp
def aS.set(s:aS)(r:Nat)(sc:SC):aS:=bif Nat.blt r 999999 then aS.Jz s r sc else s
theorem aS.l8(s:aS)(r x:Nat)(sc:SC):(aS.set s r sc).get x=if x=r∧r<999999 then (s.get x).map (fun _=>sc) else s.get x:=by
 unfold aS.set;by_cases hr:r<999999
 ·rw[show Nat.blt r 999999=true from ahi hr];simp only[cond_true,hr,and_true];rcases Hg x with h|rfl|⟨j,rfl⟩
  ·rw[aS.k8 h,aS.k8 h,aS.yk]
  ·rw[aS.gY,aS.gY];simp
  ·rw[aS.lX,aS.lX,ag7 (by unfold hc;omega)];unfold aS.hp;rw[aS.yk,ag7 (by omega)]
 ·rw[show Nat.blt r 999999=false from ahv.2 (fun h=>hr (afS h))];simp[hr]
theorem gE{s:aS}{r x:Nat}{sc:SC} : bB (aS.set s r sc) x↔bB s x:=by unfold bB;rw[aS.l8];split<;>simp
theorem rY(w:World)(g k:Nat)(cs Zn:Array Value)(t:TypeId)(fr:Nat×Nat)(hg:w.heap[g]? = some (.cells Zn t fr))(hs:cs.size=Zn.size):(w.setRow g cs).shape? k=w.shape? k:=by
 by_cases hk:k=g
 ·subst hk;unfold World.shape?;rw[setRow_heap w k Zn cs t fr hg,hg];simp[hs]
 ·exact rM (setRow_other w g k cs hk)
theorem df.TY (hr : df Γ s a w β I) {r b : Nat} {sc sc' : SC} {yl : aS} (Q8 : ∀ x, yl.get x = if x = r then (s.aG.get x).map (fun _ => sc') else s.aG.get x) (oP : s.aG.get r = some sc) (hb : β r = some b) {arr tq : Array Value} {el : TypeId} (hg : w.heap[b]? = some (.cells arr el (0, 0)))
    (lT : tq.size = arr.size) (qZ : ∀ (j : Nat) e, sc'.rI[j]? = some e → ∃ u, tq[j]? = some u ∧ u.oneCell' = true ∧ RE β (bB s.aG) I w e u) :
    df Γ ⟨s.env, yl⟩ a (w.setRow b tq) β I := by
  have Q0 : ∀ {x}, bB yl x ↔ bB s.aG x := fun {x} => by unfold bB; rw [Q8]; split <;> simp
  have yi : bB s.aG r := by unfold bB; rw [oP]; rfl
  have Mw : ¬ I b := ((hr.aG.1 r sc oP).2 b hb).2;have hw : ∀ b' o, I b' → (w.setRow b tq).cell? ⟨b', o, none⟩ = w.cell? ⟨b', o, none⟩ := fun b' o hI => hZ (setRow_other w b b' tq (fun e => Mw (e ▸ hI))) o
  have D7 : ∀ k, (w.setRow b tq).shape? k = w.shape? k := fun k => rY w b k tq arr el (0, 0) hg lT
  have wV : (w.setRow b tq).heap.size = w.heap.size := by simp [World.setRow]
  have hL : ∀ x, bB s.aG x → bB yl x := fun x hx => Q0.2 hx
  refine ⟨fun t e he => (hr.env t e he).mono (fun _ _ => rfl) hL (fun _ h => h) hw (fun _ b' _ _ => D7 b'), ⟨fun x scx hx => ?_, fun x y b' hx hy => hr.aG.2 x y b' (Q0.1 hx) (Q0.1 hy)⟩,
    fun x hx => hr.par x (Q0.1 hx), fun x b' hx => hr.new x b' (Q0.1 hx), fun b' hI => by rw [wV]; exact hr.ib b' hI, fun b' hI => ?_, ?_, hr.size, hr.defers⟩
  · rw [Q8] at hx;by_cases DB : x = r
    · subst DB;rw [ag9 rfl, oP] at hx;simp only [Option.map_some, Option.some.injEq] at hx;subst hx;refine ⟨.inr ⟨b, tq, el, hb, setRow_heap w b arr tq el (0, 0) hg, fun j e he => ?_⟩, fun b' fw => by rw [wV]; exact (hr.aG.1 x sc oP).2 b' fw⟩;obtain ⟨u, g1, g2, g3⟩ := qZ j e he;exact ⟨u, g1, g2, g3.mono (fun _ _ => rfl) hL (fun _ h => h) hw (fun _ b' _ _ => D7 b')⟩
    · rw [ag7 DB] at hx;obtain ⟨g1, g2⟩ := hr.aG.1 x scx hx;have Ja : bB s.aG x := by unfold bB; rw [hx]; rfl
      refine ⟨g1.mono rfl (fun b' fw => setRow_other w b b' tq (fun e => DB (hr.aG.2 x r b Ja yi (e ▸ fw) hb))) (fun _ _ => rfl) hL (fun _ h => h) hw (fun _ b' _ _ => D7 b'), fun b' fw => by rw [wV]; exact g2 b' fw⟩
  · rcases hr.ii b' hI with h1 | h1
    · exact .inl h1
    · exact .inr (h1.imp (fun h1 => ⟨h1.1, by rw [wV]; exact h1.2⟩) id)
  · refine ⟨hr.aH.os, hr.aH.tape, hr.aH.output, by rw [wV]; exact hr.aH.size, fun k hk hM => ?_, fun k hk => (D7 k).trans (hr.aH.shape k hk), hr.aH.drawn⟩;refine (setRow_other w b k tq (fun e => ?_)).trans (hr.aH.block k hk hM);subst e;by_cases hsr : bB Γ.sin r ∧ ¬ gv r
    · exact hM ⟨r, hsr.1, by rw [← hr.par r yi hsr.1 hsr.2]; exact hb⟩
    · exact hM ((hr.new r k yi (by by_cases h : bB Γ.sin r; · exact .inr (afV fun h2 => hsr ⟨h, h2⟩)
                                   · exact .inl h) hb).m hk)
theorem df.write(hr:df Γ s a w β I){r b:Nat}{sc sc':SC}(N7:r<999999)(oP:s.aG.get r=some sc)(hb:β r=some b){arr tq:Array Value}{el:TypeId}(hg:w.heap[b]? = some (.cells arr el (0,0)))
  (lT:tq.size=arr.size) (qZ:∀(j:Nat) e,sc'.rI[j]? = some e→∃u,tq[j]? = some u∧u.oneCell'=true∧RE β (bB s.aG) I w e u) :
  df Γ ⟨s.env,aS.set s.aG r sc'⟩ a (w.setRow b tq) β I :=
 hr.TY (fun x=>by rw[aS.l8];simp[N7]) oP hb hg lT qZ
def q9(T:kL)(o:Oper)(h:Hint)(s:St):Option (St×List Prop) :=
 match o.op,o.dst with
 |.store t x y,none=>match T.get t,dh s.env x,dh s.env y with
  |some d,some (.ptr r off),some e=>match nF e,s.aG.get r with
   |some cs,some sc=>bif Nat.beq cs.length d.size&&Nat.blt r 999999 then
     match h with
     |.cells sc'=>some (⟨s.env,aS.set s.aG r sc'⟩,[off+cs.length≤sc.rI.length,eP sc.rI off cs=sc'.rI])
     |_=>match sc with
      |.lit cells=>bif Nat.ble (off+cs.length) cells.length then some (⟨s.env,aS.set s.aG r (.lit (eP cells off cs))⟩,[]) else none
      |_=>none
    else none
   |_,_=>none
  |_,_,_=>none
 |_,_=>none
theorem Hx{e:EV}{cs:List EV}{v:Value}{L:Nat→Prop}(he:RE β L I w e v)(h:nF e=some cs):v.cells.size=cs.length:=by
 cases e with
 |pv p =>
  unfold nF at h;cases ht:p.ti with
  |true=>simp[ht] at h
  |false =>simp[ht] at h;subst h;have hr:bE I w p.cells v.cells.toList:=Rd.cells he (fun vs e=>by subst e;simp[PV.ti] at ht);have:=hr.1;simpa using this.symm
 |ptr r off=>injection h with h;subst h;obtain⟨_,b,_,rfl⟩:=he;rfl
 |row r off len sz =>
  injection h with h;subst h
  obtain⟨_,⟨_,_,rfl⟩|⟨b,c,_,rfl,_⟩⟩:=he<;>rfl
 |ji r len sz =>
  injection h with h;subst h
  obtain⟨_,⟨_,_,rfl⟩|⟨b,c,_,rfl,_⟩⟩:=he<;>rfl
 |n7 r off=>injection h with h;subst h;obtain⟨_,b,_,rfl⟩:=he;rfl
 |ox c=>injection h with h;subst h;obtain⟨b,o,rfl,_⟩:=he;rfl
 |dead=>cases h
 |oy _ _ _ _ _=>cases h
 |Av _ _=>cases h
 |mW fs =>
  injection h with h;subst h
  obtain⟨us,rfl,g2,_⟩:=he;rw[afW];exact g2
theorem RB.block{L:Nat→Prop}{r b:Nat}{cells:List EV}(h:RB β L I w r cells)(hb:β r=some b) :
  ∃arr el,w.heap[b]? = some (.cells arr el (0,0))∧cells.length≤arr.size∧∀(j:Nat) e,cells[j]? = some e→∃u,arr[j]? = some u∧u.oneCell'=true∧RE β L I w e u:=by
 rcases h with ⟨h1,h2⟩|⟨b',arr,el,fw,h1,h2⟩
 ·rw[h1] at hb;cases hb
 ·rw[fw] at hb;injection hb with hb;subst hb
  refine⟨arr,el,h1,?_,h2⟩;rcases aiB cells.length with h0|h0
  ·omega
  ·obtain⟨u,h3,_⟩:=h2 (cells.length-1) _ (afO (by omega));have:=(agY.1 h3).1;omega
theorem sR(hT:n8 P T)(hr:Rel Γ s a w)(aK:q9 T o h s=some (s',ob))(bT:dK ob){K:Act→World→Prop}{Q:Exit→Act→World→Prop}
  (hk:∀a' w',Rel Γ s' a' w'→K a' w'):o.wp P a w K Q:=by
 obtain⟨β,I,hr⟩:=hr;unfold q9 at aK;split at aK
 ·rename_i t x y uV Hy;split at aK
  ·rename_i d r off e hd hx hy;split at aK
   ·rename_i cs sc Ag oP;cases Hp:(Nat.beq cs.length d.size&&Nat.blt r 999999) with
    |false=>simp[Hp] at aK
    |true =>
     simp only[Hp,cond_true] at aK;rw[afX] at Hp;have hl:=Hp.1;have N7:r<999999:=afS Hp.2;have Mx:cs.length=d.size:=ag0 hl;obtain⟨yi,b,hb,hv⟩:=hr.G7 x _ hx;have KQ:=hr.G7 y _ hy;obtain⟨arr,el,hg,SP,o0⟩:=(hr.aG.1 r sc oP).1.block hb;have Bj:=Hx KQ Ag;have main:∀sc':SC,off+cs.length≤sc.rI.length→eP sc.rI off cs=sc'.rI→(∀a' w',Rel Γ ⟨s.env,aS.set s.aG r sc'⟩ a' w'→K a' w')→o.wp P a w K Q:=by
      intro sc' hle Mq My;have h1:∀u∈(a.eval y).cells.toList,u.oneCell'=true:=by
       intro u hu;obtain⟨j,hj⟩:=ahJ.1 hu;have QI:j<cs.length:=by have:=(afQ.1 hj).1;simp at this;omega
       obtain⟨u',g1,g2,_⟩:=nG KQ Ag j _ (afO QI);have:u'=u:=by simpa[g1] using hj
       subst this;exact g2
      have Q9:=run_storeCells_at P b off el (a.eval y).cells.toList 0 arr w hg (by simp;omega) h1;simp only[Nat.add_zero] at Q9;have hlen:(arr.toList.take off++(a.eval y).cells.toList++arr.toList.drop (off+(a.eval y).cells.toList.length)).toArray.size=arr.size:=by simp;omega
      have kC:=hr.write (sc':=sc') N7 oP hb hg hlen (fun j e' gQ=>by
       rw[←Mq,jN _ _ _ hle] at gQ;have oX:(arr.toList.take off++(a.eval y).cells.toList++arr.toList.drop (off+(a.eval y).cells.toList.length)).toArray[j]? = if off≤j∧j<off+cs.length then (a.eval y).cells[j-off]? else arr[j]? := by have:=jN arr.toList off (a.eval y).cells.toList (by simp;omega) j;unfold eP at this;rw[←ahK] at this;simp only[List.getElem?_toArray];rw[this];simp only[Array.length_toList,Bj,Array.getElem?_toList]
       rw[oX];by_cases hj:off≤j∧j<off+cs.length
       ·rw[ag9 hj] at gQ ⊢;exact nG KQ Ag _ e' gQ
       ·rw[ag7 hj] at gQ ⊢;exact o0 j e' gQ)
      unfold Oper.wp execOp;simp only[uV,Instr.storeAt];rw[hv];simp only[Instr.sureAddr,Sem.run_bind,Sem.run_pure,Result.andThen_ok,storeVar,(hT t d hd).run_sizeOf w];rw[ag7 (by simp;omega)];rw[Q9];simp only[Result.andThen_ok];show K (a.put o.dst undef) _;rw[Hy];exact My _ _ ⟨β,I,kC⟩
     split at aK
     ·rename_i sc';injection aK with aK;injection aK with h1 h2
      subst h1;subst h2;obtain⟨g1,g2⟩:=bT.cons;exact main sc' g1 g2 hk
     ·split at aK
      ·rename_i cells;cases hle:Nat.ble (off+cs.length) cells.length with
       |false=>simp[hle] at aK
       |true =>
        simp only[hle,cond_true] at aK;injection aK with aK;injection aK with h1 h2
        subst h1;subst h2;exact main _ (afS hle) rfl hk
      ·cases aK
   ·cases aK
  ·cases aK
 ·cases aK
def Ra(s s':St):Prop:=(∀t,s'.env.get t=s.env.get t)∧∀r,s'.aG.get r=s.aG.get r
theorem Rel.Rb(hl:Ra s s')(hr:Rel Γ s a w):Rel Γ s' a w:=by
 obtain⟨β,I,hr⟩:=hr;have hd:∀r,bB s'.aG r↔bB s.aG r:=fun r=>by unfold bB;rw[hl.2 r]
 have s9:∀r,bB s.aG r→bB s'.aG r:=fun r h=>(hd r).2 h
 refine⟨β,I,fun t e he=>(hr.env t e (by rw[←hl.1 t];exact he)).mono (fun _ _=>rfl) s9 (fun _ h=>h) (fun _ _ _=>rfl) (fun _ _ _ _=>rfl),
  ⟨fun r sc hx => ?_,fun x y b hx hy=>hr.aG.2 x y b ((hd x).1 hx) ((hd y).1 hy)⟩,fun x hx=>hr.par x ((hd x).1 hx),fun x b hx=>hr.new x b ((hd x).1 hx),hr.ib,hr.ii,hr.aH,hr.size,hr.defers⟩
 obtain⟨g1,g2⟩:=hr.aG.1 r sc (by rw[←hl.2 r];exact hx);exact⟨g1.mono rfl (fun _ _=>rfl) (fun _ _=>rfl) s9 (fun _ h=>h) (fun _ _ _=>rfl) (fun _ _ _ _=>rfl),g2⟩
end
end Go.Proofs.YtcpnocgollpbhaaGreatDoor.Sym
