/- Lemmas for the statements of this seat. -/
import Derived.Test.YtneklnlpgfeplaaGreatW9
namespace Go.Proofs.YtneklnlpgfeplaaGreat.Sym
open Go Go.RowKit
def qA (P : Program) (f : FuncId) : Prop := ∃ fn, P.funcs[f]? = some fn ∧ fn.body.isSome = true ∧ (fn.name == "runtime.NumGoroutine") = false
def iP(sin sout:aY)(r:EV)(β:Nat→Option Nat)(I:Nat→Prop)(w:World)(e:Ending)(w':World):Prop :=
 ∃v β',e = .returned v∧(∀x,bz sin x→¬gv x→β' x=β x)∧gV (fun b=>∃x,bz sin x∧β x=some b) w w' ∧
  mw β' (fun b=>I b∨((fresh w w' b∨B3 sin β b)∧∀x,bz sout x→β' x≠some b)) w' sout ∧
  RE β' (bz sout) (fun b=>I b∨((fresh w w' b∨B3 sin β b)∧∀x,bz sout x→β' x≠some b)) w' r v ∧
  (∀x b,bz sout x→¬bz sin x→β' x=some b→fresh w w' b∨B3 sin β b)
def ag(P:Program)(f:FuncId)(args:List EV)(sin:aY)(r:EV)(sout:aY):Prop :=
 qA P f∧∀(I:Nat→Prop) (w:World) (β:Nat→Option Nat) (vs:Array Value),(∀b,I b→b<w.heap.size)→mw β I w sin→args.length=vs.size →
  (∀(j:Nat) e v,args[j]? = some e→vs[j]? = some v→RE β (bz sin) I w e v)→kh sin β w→Calls P f vs w (iP sin sout r β I w)
def eN(P:Program)(f:FuncId)(args:List PV)(r:PV):Prop:=ag P f (args.map EV.pv) [] (.pv r) []
def jC(n:Nat):Option Nat→Bool
 |none=>true
 |some d=>Nat.blt d n
theorem eO{n:Nat}{dst:Option Nat}(h:jC n dst=true):∀d,dst=some d→d<n:=by intro d hd;subst hd;exact abM h
def rf(op:Op)(dst:Option Nat)(s:St):St :=
 match op,dst with
 |.alloc _,some d=>kill d s
 |.box _ _,some d=>kill d s
 |.buildSlice _ _ _,some d=>kill d s
 |.makeSlice _ _ _,some d=>kill d s
 |_,_=>s
def xr(s:St)(dst:Option Nat)(res:nX):Option (St×List Prop) :=
 match res.new with
 |none=>some (⟨nN s.env dst res.val,s.aP⟩,res.ob)
 |some sc=>match dst with
  |some d=>match s.aP.get d with
   |none=>some (⟨nN s.env (some d) res.val,(d,sc)::s.aP⟩,res.ob)
   |some _=>none
  |none=>none
def zj(T:ja)(n:Nat)(o:Oper)(h:Hint)(s:St):Option (St×List Prop) :=
 bif jC n o.dst then
  match cI T (rf o.op o.dst s).aP o.dst o.op (cU (rf o.op o.dst s).env) h with
  |some res=>xr (rf o.op o.dst s) o.dst res
  |none=>none
 else none
section
variable {P:Program} {T:ja} {Γ:Ctx} {s s':St} {a:Act} {w:World} {β:Nat→Option Nat} {I:Nat→Prop} {o:Oper} {h:Hint} {ob:List Prop}
theorem dh.rf(hr:dh Γ s a w β I)(op:Op)(dst:Option Nat):dh Γ (rf op dst s) a w β I:=by unfold Sym.rf;split<;>first|exact hr.kill _|exact hr
theorem EJ(hs:∀r,bz Γ.sin r→Γ.n≤r)(hr:dh Γ s a w β I){dst:Option Nat}(hd:jC Γ.n dst=true){res:nX}{v:Value}{w':World}(hp:vf β (bz s.aP) I w dst res v w')
  (bc:xr s dst res=some (s',ob)):Rel Γ s' (a.put dst v) w'∧ob=res.ob:=by
 obtain⟨val,new,Uj⟩:=res;obtain⟨hb,hp⟩:=hp;unfold xr at bc;cases new with
 |none =>
  injection bc with bc
  injection bc with h1 h2
  subst h1;subst h2;refine⟨⟨β,_,(hr.grow hb (fun b hI => .inl hI) (fun b hI=>hI)).put (eO hd) hp⟩,rfl⟩
 |some sc =>
  obtain⟨d,b,rfl,Uk,hp⟩:=hp;simp only at bc;split at bc
  ·rename_i uF;injection bc with bc
   injection bc with h1 h2
   subst h1;subst h2;have zk:¬bz s.aP d:=by unfold bz;rw[uF];simp
   have uG:=eO hd d rfl;have EK:¬bz Γ.sin d:=fun h=>by have:=hs d h;omega
   obtain⟨HN,Mo⟩:=hp zk;have hg:dh Γ s a w' β (fun x=>I x∨(fresh w w' x∧x≠b)):=hr.grow hb (fun b hI => .inl hI) (fun x hx=>hx.elim .inl fun h => .inr h.1);have kU:=hg.site (d:=d) (sc:=sc) (ac4 uG Γ.small) zk EK (β':=MG β d b) (fun r nZ=>by simp[MG,nZ]) (fun b' fc=>by
    have:b'=b:=by simpa[MG] using fc.symm
    subst this;refine⟨Uk.2,fun hx => ?_,.inl (abZ hr.aW.size Uk.1),fun r we e => ?_⟩
    ·rcases hx with hx|hx
     ·have:=hr.ib _ hx;have:=Uk.1;omega
     ·exact hx.2 rfl
    ·have:=hr.lb r b' we e;have:=Uk.1;omega) HN
   exact⟨⟨_,_,kU.put (dst:=some d) (fun d' Og=>by injection Og with Og;omega) (Mo.mono (fun _ _=>rfl) (fun r hr=>(ei (ac4 uG Γ.small)).2 (hr.elim .inr .inl)) (fun _ h=>h) (fun _ _ _=>rfl) (fun _ _ _ _=>rfl))⟩,rfl⟩
  ·cases bc
theorem uH(hT:mm P T)(hs:∀r,bz Γ.sin r→Γ.n≤r)(hr:Rel Γ s a w)(bc:zj T Γ.n o h s=some (s',ob))(cf:dW ob){K:Act→World→Prop}{Q:Exit→Act→World→Prop}
  (hk:∀a' w',Rel Γ s' a' w'→K a' w'):o.wp P a w K Q:=by
 obtain⟨β,I,hr⟩:=hr;unfold zj at bc;cases hd:jC Γ.n o.dst with
 |false=>simp[hd] at bc
 |true =>
  simp only[hd,cond_true] at bc;have zM:=hr.rf o.op o.dst;split at bc
  ·rename_i res mq;have Pd:ob=res.ob:=by
    unfold xr at bc;split at bc
    ·injection bc with bc;injection bc with _ h2;exact h2.symm
    ·split at bc
     ·split at bc
      ·injection bc with bc;injection bc with _ h2;exact h2.symm
      ·cases bc
     ·cases bc
   rw[Pd] at cf;obtain⟨v,w',aJ,zT⟩:=x4 hT zM.pre mq cf;have:=(EJ hs zM hd zT bc).1;unfold Oper.wp;rw[aJ];exact hk _ _ this
  ·cases bc
def aY.Gp:aY→Nat→SC→aY
 |[],_,_=>[]
 |(r',c)::s,r,sc=>bif Nat.beq r' r then (r',sc)::s else (r',c)::aY.Gp s r sc
theorem aY.xu:∀(s:aY) (r x:Nat) (sc:SC),(aY.Gp s r sc).cD x=if x=r then (s.cD x).map (fun _=>sc) else s.cD x
 |[],r,x,sc=>by simp[aY.Gp,aY.cD]
 |(r',c)::s,r,x,sc=>by
  simp only[aY.Gp];cases hb:Nat.beq r' r with
  |true =>
   have:r'=r:=abO hb;subst this;simp only[cond_true,aY.cD];by_cases hx:x=r'
   ·subst hx;simp
   ·have h2:Nat.beq r' x=false:=gm (Ne.symm hx);simp[hx,h2]
  |false =>
   simp only[cond_false,aY.cD,aY.xu s r x sc];cases h2:Nat.beq r' x with
   |true =>
    have:r'=x:=abO h2;subst this;have nZ:r'≠r:=by intro e;subst e;simp at hb
    simp[nZ]
   |false=>simp
def aY.set(s:aY)(r:Nat)(sc:SC):aY:=bif Nat.blt r 999999 then aY.Gp s r sc else s
theorem aY.lE(s:aY)(r x:Nat)(sc:SC):(aY.set s r sc).get x=if x=r∧r<999999 then (s.get x).map (fun _=>sc) else s.get x:=by
 unfold aY.set;by_cases hr:r<999999
 ·rw[show Nat.blt r 999999=true from acN hr];simp only[cond_true,hr,and_true];rcases Dn x with h|rfl|⟨j,rfl⟩
  ·rw[aY.jB h,aY.jB h,aY.xu]
  ·rw[aY.gu,aY.gu];simp
  ·rw[aY.kI,aY.kI,ac3 (by unfold hc;omega)];unfold aY.hp;rw[aY.xu,ac3 (by omega)]
 ·rw[show Nat.blt r 999999=false from acX.2 (fun h=>hr (abM h))];simp[hr]
theorem gx{s:aY}{r x:Nat}{sc:SC} : bz (aY.set s r sc) x↔bz s x:=by unfold bz;rw[aY.lE];split<;>simp
theorem rh(w:World)(g k:Nat)(cs Ro:Array Value)(t:TypeId)(fr:Nat×Nat)(hg:w.heap[g]? = some (.cells Ro t fr))(hs:cs.size=Ro.size):(w.setRow g cs).shape? k=w.shape? k:=by
 by_cases hk:k=g
 ·subst hk;unfold World.shape?;rw[setRow_heap w k Ro cs t fr hg,hg];simp[hs]
 ·exact kH (setRow_other w g k cs hk)
theorem dh.Pe (hr : dh Γ s a w β I) {r b : Nat} {sc sc' : SC} {xv : aY} (MO : ∀ x, xv.get x = if x = r then (s.aP.get x).map (fun _ => sc') else s.aP.get x) (gS : s.aP.get r = some sc) (hb : β r = some b) {arr sO : Array Value} {el : TypeId} (hg : w.heap[b]? = some (.cells arr el (0, 0)))
    (ji : sO.size = arr.size) (qx : ∀ (j : Nat) e, sc'.oe[j]? = some e → ∃ u, sO[j]? = some u ∧ u.oneCell' = true ∧ RE β (bz s.aP) I w e u) :
    dh Γ ⟨s.env, xv⟩ a (w.setRow b sO) β I := by
  have MI : ∀ {x}, bz xv x ↔ bz s.aP x := fun {x} => by unfold bz; rw [MO]; split <;> simp
  have we : bz s.aP r := by unfold bz; rw [gS]; rfl
  have IK : ¬ I b := ((hr.aP.1 r sc gS).2 b hb).2;have hw : ∀ b' o, I b' → (w.setRow b sO).cell? ⟨b', o, none⟩ = w.cell? ⟨b', o, none⟩ := fun b' o hI => fh (setRow_other w b b' sO (fun e => IK (e ▸ hI))) o
  have zW : ∀ k, (w.setRow b sO).shape? k = w.shape? k := fun k => rh w b k sO arr el (0, 0) hg ji
  have sM : (w.setRow b sO).heap.size = w.heap.size := by simp [World.setRow]
  have hL : ∀ x, bz s.aP x → bz xv x := fun x hx => MI.2 hx
  refine ⟨fun t e he => (hr.env t e he).mono (fun _ _ => rfl) hL (fun _ h => h) hw (fun _ b' _ _ => zW b'), ⟨fun x Zx hx => ?_, fun x y b' hx hy => hr.aP.2 x y b' (MI.1 hx) (MI.1 hy)⟩,
    fun x hx => hr.par x (MI.1 hx), fun x b' hx => hr.new x b' (MI.1 hx), fun b' hI => by rw [sM]; exact hr.ib b' hI, fun b' hI => ?_, ?_, hr.size, hr.defers⟩
  · rw [MO] at hx;by_cases B4 : x = r
    · subst B4;rw [ac7 rfl, gS] at hx;simp only [Option.map_some, Option.some.injEq] at hx;subst hx;refine ⟨.inr ⟨b, sO, el, hb, setRow_heap w b arr sO el (0, 0) hg, fun j e he => ?_⟩, fun b' fc => by rw [sM]; exact (hr.aP.1 x sc gS).2 b' fc⟩;obtain ⟨u, g1, g2, g3⟩ := qx j e he;exact ⟨u, g1, g2, g3.mono (fun _ _ => rfl) hL (fun _ h => h) hw (fun _ b' _ _ => zW b')⟩
    · rw [ac3 B4] at hx;obtain ⟨g1, g2⟩ := hr.aP.1 x Zx hx;have vh : bz s.aP x := by unfold bz; rw [hx]; rfl
      refine ⟨g1.mono rfl (fun b' fc => setRow_other w b b' sO (fun e => B4 (hr.aP.2 x r b vh we (e ▸ fc) hb))) (fun _ _ => rfl) hL (fun _ h => h) hw (fun _ b' _ _ => zW b'), fun b' fc => by rw [sM]; exact g2 b' fc⟩
  · rcases hr.ii b' hI with h1 | h1
    · exact .inl h1
    · exact .inr (h1.imp (fun h1 => ⟨h1.1, by rw [sM]; exact h1.2⟩) id)
  · refine ⟨hr.aW.os, hr.aW.tape, hr.aW.output, by rw [sM]; exact hr.aW.size, fun k hk hM => ?_, fun k hk => (zW k).trans (hr.aW.shape k hk), hr.aW.drawn⟩;refine (setRow_other w b k sO (fun e => ?_)).trans (hr.aW.block k hk hM);subst e;by_cases hsr : bz Γ.sin r ∧ ¬ gv r
    · exact hM ⟨r, hsr.1, by rw [← hr.par r we hsr.1 hsr.2]; exact hb⟩
    · exact hM ((hr.new r k we (by by_cases h : bz Γ.sin r; · exact .inr (aco fun h2 => hsr ⟨h, h2⟩)
                                   · exact .inl h) hb).m hk)
theorem dh.write(hr:dh Γ s a w β I){r b:Nat}{sc sc':SC}(JY:r<999999)(gS:s.aP.get r=some sc)(hb:β r=some b){arr sO:Array Value}{el:TypeId}(hg:w.heap[b]? = some (.cells arr el (0,0)))
  (ji:sO.size=arr.size) (qx:∀(j:Nat) e,sc'.oe[j]? = some e→∃u,sO[j]? = some u∧u.oneCell'=true∧RE β (bz s.aP) I w e u) :
  dh Γ ⟨s.env,aY.set s.aP r sc'⟩ a (w.setRow b sO) β I :=
 hr.Pe (fun x=>by rw[aY.lE];simp[JY]) gS hb hg ji qx
def qB(T:ja)(o:Oper)(h:Hint)(s:St):Option (St×List Prop) :=
 match o.op,o.dst with
 |.store t x y,none=>match T.get t,cU s.env x,cU s.env y with
  |some d,some (.ptr r off),some e=>match mW e,s.aP.get r with
   |some cs,some sc=>bif Nat.beq cs.length d.size&&Nat.blt r 999999 then
     match h with
     |.cells sc'=>some (⟨s.env,aY.set s.aP r sc'⟩,[off+cs.length≤sc.oe.length,dB sc.oe off cs=sc'.oe])
     |_=>match sc with
      |.lit cells=>bif Nat.ble (off+cs.length) cells.length then some (⟨s.env,aY.set s.aP r (.lit (dB cells off cs))⟩,[]) else none
      |_=>none
    else none
   |_,_=>none
  |_,_,_=>none
 |_,_=>none
theorem EL{e:EV}{cs:List EV}{v:Value}{L:Nat→Prop}(he:RE β L I w e v)(h:mW e=some cs):v.cells.size=cs.length:=by
 cases e with
 |pv p =>
  unfold mW at h;cases ht:p.sJ with
  |true=>simp[ht] at h
  |false =>simp[ht] at h;subst h;have hr:bO I w p.cells v.cells.toList:=Rd.cells he (fun vs e=>by subst e;simp[PV.sJ] at ht);have:=hr.1;simpa using this.symm
 |ptr r off=>injection h with h;subst h;obtain⟨_,b,_,rfl⟩:=he;rfl
 |row r off len sz =>
  injection h with h;subst h
  obtain⟨_,⟨_,_,rfl⟩|⟨b,c,_,rfl,_⟩⟩:=he<;>rfl
 |ig r len sz =>
  injection h with h;subst h
  obtain⟨_,⟨_,_,rfl⟩|⟨b,c,_,rfl,_⟩⟩:=he<;>rfl
 |mE r off=>injection h with h;subst h;obtain⟨_,b,_,rfl⟩:=he;rfl
 |mC c=>injection h with h;subst h;obtain⟨b,o,rfl,_⟩:=he;rfl
 |dead=>cases h
 |jA _ _ _ _ _=>cases h
 |mD _ _=>cases h
 |iu _ _ _=>cases h
 |cM f bs rs=>injection h with h;subst h;obtain⟨_,ab,ac,_,_,rfl⟩:=he;rfl
 |lz fs =>
  injection h with h;subst h
  obtain⟨us,rfl,g2,_⟩:=he;rw[abS];exact g2
theorem RB.block{L:Nat→Prop}{r b:Nat}{cells:List EV}(h:RB β L I w r cells)(hb:β r=some b) :
  ∃arr el,w.heap[b]? = some (.cells arr el (0,0))∧cells.length≤arr.size∧∀(j:Nat) e,cells[j]? = some e→∃u,arr[j]? = some u∧u.oneCell'=true∧RE β L I w e u:=by
 rcases h with ⟨h1,h2⟩|⟨b',arr,el,fc,h1,h2⟩
 ·rw[h1] at hb;cases hb
 ·rw[fc] at hb;injection hb with hb;subst hb
  refine⟨arr,el,h1,?_,h2⟩;rcases ae0 cells.length with h0|h0
  ·omega
  ·obtain⟨u,h3,_⟩:=h2 (cells.length-1) _ (abJ (by omega));have:=(ach.1 h3).1;omega
theorem r7(hT:mm P T)(hr:Rel Γ s a w)(bc:qB T o h s=some (s',ob))(cf:dW ob){K:Act→World→Prop}{Q:Exit→Act→World→Prop}
  (hk:∀a' w',Rel Γ s' a' w'→K a' w'):o.wp P a w K Q:=by
 obtain⟨β,I,hr⟩:=hr;unfold qB at bc;split at bc
 ·rename_i t x y pB EM;split at bc
  ·rename_i d r off e hd hx hy;split at bc
   ·rename_i cs sc vO gS;cases EG:(Nat.beq cs.length d.size&&Nat.blt r 999999) with
    |false=>simp[EG] at bc
    |true =>
     simp only[EG,cond_true] at bc;rw[abK] at EG;have hl:=EG.1;have JY:r<999999:=abM EG.2;have MP:cs.length=d.size:=abO hl;obtain⟨we,b,hb,hv⟩:=hr.zZ x _ hx;have HO:=hr.zZ y _ hy;obtain⟨arr,el,hg,Mp,oH⟩:=(hr.aP.1 r sc gS).1.block hb;have En:=EL HO vO;have main:∀sc':SC,off+cs.length≤sc.oe.length→dB sc.oe off cs=sc'.oe→(∀a' w',Rel Γ ⟨s.env,aY.set s.aP r sc'⟩ a' w'→K a' w')→o.wp P a w K Q:=by
      intro sc' hle FY Eo;have h1:∀u∈(a.eval y).cells.toList,u.oneCell'=true:=by
       intro u hu;obtain⟨j,hj⟩:=acR.1 hu;have HP:j<cs.length:=by have:=(abL.1 hj).1;simp at this;omega
       obtain⟨u',g1,g2,_⟩:=mX HO vO j _ (abJ HP);have:u'=u:=by simpa[g1] using hj
       subst this;exact g2
      have MQ:=run_storeCells_at P b off el (a.eval y).cells.toList 0 arr w hg (by simp;omega) h1;simp only[Nat.add_zero] at MQ;have hlen:(arr.toList.take off++(a.eval y).cells.toList++arr.toList.drop (off+(a.eval y).cells.toList.length)).toArray.size=arr.size:=by simp;omega
      have gW:=hr.write (sc':=sc') JY gS hb hg hlen (fun j e' gi=>by
       rw[←FY,fY _ _ _ hle] at gi;have qz:(arr.toList.take off++(a.eval y).cells.toList++arr.toList.drop (off+(a.eval y).cells.toList.length)).toArray[j]? = if off≤j∧j<off+cs.length then (a.eval y).cells[j-off]? else arr[j]? := by have:=fY arr.toList off (a.eval y).cells.toList (by simp;omega) j;unfold dB at this;rw[←ae9] at this;simp only[List.getElem?_toArray];rw[this];simp only[Array.length_toList,En,Array.getElem?_toList]
       rw[qz];by_cases hj:off≤j∧j<off+cs.length
       ·rw[ac7 hj] at gi ⊢;exact mX HO vO _ e' gi
       ·rw[ac3 hj] at gi ⊢;exact oH j e' gi)
      unfold Oper.wp execOp;simp only[pB,Instr.storeAt];rw[hv];simp only[Instr.sureAddr,Sem.run_bind,Sem.run_pure,Result.andThen_ok,storeVar,(hT t d hd).run_sizeOf w];rw[ac3 (by simp;omega)];rw[MQ];simp only[Result.andThen_ok];show K (a.put o.dst undef) _;rw[EM];exact Eo _ _ ⟨β,I,gW⟩
     split at bc
     ·rename_i sc';injection bc with bc;injection bc with h1 h2
      subst h1;subst h2;obtain⟨g1,g2⟩:=cf.cons;exact main sc' g1 g2 hk
     ·split at bc
      ·rename_i cells;cases hle:Nat.ble (off+cs.length) cells.length with
       |false=>simp[hle] at bc
       |true =>
        simp only[hle,cond_true] at bc;injection bc with bc;injection bc with h1 h2
        subst h1;subst h2;exact main _ (abM hle) rfl hk
      ·cases bc
   ·cases bc
  ·cases bc
 ·cases bc
def MR(s s':St):Prop:=(∀t,s'.env.get t=s.env.get t)∧∀r,s'.aP.get r=s.aP.get r
theorem Rel.IL(hl:MR s s')(hr:Rel Γ s a w):Rel Γ s' a w:=by
 obtain⟨β,I,hr⟩:=hr;have hd:∀r,bz s'.aP r↔bz s.aP r:=fun r=>by unfold bz;rw[hl.2 r]
 have r8:∀r,bz s.aP r→bz s'.aP r:=fun r h=>(hd r).2 h
 refine⟨β,I,fun t e he=>(hr.env t e (by rw[←hl.1 t];exact he)).mono (fun _ _=>rfl) r8 (fun _ h=>h) (fun _ _ _=>rfl) (fun _ _ _ _=>rfl),
  ⟨fun r sc hx => ?_,fun x y b hx hy=>hr.aP.2 x y b ((hd x).1 hx) ((hd y).1 hy)⟩,fun x hx=>hr.par x ((hd x).1 hx),fun x b hx=>hr.new x b ((hd x).1 hx),hr.ib,hr.ii,hr.aW,hr.size,hr.defers⟩
 obtain⟨g1,g2⟩:=hr.aP.1 r sc (by rw[←hl.2 r];exact hx);exact⟨g1.mono rfl (fun _ _=>rfl) (fun _ _=>rfl) r8 (fun _ h=>h) (fun _ _ _=>rfl) (fun _ _ _ _=>rfl),g2⟩
end
end Go.Proofs.YtneklnlpgfeplaaGreat.Sym
