/- Lemmas for the statements of this seat. -/
import Derived.Test.YtcpnocgollpbhaaGreatDoorW9
namespace Go.Proofs.YtcpnocgollpbhaaGreatDoor.Sym
open Go Go.RowKit
def mv (P : Program) (f : FuncId) : Prop := ∃ fn, P.funcs[f]? = some fn ∧ fn.body.isSome = true ∧ (fn.name == "runtime.NumGoroutine") = false
def uf(sin sout:aT)(r:EV)(β:Nat→Option Nat)(I:Nat→Prop)(w:World)(e:Ending)(w':World):Prop :=
 ∃v β',e = .returned v∧(∀x,bK sin x→¬gv x→β' x=β x)∧l6 (fun b=>∃x,bK sin x∧β x=some b) w w' ∧
  xX β' (fun b=>I b∨((fresh w w' b∨Na sin β b)∧∀x,bK sout x→β' x≠some b)) w' sout ∧
  RE β' (bK sout) (fun b=>I b∨((fresh w w' b∨Na sin β b)∧∀x,bK sout x→β' x≠some b)) w' r v ∧
  (∀x b,bK sout x→¬bK sin x→β' x=some b→fresh w w' b∨Na sin β b)
def au(P:Program)(f:FuncId)(args:List EV)(sin:aT)(r:EV)(sout:aT):Prop :=
 mv P f∧∀(I:Nat→Prop) (w:World) (β:Nat→Option Nat) (vs:Array Value),(∀b,I b→b<w.heap.size)→xX β I w sin→args.length=vs.size →
  (∀(j:Nat) e v,args[j]? = some e→vs[j]? = some v→RE β (bK sin) I w e v)→ue sin β w→Calls P f vs w (uf sin sout r β I w)
def eM(P:Program)(f:FuncId)(args:List PV)(r:PV):Prop:=au P f (args.map EV.pv) [] (.pv r) []
def l7(n:Nat):Option Nat→Bool
 |none=>true
 |some d=>Nat.blt d n
theorem fo{n:Nat}{dst:Option Nat}(h:l7 n dst=true):∀d,dst=some d→d<n:=by intro d hd;subst hd;exact afv h
def sP(op:Op)(dst:Option Nat)(s:St):St :=
 match op,dst with
 |.alloc _,some d=>kill d s
 |.box _ _,some d=>kill d s
 |.buildSlice _ _ _,some d=>kill d s
 |.makeSlice _ _ _,some d=>kill d s
 |_,_=>s
def zI(s:St)(dst:Option Nat)(res:oP):Option (St×List Prop) :=
 match res.new with
 |none=>some (⟨pF s.env dst res.val,s.aK⟩,res.ob)
 |some sc=>match dst with
  |some d=>match s.aK.get d with
   |none=>some (⟨pF s.env (some d) res.val,(d,sc)::s.aK⟩,res.ob)
   |some _=>none
  |none=>none
def BK(T:lh)(n:Nat)(o:Oper)(h:Hint)(s:St):Option (St×List Prop) :=
 bif l7 n o.dst then
  match cw T (sP o.op o.dst s).aK o.dst o.op (dA (sP o.op o.dst s).env) h with
  |some res=>zI (sP o.op o.dst s) o.dst res
  |none=>none
 else none
section
variable {P:Program} {T:lh} {Γ:Ctx} {s s':St} {a:Act} {w:World} {β:Nat→Option Nat} {I:Nat→Prop} {o:Oper} {h:Hint} {ob:List Prop}
theorem dz.sP(hr:dz Γ s a w β I)(op:Op)(dst:Option Nat):dz Γ (sP op dst s) a w β I:=by unfold Sym.sP;split<;>first|exact hr.kill _|exact hr
theorem Ic(hs:∀r,bK Γ.sin r→Γ.n≤r)(hr:dz Γ s a w β I){dst:Option Nat}(hd:l7 Γ.n dst=true){res:oP}{v:Value}{w':World}(hp:wT β (bK s.aK) I w dst res v w')
  (aO:zI s dst res=some (s',ob)):Rel Γ s' (a.put dst v) w'∧ob=res.ob:=by
 obtain⟨val,new,YH⟩:=res;obtain⟨hb,hp⟩:=hp;unfold zI at aO;cases new with
 |none =>
  injection aO with aO
  injection aO with h1 h2
  subst h1;subst h2;refine⟨⟨β,_,(hr.grow hb (fun b hI => .inl hI) (fun b hI=>hI)).put (fo hd) hp⟩,rfl⟩
 |some sc =>
  obtain⟨d,b,rfl,Rj,hp⟩:=hp;simp only at aO;split at aO
  ·rename_i wh;injection aO with aO
   injection aO with h1 h2
   subst h1;subst h2;have BL:¬bK s.aK d:=by unfold bK;rw[wh];simp
   have wi:=fo hd d rfl;have Ie:¬bK Γ.sin d:=fun h=>by have:=hs d h;omega
   obtain⟨Ly,Tj⟩:=hp BL;have hg:dz Γ s a w' β (fun x=>I x∨(fresh w w' x∧x≠b)):=hr.grow hb (fun b hI => .inl hI) (fun x hx=>hx.elim .inl fun h => .inr h.1);have qL:=hg.site (d:=d) (sc:=sc) (aga wi Γ.small) BL Ie (β':=RA β d b) (fun r fT=>by simp[RA,fT]) (fun b' fG=>by
    have:b'=b:=by simpa[RA] using fG.symm
    subst this;refine⟨Rj.2,fun hx => ?_,.inl (afJ hr.aG.size Rj.1),fun r zH e => ?_⟩
    ·rcases hx with hx|hx
     ·have:=hr.ib _ hx;have:=Rj.1;omega
     ·exact hx.2 rfl
    ·have:=hr.lb r b' zH e;have:=Rj.1;omega) Ly
   exact⟨⟨_,_,qL.put (dst:=some d) (fun d' Tk=>by injection Tk with Tk;omega) (Tj.mono (fun _ _=>rfl) (fun r hr=>(dY (aga wi Γ.small)).2 (hr.elim .inr .inl)) (fun _ h=>h) (fun _ _ _=>rfl) (fun _ _ _ _=>rfl))⟩,rfl⟩
  ·cases aO
theorem wj(hT:oE P T)(hs:∀r,bK Γ.sin r→Γ.n≤r)(hr:Rel Γ s a w)(aO:BK T Γ.n o h s=some (s',ob))(cv:dX ob){K:Act→World→Prop}{Q:Exit→Act→World→Prop}
  (hk:∀a' w',Rel Γ s' a' w'→K a' w'):o.wp P a w K Q:=by
 obtain⟨β,I,hr⟩:=hr;unfold BK at aO;cases hd:l7 Γ.n o.dst with
 |false=>simp[hd] at aO
 |true =>
  simp only[hd,cond_true] at aO;have xP:=hr.sP o.op o.dst;split at aO
  ·rename_i res pG;have Ut:ob=res.ob:=by
    unfold zI at aO;split at aO
    ·injection aO with aO;injection aO with _ h2;exact h2.symm
    ·split at aO
     ·split at aO
      ·injection aO with aO;injection aO with _ h2;exact h2.symm
      ·cases aO
     ·cases aO
   rw[Ut] at cv;obtain⟨v,w',aw,Cw⟩:=AG hT xP.pre pG cv;have:=(Ic hs xP hd Cw aO).1;unfold Oper.wp;rw[aw];exact hk _ _ this
  ·cases aO
def aT.Kh:aT→Nat→SC→aT
 |[],_,_=>[]
 |(r',c)::s,r,sc=>bif Nat.beq r' r then (r',sc)::s else (r',c)::aT.Kh s r sc
theorem aT.zJ:∀(s:aT) (r x:Nat) (sc:SC),(aT.Kh s r sc).eF x=if x=r then (s.eF x).map (fun _=>sc) else s.eF x
 |[],r,x,sc=>by simp[aT.Kh,aT.eF]
 |(r',c)::s,r,x,sc=>by
  simp only[aT.Kh];cases hb:Nat.beq r' r with
  |true =>
   have:r'=r:=afB hb;subst this;simp only[cond_true,aT.eF];by_cases hx:x=r'
   ·subst hx;simp
   ·have h2:Nat.beq r' x=false:=iJ (Ne.symm hx);simp[hx,h2]
  |false =>
   simp only[cond_false,aT.eF,aT.zJ s r x sc];cases h2:Nat.beq r' x with
   |true =>
    have:r'=x:=afB h2;subst this;have fT:r'≠r:=by intro e;subst e;simp at hb
    simp[fT]
   |false=>simp
def aT.set(s:aT)(r:Nat)(sc:SC):aT:=bif Nat.blt r 999999 then aT.Kh s r sc else s
theorem aT.mw(s:aT)(r x:Nat)(sc:SC):(aT.set s r sc).get x=if x=r∧r<999999 then (s.get x).map (fun _=>sc) else s.get x:=by
 unfold aT.set;by_cases hr:r<999999
 ·rw[show Nat.blt r 999999=true from agR hr];simp only[cond_true,hr,and_true];rcases HX x with h|rfl|⟨j,rfl⟩
  ·rw[aT.lM h,aT.lM h,aT.zJ]
  ·rw[aT.iC,aT.iC];simp
  ·rw[aT.mm,aT.mm,afG (by unfold hc;omega)];unfold aT.hp;rw[aT.zJ,afG (by omega)]
 ·rw[show Nat.blt r 999999=false from ah8.2 (fun h=>hr (afv h))];simp[hr]
theorem gV{s:aT}{r x:Nat}{sc:SC} : bK (aT.set s r sc) x↔bK s x:=by unfold bK;rw[aT.mw];split<;>simp
theorem sQ(w:World)(g k:Nat)(cs Zq:Array Value)(t:TypeId)(fr:Nat×Nat)(hg:w.heap[g]? = some (.cells Zq t fr))(hs:cs.size=Zq.size):(w.setRow g cs).shape? k=w.shape? k:=by
 by_cases hk:k=g
 ·subst hk;unfold World.shape?;rw[setRow_heap w k Zq cs t fr hg,hg];simp[hs]
 ·exact sH (setRow_other w g k cs hk)
theorem dz.Uu (hr : dz Γ s a w β I) {r b : Nat} {sc sc' : SC} {zK : aT} (RK : ∀ x, zK.get x = if x = r then (s.aK.get x).map (fun _ => sc') else s.aK.get x) (pk : s.aK.get r = some sc) (hb : β r = some b) {arr ug : Array Value} {el : TypeId} (hg : w.heap[b]? = some (.cells arr el (0, 0)))
    (mg : ug.size = arr.size) (r7 : ∀ (j : Nat) e, sc'.sG[j]? = some e → ∃ u, ug[j]? = some u ∧ u.oneCell' = true ∧ RE β (bK s.aK) I w e u) :
    dz Γ ⟨s.env, zK⟩ a (w.setRow b ug) β I := by
  have RD : ∀ {x}, bK zK x ↔ bK s.aK x := fun {x} => by unfold bK; rw [RK]; split <;> simp
  have zH : bK s.aK r := by unfold bK; rw [pk]; rfl
  have Nb : ¬ I b := ((hr.aK.1 r sc pk).2 b hb).2;have hw : ∀ b' o, I b' → (w.setRow b ug).cell? ⟨b', o, none⟩ = w.cell? ⟨b', o, none⟩ := fun b' o hI => iH (setRow_other w b b' ug (fun e => Nb (e ▸ hI))) o
  have E3 : ∀ k, (w.setRow b ug).shape? k = w.shape? k := fun k => sQ w b k ug arr el (0, 0) hg mg
  have xV : (w.setRow b ug).heap.size = w.heap.size := by simp [World.setRow]
  have hL : ∀ x, bK s.aK x → bK zK x := fun x hx => RD.2 hx
  refine ⟨fun t e he => (hr.env t e he).mono (fun _ _ => rfl) hL (fun _ h => h) hw (fun _ b' _ _ => E3 b'), ⟨fun x scx hx => ?_, fun x y b' hx hy => hr.aK.2 x y b' (RD.1 hx) (RD.1 hy)⟩,
    fun x hx => hr.par x (RD.1 hx), fun x b' hx => hr.new x b' (RD.1 hx), fun b' hI => by rw [xV]; exact hr.ib b' hI, fun b' hI => ?_, ?_, hr.size, hr.defers⟩
  · rw [RK] at hx;by_cases EA : x = r
    · subst EA;rw [afI rfl, pk] at hx;simp only [Option.map_some, Option.some.injEq] at hx;subst hx;refine ⟨.inr ⟨b, ug, el, hb, setRow_heap w b arr ug el (0, 0) hg, fun j e he => ?_⟩, fun b' fG => by rw [xV]; exact (hr.aK.1 x sc pk).2 b' fG⟩;obtain ⟨u, g1, g2, g3⟩ := r7 j e he;exact ⟨u, g1, g2, g3.mono (fun _ _ => rfl) hL (fun _ h => h) hw (fun _ b' _ _ => E3 b')⟩
    · rw [afG EA] at hx;obtain ⟨g1, g2⟩ := hr.aK.1 x scx hx;have JQ : bK s.aK x := by unfold bK; rw [hx]; rfl
      refine ⟨g1.mono rfl (fun b' fG => setRow_other w b b' ug (fun e => EA (hr.aK.2 x r b JQ zH (e ▸ fG) hb))) (fun _ _ => rfl) hL (fun _ h => h) hw (fun _ b' _ _ => E3 b'), fun b' fG => by rw [xV]; exact g2 b' fG⟩
  · rcases hr.ii b' hI with h1 | h1
    · exact .inl h1
    · exact .inr (h1.imp (fun h1 => ⟨h1.1, by rw [xV]; exact h1.2⟩) id)
  · refine ⟨hr.aG.os, hr.aG.tape, hr.aG.output, by rw [xV]; exact hr.aG.size, fun k hk hM => ?_, fun k hk => (E3 k).trans (hr.aG.shape k hk), hr.aG.drawn⟩;refine (setRow_other w b k ug (fun e => ?_)).trans (hr.aG.block k hk hM);subst e;by_cases hsr : bK Γ.sin r ∧ ¬ gv r
    · exact hM ⟨r, hsr.1, by rw [← hr.par r zH hsr.1 hsr.2]; exact hb⟩
    · exact hM ((hr.new r k zH (by by_cases h : bK Γ.sin r; · exact .inr (afE fun h2 => hsr ⟨h, h2⟩)
                                   · exact .inl h) hb).m hk)
theorem dz.write(hr:dz Γ s a w β I){r b:Nat}{sc sc':SC}(OK:r<999999)(pk:s.aK.get r=some sc)(hb:β r=some b){arr ug:Array Value}{el:TypeId}(hg:w.heap[b]? = some (.cells arr el (0,0)))
  (mg:ug.size=arr.size) (r7:∀(j:Nat) e,sc'.sG[j]? = some e→∃u,ug[j]? = some u∧u.oneCell'=true∧RE β (bK s.aK) I w e u) :
  dz Γ ⟨s.env,aT.set s.aK r sc'⟩ a (w.setRow b ug) β I :=
 hr.Uu (fun x=>by rw[aT.mw];simp[OK]) pk hb hg mg r7
def r9(T:lh)(o:Oper)(h:Hint)(s:St):Option (St×List Prop) :=
 match o.op,o.dst with
 |.store t x y,none=>match T.get t,dA s.env x,dA s.env y with
  |some d,some (.ptr r off),some e=>match nW e,s.aK.get r with
   |some cs,some sc=>bif Nat.beq cs.length d.size&&Nat.blt r 999999 then
     match h with
     |.cells sc'=>some (⟨s.env,aT.set s.aK r sc'⟩,[off+cs.length≤sc.sG.length,fg sc.sG off cs=sc'.sG])
     |_=>match sc with
      |.lit cells=>bif Nat.ble (off+cs.length) cells.length then some (⟨s.env,aT.set s.aK r (.lit (fg cells off cs))⟩,[]) else none
      |_=>none
    else none
   |_,_=>none
  |_,_,_=>none
 |_,_=>none
theorem Ig{e:EV}{cs:List EV}{v:Value}{L:Nat→Prop}(he:RE β L I w e v)(h:nW e=some cs):v.cells.size=cs.length:=by
 cases e with
 |pv p =>
  unfold nW at h;cases ht:p.ub with
  |true=>simp[ht] at h
  |false =>simp[ht] at h;subst h;have hr:bM I w p.cells v.cells.toList:=Rd.cells he (fun vs e=>by subst e;simp[PV.ub] at ht);have:=hr.1;simpa using this.symm
 |ptr r off=>injection h with h;subst h;obtain⟨_,b,_,rfl⟩:=he;rfl
 |row r off len sz =>
  injection h with h;subst h
  obtain⟨_,⟨_,_,rfl⟩|⟨b,c,_,rfl,_⟩⟩:=he<;>rfl
 |jB r len sz =>
  injection h with h;subst h
  obtain⟨_,⟨_,_,rfl⟩|⟨b,c,_,rfl,_⟩⟩:=he<;>rfl
 |oD r off=>injection h with h;subst h;obtain⟨_,b,_,rfl⟩:=he;rfl
 |oY c=>injection h with h;subst h;obtain⟨b,o,rfl,_⟩:=he;rfl
 |dead=>cases h
 |oZ _ _ _ _ _=>cases h
 |BI _ _=>cases h
 |nC fs =>
  injection h with h;subst h
  obtain⟨us,rfl,g2,_⟩:=he;rw[afq];exact g2
theorem RB.block{L:Nat→Prop}{r b:Nat}{cells:List EV}(h:RB β L I w r cells)(hb:β r=some b) :
  ∃arr el,w.heap[b]? = some (.cells arr el (0,0))∧cells.length≤arr.size∧∀(j:Nat) e,cells[j]? = some e→∃u,arr[j]? = some u∧u.oneCell'=true∧RE β L I w e u:=by
 rcases h with ⟨h1,h2⟩|⟨b',arr,el,fG,h1,h2⟩
 ·rw[h1] at hb;cases hb
 ·rw[fG] at hb;injection hb with hb;subst hb
  refine⟨arr,el,h1,?_,h2⟩;rcases aid cells.length with h0|h0
  ·omega
  ·obtain⟨u,h3,_⟩:=h2 (cells.length-1) _ (afp (by omega));have:=(agC.1 h3).1;omega
theorem tJ(hT:oE P T)(hr:Rel Γ s a w)(aO:r9 T o h s=some (s',ob))(cv:dX ob){K:Act→World→Prop}{Q:Exit→Act→World→Prop}
  (hk:∀a' w',Rel Γ s' a' w'→K a' w'):o.wp P a w K Q:=by
 obtain⟨β,I,hr⟩:=hr;unfold r9 at aO;split at aO
 ·rename_i t x y v7 Ih;split at aO
  ·rename_i d r off e hd hx hy;split at aO
   ·rename_i cs sc Br pk;cases H8:(Nat.beq cs.length d.size&&Nat.blt r 999999) with
    |false=>simp[H8] at aO
    |true =>
     simp only[H8,cond_true] at aO;rw[afA] at H8;have hl:=H8.1;have OK:r<999999:=afv H8.2;have Gh:cs.length=d.size:=afB hl;obtain⟨zH,b,hb,hv⟩:=hr.HI x _ hx;have Lz:=hr.HI y _ hy;obtain⟨arr,el,hg,Tl,pH⟩:=(hr.aK.1 r sc pk).1.block hb;have Cz:=Ig Lz Br;have main:∀sc':SC,off+cs.length≤sc.sG.length→fg sc.sG off cs=sc'.sG→(∀a' w',Rel Γ ⟨s.env,aT.set s.aK r sc'⟩ a' w'→K a' w')→o.wp P a w K Q:=by
      intro sc' hle M5 Nc;have h1:∀u∈(a.eval y).cells.toList,u.oneCell'=true:=by
       intro u hu;obtain⟨j,hj⟩:=ahn.1 hu;have Rk:j<cs.length:=by have:=(afs.1 hj).1;simp at this;omega
       obtain⟨u',g1,g2,_⟩:=nX Lz Br j _ (afp Rk);have:u'=u:=by simpa[g1] using hj
       subst this;exact g2
      have RL:=run_storeCells_at P b off el (a.eval y).cells.toList 0 arr w hg (by simp;omega) h1;simp only[Nat.add_zero] at RL;have hlen:(arr.toList.take off++(a.eval y).cells.toList++arr.toList.drop (off+(a.eval y).cells.toList.length)).toArray.size=arr.size:=by simp;omega
      have kT:=hr.write (sc':=sc') OK pk hb hg hlen (fun j e' iu=>by
       rw[←M5,kd _ _ _ hle] at iu;have mr:(arr.toList.take off++(a.eval y).cells.toList++arr.toList.drop (off+(a.eval y).cells.toList.length)).toArray[j]? = if off≤j∧j<off+cs.length then (a.eval y).cells[j-off]? else arr[j]? := by have:=kd arr.toList off (a.eval y).cells.toList (by simp;omega) j;unfold fg at this;rw[←ah9] at this;simp only[List.getElem?_toArray];rw[this];simp only[Array.length_toList,Cz,Array.getElem?_toList]
       rw[mr];by_cases hj:off≤j∧j<off+cs.length
       ·rw[afI hj] at iu ⊢;exact nX Lz Br _ e' iu
       ·rw[afG hj] at iu ⊢;exact pH j e' iu)
      unfold Oper.wp execOp;simp only[v7,Instr.storeAt];rw[hv];simp only[Instr.sureAddr,Sem.run_bind,Sem.run_pure,Result.andThen_ok,storeVar,(hT t d hd).run_sizeOf w];rw[afG (by simp;omega)];rw[RL];simp only[Result.andThen_ok];show K (a.put o.dst undef) _;rw[Ih];exact Nc _ _ ⟨β,I,kT⟩
     split at aO
     ·rename_i sc';injection aO with aO;injection aO with h1 h2
      subst h1;subst h2;obtain⟨g1,g2⟩:=cv.cons;exact main sc' g1 g2 hk
     ·split at aO
      ·rename_i cells;cases hle:Nat.ble (off+cs.length) cells.length with
       |false=>simp[hle] at aO
       |true =>
        simp only[hle,cond_true] at aO;injection aO with aO;injection aO with h1 h2
        subst h1;subst h2;exact main _ (afv hle) rfl hk
      ·cases aO
   ·cases aO
  ·cases aO
 ·cases aO
def RM(s s':St):Prop:=(∀t,s'.env.get t=s.env.get t)∧∀r,s'.aK.get r=s.aK.get r
theorem Rel.RN(hl:RM s s')(hr:Rel Γ s a w):Rel Γ s' a w:=by
 obtain⟨β,I,hr⟩:=hr;have hd:∀r,bK s'.aK r↔bK s.aK r:=fun r=>by unfold bK;rw[hl.2 r]
 have vj:∀r,bK s.aK r→bK s'.aK r:=fun r h=>(hd r).2 h
 refine⟨β,I,fun t e he=>(hr.env t e (by rw[←hl.1 t];exact he)).mono (fun _ _=>rfl) vj (fun _ h=>h) (fun _ _ _=>rfl) (fun _ _ _ _=>rfl),
  ⟨fun r sc hx => ?_,fun x y b hx hy=>hr.aK.2 x y b ((hd x).1 hx) ((hd y).1 hy)⟩,fun x hx=>hr.par x ((hd x).1 hx),fun x b hx=>hr.new x b ((hd x).1 hx),hr.ib,hr.ii,hr.aG,hr.size,hr.defers⟩
 obtain⟨g1,g2⟩:=hr.aK.1 r sc (by rw[←hl.2 r];exact hx);exact⟨g1.mono rfl (fun _ _=>rfl) (fun _ _=>rfl) vj (fun _ h=>h) (fun _ _ _=>rfl) (fun _ _ _ _=>rfl),g2⟩
end
end Go.Proofs.YtcpnocgollpbhaaGreatDoor.Sym
