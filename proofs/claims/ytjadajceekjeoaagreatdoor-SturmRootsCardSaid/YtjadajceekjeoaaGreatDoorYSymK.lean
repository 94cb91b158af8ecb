/- The statement SturmRoots is proved, its tables tied: a product of given factors has as many roots as there are different ones, and the isolating intervals contain them; no condition. -/
import Derived.Test.YtjadajceekjeoaaGreatDoorYSymJ
namespace Go.Proofs.YtjadajceekjeoaaGreatDoor.Sym
open Go Go.RowKit
def Callable (P : Program) (f : FuncId) : Prop := ∃ fn, P.funcs[f]? = some fn ∧ fn.body.isSome = true ∧ (fn.name == "runtime.NumGoroutine") = false
def CallPost(sin sout:Sto)(r:EV)(β:Nat→Option Nat)(I:Nat→Prop)(w:World)(e:Ending)(w':World):Prop :=
 ∃v β',e = .returned v∧(∀x,dom sin x→¬gv x→β' x=β x)∧Keeps (fun b=>∃x,dom sin x∧β x=some b) w w' ∧
  StoOk β' (fun b=>I b∨((fresh w w' b∨Gvn sin β b)∧∀x,dom sout x→β' x≠some b)) w' sout ∧
  RE β' (dom sout) (fun b=>I b∨((fresh w w' b∨Gvn sin β b)∧∀x,dom sout x→β' x≠some b)) w' r v ∧
  (∀x b,dom sout x→¬dom sin x→β' x=some b→fresh w w' b∨Gvn sin β b)
def ContractX(P:Program)(f:FuncId)(args:List EV)(sin:Sto)(r:EV)(sout:Sto):Prop :=
 Callable P f∧∀(I:Nat→Prop) (w:World) (β:Nat→Option Nat) (vs:Array Value),(∀b,I b→b<w.heap.size)→StoOk β I w sin→args.length=vs.size →
  (∀(j:Nat) e v,args[j]? = some e→vs[j]? = some v→RE β (dom sin) I w e v)→Calls P f vs w (CallPost sin sout r β I w)
def Contract(P:Program)(f:FuncId)(args:List PV)(r:PV):Prop:=ContractX P f (args.map EV.pv) [] (.pv r) []
def dstOk(n:Nat):Option Nat→Bool
 |none=>true
 |some d=>Nat.blt d n
theorem dstOk_spec{n:Nat}{dst:Option Nat}(h:dstOk n dst=true):∀d,dst=some d→d<n:=by
 intro d hd;subst hd
 exact Nat.le_of_ble_eq_true h
def preKill(op:Op)(dst:Option Nat)(s:St):St :=
 match op,dst with
 |.alloc _,some d=>kill d s
 |.box _ _,some d=>kill d s
 |.buildSlice _ _ _,some d=>kill d s
 |.makeSlice _ _ _,some d=>kill d s
 |_,_=>s
def addRes(s:St)(dst:Option Nat)(res:OpRes):Option (St×List Prop) :=
 match res.new with
 |none=>some (⟨setD s.env dst res.val,s.sto⟩,res.ob)
 |some sc=>match dst with
  |some d=>match s.sto.get d with
   |none=>some (⟨setD s.env (some d) res.val,(d,sc)::s.sto⟩,res.ob)
   |some _=>none
  |none=>none
def stepGen(T:Tab)(n:Nat)(o:Oper)(h:Hint)(s:St):Option (St×List Prop) :=
 bif dstOk n o.dst then
  match opRun T (preKill o.op o.dst s).sto o.dst o.op (evalO (preKill o.op o.dst s).env) h with
  |some res=>addRes (preKill o.op o.dst s) o.dst res
  |none=>none
 else none
section
variable {P:Program} {T:Tab} {Γ:Ctx} {s s':St} {a:Act} {w:World} {β:Nat→Option Nat} {I:Nat→Prop} {o:Oper} {h:Hint} {ob:List Prop}
theorem RelB.preKill(hr:RelB Γ s a w β I)(op:Op)(dst:Option Nat):RelB Γ (preKill op dst s) a w β I:=by
 unfold Sym.preKill
 split<;>first|exact hr.kill _|exact hr
theorem rel_post(hs:∀r,dom Γ.sin r→Γ.n≤r)(hr:RelB Γ s a w β I){dst:Option Nat}(hd:dstOk Γ.n dst=true){res:OpRes}{v:Value}{w':World}(hp:Post β (dom s.sto) I w dst res v w')
  (hst:addRes s dst res=some (s',ob)):Rel Γ s' (a.put dst v) w'∧ob=res.ob:=by
 obtain⟨val,new,ob'⟩:=res
 obtain⟨hb,hp⟩:=hp
 unfold addRes at hst
 cases new with
 |none =>
  injection hst with hst
  injection hst with h1 h2
  subst h1;subst h2
  refine⟨⟨β,_,(hr.grow hb (fun b hI => .inl hI) (fun b hI=>hI)).put (dstOk_spec hd) hp⟩,rfl⟩
 |some sc =>
  obtain⟨d,b,rfl,hfb,hp⟩:=hp
  simp only at hst
  split at hst
  ·rename_i hnone
   injection hst with hst
   injection hst with h1 h2
   subst h1;subst h2
   have hnd:¬dom s.sto d:=by unfold dom;rw[hnone];simp
   have hdn:=dstOk_spec hd d rfl
   have hns:¬dom Γ.sin d:=fun h=>by have:=hs d h;omega
   obtain⟨hrb,hre⟩:=hp hnd
   have hg:RelB Γ s a w' β (fun x=>I x∨(fresh w w' x∧x≠b)):=hr.grow hb (fun b hI => .inl hI) (fun x hx=>hx.elim .inl fun h => .inr h.1)
   have hsite:=hg.site (d:=d) (sc:=sc) hnd hns (β':=upd β d b) (fun r hne=>by simp[upd,hne]) (fun b' hb'=>by
    have:b'=b:=by simpa[upd] using hb'.symm
    subst this
    refine⟨hfb.2,fun hx => ?_,.inl (Nat.le_trans hr.keep.size hfb.1),fun r hdr e => ?_⟩
    ·rcases hx with hx|hx
     ·have:=hr.ib _ hx;have:=hfb.1;omega
     ·exact hx.2 rfl
    ·have:=hr.lb r b' hdr e;have:=hfb.1;omega) hrb
   exact⟨⟨_,_,hsite.put (dst:=some d) (fun d' hd'=>by injection hd' with hd';omega) (hre.mono (fun _ _=>rfl) (fun r hr=>dom_cons.2 (hr.elim .inr .inl)) (fun _ h=>h) (fun _ _ _=>rfl) (fun _ _ _ _=>rfl))⟩,rfl⟩
  ·cases hst
theorem stepGen_sound(hT:TOk P T)(hs:∀r,dom Γ.sin r→Γ.n≤r)(hr:Rel Γ s a w)(hst:stepGen T Γ.n o h s=some (s',ob))(hob:Alls ob){K:Act→World→Prop}{Q:Exit→Act→World→Prop}
  (hk:∀a' w',Rel Γ s' a' w'→K a' w'):o.wp P a w K Q:=by
 obtain⟨β,I,hr⟩:=hr
 unfold stepGen at hst
 cases hd:dstOk Γ.n o.dst with
 |false=>simp[hd] at hst
 |true =>
  simp only[hd,cond_true] at hst
  have hr1:=hr.preKill o.op o.dst
  split at hst
  ·rename_i res hres
   have hobs:ob=res.ob:=by
    unfold addRes at hst
    split at hst
    ·injection hst with hst;injection hst with _ h2;exact h2.symm
    ·split at hst
     ·split at hst
      ·injection hst with hst;injection hst with _ h2;exact h2.symm
      ·cases hst
     ·cases hst
   rw[hobs] at hob
   obtain⟨v,w',hrun,hpost⟩:=opRun_sound hT hr1.pre hres hob
   have:=(rel_post hs hr1 hd hpost hst).1
   unfold Oper.wp
   rw[hrun]
   exact hk _ _ this
  ·cases hst
def Sto.set:Sto→Nat→SC→Sto
 |[],_,_=>[]
 |(r',c)::s,r,sc=>bif Nat.beq r' r then (r',sc)::s else (r',c)::Sto.set s r sc
theorem Sto.get_set:∀(s:Sto) (r x:Nat) (sc:SC),(Sto.set s r sc).get x=if x=r then (s.get x).map (fun _=>sc) else s.get x
 |[],r,x,sc=>by simp[Sto.set,Sto.get]
 |(r',c)::s,r,x,sc=>by
  simp only[Sto.set]
  cases hb:Nat.beq r' r with
  |true =>
   have:r'=r:=Nat.eq_of_beq_eq_true hb
   subst this
   simp only[cond_true,Sto.get]
   by_cases hx:x=r'
   ·subst hx;simp
   ·have h2:Nat.beq r' x=false:=beq_ne (Ne.symm hx)
    simp[hx,h2]
  |false =>
   simp only[cond_false,Sto.get,Sto.get_set s r x sc]
   cases h2:Nat.beq r' x with
   |true =>
    have:r'=x:=Nat.eq_of_beq_eq_true h2
    subst this
    have hne:r'≠r:=by intro e;subst e;simp at hb
    simp[hne]
   |false=>simp
theorem dom_set{s:Sto}{r x:Nat}{sc:SC} : dom (Sto.set s r sc) x↔dom s x:=by
 unfold dom
 rw[Sto.get_set]
 split<;>simp
theorem shape_setRow(w:World)(g k:Nat)(cs old:Array Value)(t:TypeId)(fr:Nat×Nat)(hg:w.heap[g]? = some (.cells old t fr))(hs:cs.size=old.size):(w.setRow g cs).shape? k=w.shape? k:=by
 by_cases hk:k=g
 ·subst hk
  unfold World.shape?
  rw[setRow_heap w k old cs t fr hg,hg]
  simp[hs]
 ·exact shape_heap (setRow_other w g k cs hk)
theorem RelB.write(hr:RelB Γ s a w β I){r b:Nat}{sc sc':SC}(hsc:s.sto.get r=some sc)(hb:β r=some b){arr arr':Array Value}{el:TypeId}(hg:w.heap[b]? = some (.cells arr el (0,0)))
  (hsz:arr'.size=arr.size) (hnew:∀(j:Nat) e,sc'.evs[j]? = some e→∃u,arr'[j]? = some u∧u.oneCell'=true∧RE β (dom s.sto) I w e u) :
  RelB Γ ⟨s.env,Sto.set s.sto r sc'⟩ a (w.setRow b arr') β I:=by
 have hdr:dom s.sto r:=by unfold dom;rw[hsc];rfl
 have hbI:¬I b:=((hr.sto.1 r sc hsc).2 b hb).2
 have hw:∀b' o,I b'→(w.setRow b arr').cell? ⟨b',o,none⟩=w.cell? ⟨b',o,none⟩:=fun b' o hI=>cell_heap (setRow_other w b b' arr' (fun e=>hbI (e ▸ hI))) o
 have hsh:∀k,(w.setRow b arr').shape? k=w.shape? k:=fun k=>shape_setRow w b k arr' arr el (0,0) hg hsz
 have hsize:(w.setRow b arr').heap.size=w.heap.size:=by simp[World.setRow]
 have hL:∀x,dom s.sto x→dom (Sto.set s.sto r sc') x:=fun x hx=>dom_set.2 hx
 refine⟨fun t e he=>(hr.env t e he).mono (fun _ _=>rfl) hL (fun _ h=>h) hw (fun _ b' _ _=>hsh b'),⟨fun x scx hx => ?_,fun x y b' hx hy=>hr.sto.2 x y b' (dom_set.1 hx) (dom_set.1 hy)⟩,
  fun x hx=>hr.par x (dom_set.1 hx),fun x b' hx=>hr.new x b' (dom_set.1 hx),fun b' hI=>by rw[hsize];exact hr.ib b' hI,fun b' hI => ?_,?_,hr.size,hr.defers⟩
 ·rw[Sto.get_set] at hx
  by_cases hxr:x=r
  ·subst hxr
   rw[if_pos rfl,hsc] at hx
   simp only[Option.map_some,Option.some.injEq] at hx
   subst hx
   refine⟨.inr ⟨b,arr',el,hb,setRow_heap w b arr arr' el (0,0) hg,fun j e he => ?_⟩,fun b' hb'=>by rw[hsize];exact(hr.sto.1 x sc hsc).2 b' hb'⟩
   obtain⟨u,g1,g2,g3⟩:=hnew j e he
   exact⟨u,g1,g2,g3.mono (fun _ _=>rfl) hL (fun _ h=>h) hw (fun _ b' _ _=>hsh b')⟩
  ·rw[if_neg hxr] at hx
   obtain⟨g1,g2⟩:=hr.sto.1 x scx hx
   have hdx:dom s.sto x:=by unfold dom;rw[hx];rfl
   refine⟨g1.mono rfl (fun b' hb'=>setRow_other w b b' arr' (fun e=>hxr (hr.sto.2 x r b hdx hdr (e ▸ hb') hb))) (fun _ _=>rfl) hL (fun _ h=>h) hw (fun _ b' _ _=>hsh b'),fun b' hb'=>by rw[hsize];exact g2 b' hb'⟩
 ·rcases hr.ii b' hI with h1|h1
  ·exact .inl h1
  ·exact .inr (h1.imp (fun h1=>⟨h1.1,by rw[hsize];exact h1.2⟩) id)
 ·refine⟨hr.keep.os,hr.keep.tape,hr.keep.output,by rw[hsize];exact hr.keep.size,fun k hk hM => ?_,fun k hk=>(hsh k).trans (hr.keep.shape k hk),hr.keep.drawn⟩
  refine(setRow_other w b k arr' (fun e => ?_)).trans (hr.keep.block k hk hM)
  subst e
  by_cases hsr:dom Γ.sin r
  ·exact hM ⟨r,hsr,by rw[←hr.par r hdr hsr];exact hb⟩
  ·exact hM ((hr.new r k hdr hsr hb).m hk)
def stepStore(T:Tab)(o:Oper)(h:Hint)(s:St):Option (St×List Prop) :=
 match o.op,o.dst with
 |.store t x y,none=>match T.get t,evalO s.env x,evalO s.env y with
  |some d,some (.ptr r off),some e=>match cellsEV e,s.sto.get r with
   |some cs,some sc=>bif Nat.beq cs.length d.size then
     match h with
     |.cells sc'=>some (⟨s.env,Sto.set s.sto r sc'⟩,[off+cs.length≤sc.evs.length,splice sc.evs off cs=sc'.evs])
     |_=>match sc with
      |.lit cells=>bif Nat.ble (off+cs.length) cells.length then some (⟨s.env,Sto.set s.sto r (.lit (splice cells off cs))⟩,[]) else none
      |_=>none
    else none
   |_,_=>none
  |_,_,_=>none
 |_,_=>none
theorem cellsEV_len{e:EV}{cs:List EV}{v:Value}{L:Nat→Prop}(he:RE β L I w e v)(h:cellsEV e=some cs):v.cells.size=cs.length:=by
 cases e with
 |pv p =>
  unfold cellsEV at h
  cases ht:p.isTup with
  |true=>simp[ht] at h
  |false =>
   simp[ht] at h
   subst h
   have hr:RdCells I w p.cells v.cells.toList:=Rd.cells he (fun vs e=>by subst e;simp[PV.isTup] at ht)
   have:=hr.1
   simpa using this.symm
 |ptr r off=>injection h with h;subst h;obtain⟨_,b,_,rfl⟩:=he;rfl
 |row r off len sz =>
  injection h with h;subst h
  obtain⟨_,⟨_,_,rfl⟩|⟨b,c,_,rfl,_⟩⟩:=he<;>rfl
 |cptr c=>injection h with h;subst h;obtain⟨b,o,rfl,_⟩:=he;rfl
 |dead=>cases h
 |rowT _ _ _ _ _=>cases h
 |clo _ _=>cases h
theorem RB.block{L:Nat→Prop}{r b:Nat}{cells:List EV}(h:RB β L I w r cells)(hb:β r=some b) :
  ∃arr el,w.heap[b]? = some (.cells arr el (0,0))∧cells.length≤arr.size∧∀(j:Nat) e,cells[j]? = some e→∃u,arr[j]? = some u∧u.oneCell'=true∧RE β L I w e u:=by
 rcases h with ⟨h1,h2⟩|⟨b',arr,el,hb',h1,h2⟩
 ·rw[h1] at hb;cases hb
 ·rw[hb'] at hb;injection hb with hb;subst hb
  refine⟨arr,el,h1,?_,h2⟩
  rcases Nat.eq_zero_or_pos cells.length with h0|h0
  ·omega
  ·obtain⟨u,h3,_⟩:=h2 (cells.length-1) _ (List.getElem?_eq_getElem (by omega))
   have:=(Array.getElem?_eq_some_iff.1 h3).1
   omega
theorem stepStore_sound(hT:TOk P T)(hr:Rel Γ s a w)(hst:stepStore T o h s=some (s',ob))(hob:Alls ob){K:Act→World→Prop}{Q:Exit→Act→World→Prop}
  (hk:∀a' w',Rel Γ s' a' w'→K a' w'):o.wp P a w K Q:=by
 obtain⟨β,I,hr⟩:=hr
 unfold stepStore at hst
 split at hst
 ·rename_i t x y hop hdst
  split at hst
  ·rename_i d r off e hd hx hy
   split at hst
   ·rename_i cs sc hcs hsc
    cases hl:Nat.beq cs.length d.size with
    |false=>simp[hl] at hst
    |true =>
     simp only[hl,cond_true] at hst
     have hl':cs.length=d.size:=Nat.eq_of_beq_eq_true hl
     obtain⟨hdr,b,hb,hv⟩:=hr.evO x _ hx
     have hey:=hr.evO y _ hy
     obtain⟨arr,el,hg,hla,hcells⟩:=(hr.sto.1 r sc hsc).1.block hb
     have hvl:=cellsEV_len hey hcs
     have main:∀sc':SC,off+cs.length≤sc.evs.length→splice sc.evs off cs=sc'.evs→(∀a' w',Rel Γ ⟨s.env,Sto.set s.sto r sc'⟩ a' w'→K a' w')→o.wp P a w K Q:=by
      intro sc' hle hsp hk'
      have h1:∀u∈(a.eval y).cells.toList,u.oneCell'=true:=by
       intro u hu
       obtain⟨j,hj⟩:=List.mem_iff_getElem?.1 hu
       have hjl:j<cs.length:=by
        have:=(List.getElem?_eq_some_iff.1 hj).1
        simp at this;omega
       obtain⟨u',g1,g2,_⟩:=cellsEV_sound hey hcs j _ (List.getElem?_eq_getElem hjl)
       have:u'=u:=by simpa[g1] using hj
       subst this;exact g2
      have hst':=run_storeCells_at P b off el (a.eval y).cells.toList 0 arr w hg (by simp;omega) h1
      simp only[Nat.add_zero] at hst'
      have hlen:(arr.toList.take off++(a.eval y).cells.toList++arr.toList.drop (off+(a.eval y).cells.toList.length)).toArray.size=arr.size:=by
       simp;omega
      have hrel:=hr.write (sc':=sc') hsc hb hg hlen (fun j e' he'=>by
       rw[←hsp,splice_get _ _ _ hle] at he'
       have hget:(arr.toList.take off++(a.eval y).cells.toList++arr.toList.drop (off+(a.eval y).cells.toList.length)).toArray[j]? = if off≤j∧j<off+cs.length then (a.eval y).cells[j-off]? else arr[j]? := by
        have:=splice_get arr.toList off (a.eval y).cells.toList (by simp;omega) j
        unfold splice at this
        rw[←List.append_assoc] at this
        simp only[List.getElem?_toArray]
        rw[this]
        simp only[Array.length_toList,hvl,Array.getElem?_toList]
       rw[hget]
       by_cases hj:off≤j∧j<off+cs.length
       ·rw[if_pos hj] at he' ⊢
        exact cellsEV_sound hey hcs _ e' he'
       ·rw[if_neg hj] at he' ⊢
        exact hcells j e' he')
      unfold Oper.wp execOp
      simp only[hop,Instr.storeAt]
      rw[hv]
      simp only[Instr.sureAddr,Sem.run_bind,Sem.run_pure,Result.andThen_ok,storeVar,(hT t d hd).run_sizeOf w]
      rw[if_neg (by simp;omega)]
      rw[hst']
      simp only[Result.andThen_ok]
      show K (a.put o.dst undef) _
      rw[hdst]
      exact hk' _ _ ⟨β,I,hrel⟩
     split at hst
     ·rename_i sc'
      injection hst with hst;injection hst with h1 h2
      subst h1;subst h2
      obtain⟨g1,g2⟩:=hob.cons
      exact main sc' g1 g2 hk
     ·split at hst
      ·rename_i cells
       cases hle:Nat.ble (off+cs.length) cells.length with
       |false=>simp[hle] at hst
       |true =>
        simp only[hle,cond_true] at hst
        injection hst with hst;injection hst with h1 h2
        subst h1;subst h2
        exact main _ (Nat.le_of_ble_eq_true hle) rfl hk
      ·cases hst
   ·cases hst
  ·cases hst
 ·cases hst
def Like(s s':St):Prop:=(∀t,s'.env.get t=s.env.get t)∧∀r,s'.sto.get r=s.sto.get r
theorem Rel.like(hl:Like s s')(hr:Rel Γ s a w):Rel Γ s' a w:=by
 obtain⟨β,I,hr⟩:=hr
 have hd:∀r,dom s'.sto r↔dom s.sto r:=fun r=>by unfold dom;rw[hl.2 r]
 have hd1:∀r,dom s.sto r→dom s'.sto r:=fun r h=>(hd r).2 h
 refine⟨β,I,fun t e he=>(hr.env t e (by rw[←hl.1 t];exact he)).mono (fun _ _=>rfl) hd1 (fun _ h=>h) (fun _ _ _=>rfl) (fun _ _ _ _=>rfl),
  ⟨fun r sc hx => ?_,fun x y b hx hy=>hr.sto.2 x y b ((hd x).1 hx) ((hd y).1 hy)⟩,fun x hx=>hr.par x ((hd x).1 hx),fun x b hx=>hr.new x b ((hd x).1 hx),hr.ib,hr.ii,hr.keep,hr.size,hr.defers⟩
 obtain⟨g1,g2⟩:=hr.sto.1 r sc (by rw[←hl.2 r];exact hx)
 exact⟨g1.mono rfl (fun _ _=>rfl) (fun _ _=>rfl) hd1 (fun _ h=>h) (fun _ _ _=>rfl) (fun _ _ _ _=>rfl),g2⟩
end
end Go.Proofs.YtjadajceekjeoaaGreatDoor.Sym
