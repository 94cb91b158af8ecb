/- Bezout and Accepts of the program answer as the reference does. -/
import Derived.Test.YtboilcfohmmpbaaGreatDoorYSymL
namespace Go.Proofs.YtboilcfohmmpbaaGreatDoor.Sym
open Go Go.RowKit
section
variable {P:Program} {T:Tab} {Γ:Ctx} {s s':St} {a:Act} {w:World} {β:Nat→Option Nat} {I:Nat→Prop} {o:Oper} {h:Hint} {ob:List Prop}
theorem run_enter {f : FuncId} (hc : Callable P f) {args : Array Operand} {ats : Array TypeId} (hop : o.op = .call ⟨.value (.func f), args, ats⟩) : (execOp a.eval o).run P w = .ok (.enter f (args.map a.eval)) w := by
  obtain ⟨fn, h1, h2, h3⟩ := hc
  have hb : fn.body ≠ none := by intro e; rw [e] at h2; cases h2
  have h3' : fn.name ≠ "runtime.NumGoroutine" := by simpa using h3
  simp [execOp, hop, resolve, Act.eval, Deferred.ofValue, invoke, callFunc, h1, h3', hb]
def pvArgs(env:Env):List Operand→Option (List PV)
 |[]=>some []
 |x::r=>match evalO env x,pvArgs env r with
  |some (.pv p),some ps=>some (p::ps)
  |_,_=>none
theorem pvArgs_spec(hr:RelB Γ s a w β I):∀(xs:List Operand) (ps:List PV),pvArgs s.env xs=some ps→xs.length=ps.length∧∀(j:Nat) p x,ps[j]? = some p→xs[j]? = some x→Rd I w p (a.eval x)
 |[],ps,h=>by injection h with h;subst h;exact⟨rfl,fun j p x hp=>by simp at hp⟩
 |x::r,ps,h=>by
  unfold pvArgs at h
  split at h
  ·rename_i p qs hx hq
   injection h with h;subst h
   obtain⟨h1,h2⟩:=pvArgs_spec hr r qs hq
   refine⟨by simp[h1],fun j q y hj hy => ?_⟩
   cases j with
   |zero=>simp at hj hy;subst hj hy;exact hr.evO x _ hx
   |succ j=>exact h2 j q y (by simpa using hj) (by simpa using hy)
  ·cases h
def stepCall(P:Program)(n:Nat)(o:Oper)(h:Hint)(s:St):Option (St×List Prop) :=
 match o.op,h with
 |.call c,.pv r=>match c.callee,pvArgs s.env c.args.toList with
  |.value (.func f),some ps=>bif dstOk n o.dst then some (⟨setD s.env o.dst (.pv r),s.sto⟩,[Contract P f ps r]) else none
  |_,_=>none
 |_,_=>none
theorem stoOk_nil(β:Nat→Option Nat)(I:Nat→Prop)(w:World):StoOk β I w [] :=
 ⟨fun r sc h=>(by rw[Sto.get_nil] at h;cases h),fun r r' b h=>absurd h dom_nil⟩
theorem call_post(hr:RelB Γ s a w β I){f:FuncId}{ps:List PV}{r:PV}{vs:Array Value}(hc:Contract P f ps r)(hl:vs.size=ps.length)(hv:∀(j:Nat) p v,ps[j]? = some p→vs[j]? = some v→Rd I w p v) :
  Calls P f vs w fun e w'=>∃v,e = .returned v∧Bel w.heap.size w w'∧Rd (fun b=>I b∨fresh w w' b) w' r v:=by
 refine(hc.2 I w β vs hr.ib (stoOk_nil _ _ _) (by simp[hl]) (fun j e v he hv' => ?_)).mono fun e w' hp => ?_
 ·rw[List.getElem?_map] at he
  cases hj:ps[j]? with
  |none=>simp[hj] at he
  |some p =>
   simp[hj] at he
   subst he
   exact hv j p v hj hv'
 ·obtain⟨v,β',rfl,_,hk,_,hre,_⟩:=hp
  have hnd:∀x,¬dom [] x:=fun x h=>by exact dom_nil h
  refine⟨v,rfl,⟨⟨hk.os,hk.tape,hk.output,hk.size,fun k hk'=>hk.block k hk' (fun ⟨x,hx,_⟩=>hnd x hx)⟩,hk.drawn⟩,?_⟩
  exact Rd.mono (I:=fun b=>I b∨((fresh w w' b∨Gvn [] β b)∧∀x,dom [] x→β' x≠some b)) hre (fun b hb=>hb.imp id (fun h=>h.1.elim id (fun ⟨x,_,hx,_⟩=>absurd hx (hnd x)))) (fun _ _ _=>rfl)
theorem stepCall_sound(hr:Rel Γ s a w)(hst:stepCall P Γ.n o h s=some (s',ob))(hob:Alls ob){K:Act→World→Prop}{Q:Exit→Act→World→Prop}
  (hk:∀a' w',Rel Γ s' a' w'→K a' w'):o.wp P a w K Q:=by
 obtain⟨β,I,hr⟩:=hr
 unfold stepCall at hst
 split at hst
 ·rename_i c r hop
  split at hst
  ·rename_i f ps hcl hps
   cases hd:dstOk Γ.n o.dst with
   |false=>simp[hd] at hst
   |true =>
    simp only[hd,cond_true] at hst
    injection hst with hst;injection hst with h1 h2
    subst h1;subst h2
    have hc:Contract P f ps r:=hob
    obtain⟨cl,args,ats⟩:=c
    have hcl:cl = .value (.func f):=hcl
    subst hcl
    obtain⟨hl,hrd⟩:=pvArgs_spec hr args.toList ps hps
    unfold Oper.wp
    rw[run_enter hc.1 hop]
    rw[Oper.upon_enter]
    refine(call_post hr hc (vs:=args.map a.eval) (by simpa using hl) (fun j p v hp hv => ?_)).mono fun e w' hpost => ?_
    ·simp only[Array.getElem?_map] at hv
     cases hx:args[j]? with
     |none=>simp[hx] at hv
     |some x =>
      simp[hx] at hv
      subst hv
      exact hrd j p x hp (by simpa using hx)
    ·obtain⟨v,rfl,hb,hre⟩:=hpost
     exact hk _ _ ⟨β,_,(hr.grow hb (fun b h => .inl h) (fun b h=>h)).put (dstOk_spec hd) hre⟩
  ·cases hst
 ·cases hst
theorem RelB.setE(h:RelB Γ s a w β I){t:Nat}{e:EV}(he:RE β (dom s.sto) I w e (a.tmps.getD t undef)):RelB Γ ⟨(t,e)::s.env,s.sto⟩ a w β I:=by
 refine⟨fun t' e' he' => ?_,h.sto,h.par,h.new,h.ib,h.ii,h.keep,h.size,h.defers⟩
 have he':Env.get ((t,e)::s.env) t'=some e':=he'
 simp only[Env.get] at he'
 cases hb:Nat.beq t t' with
 |true =>
  have:t=t':=Nat.eq_of_beq_eq_true hb
  subst this
  simp only[hb,cond_true] at he'
  injection he' with he';subst he'
  exact he
 |false =>
  simp only[hb,cond_false] at he'
  exact h.env t' e' he'
theorem RelB.addI(h:RelB Γ s a w β I){b:Nat}(hb:b<w.heap.size)(hw:Γ.Nw b)(hs:∀x,dom s.sto x→β x≠some b):RelB Γ s a w β (fun x=>I x∨x=b):=by
 refine⟨fun t e he=>(h.env t e he).mono (fun _ _=>rfl) (fun _ h=>h) (fun _ h => .inl h) (fun _ _ _=>rfl) (fun _ _ _ _=>rfl),⟨fun r sc hr => ?_,h.sto.2⟩,h.par,h.new,fun x hx => ?_,fun x hx => ?_,h.keep,h.size,h.defers⟩
 ·obtain⟨g1,g2⟩:=h.sto.1 r sc hr
  have hdr:dom s.sto r:=by unfold dom;rw[hr];rfl
  refine⟨g1.mono rfl (fun _ _=>rfl) (fun _ _=>rfl) (fun _ h=>h) (fun _ h => .inl h) (fun _ _ _=>rfl) (fun _ _ _ _=>rfl),fun b' hb'=>⟨(g2 b' hb').1,fun hx => ?_⟩⟩
  rcases hx with hx|hx
  ·exact(g2 b' hb').2 hx
  ·subst hx;exact hs r hdr hb'
 ·rcases hx with hx|hx
  ·exact h.ib x hx
  ·subst hx;exact hb
 ·rcases hx with hx|hx
  ·exact h.ii x hx
  ·subst hx;exact .inr (hw.imp (fun h=>⟨h,hb⟩) id)
theorem row_list{L:Nat→Prop}{r len sz:Nat}{v:Value}{ps:List PV}{xs:List (List PV)}(hv:RE β L I w (.row r 0 len sz) v)(hrb:RB β L I w r (ps.map EV.pv))(h1:len=xs.length)(h2:ps=xs.flatten)
  (h3:∀row∈xs,row.length=sz) {I':Nat→Prop} (hI:∀b,I b→I' b) (hI':∀b,β r=some b→I' b):Rd I' w (.list xs) v:=by
 obtain⟨_,⟨_,rfl,rfl⟩|⟨b,c,hb,rfl,hc,_⟩⟩:=hv
 ·have:xs=[]:=List.eq_nil_of_length_eq_zero h1.symm
  subst this
  exact .nil _ _
 ·obtain⟨arr,el,hg,_,hcs⟩:=pureRB_inv hrb hb
  subst h1;subst h2
  have key:∀(i j:Nat) row x,xs[i]? = some row→row[j]? = some x→∃u,arr[i*sz+j]? = some u∧u.oneCell'=true∧Rd I w x u:=fun i j row x hi hj=>hcs _ x (flat_get2 h3 hi hj)
  refine .list xs b 0 c sz (fun i j=>arr.getD (i*sz+j) undef) hc (hI' b hb) (fun i row hi=>h3 row (List.mem_of_getElem? hi)) (fun i j row x hi hj => ?_) (fun i j row x hi hj => ?_)
  ·obtain⟨u,g1,g2,g3⟩:=key i j row x hi hj
   refine⟨PV.one_of_cell g3 g2,?_⟩
   rw[Nat.zero_add,cell_of_row w b _ arr el (0,0) hg,g1]
   simp[Array.getD_eq_getD_getElem?,g1]
  ·obtain⟨u,g1,g2,g3⟩:=key i j row x hi hj
   simp only[Array.getD_eq_getD_getElem?,g1,Option.getD_some]
   exact g3.mono hI (fun _ _ _=>rfl)
def stepFrz(n t:Nat)(xs:List (List PV))(s:St):Option (St×List Prop) :=
 match s.env.get t with
 |some (.row r 0 len sz)=>match s.sto.get r with
  |some (.pure ps)=>bif Nat.blt r n&&Nat.blt t n then some (⟨(t,.pv (.list xs))::(kill r s).env,(kill r s).sto⟩,[len=xs.length,ps=xs.flatten,∀row∈xs,row.length=sz]) else none
  |_=>none
 |_=>none
theorem stepFrz_sound(hs:∀r,dom Γ.sin r→Γ.n≤r){t:Nat}{xs:List (List PV)}(hr:Rel Γ s a w)(hst:stepFrz Γ.n t xs s=some (s',ob))(hob:Alls ob):Rel Γ s' a w:=by
 obtain⟨β,I,hr⟩:=hr
 unfold stepFrz at hst
 split at hst
 ·rename_i r len sz he
  split at hst
  ·rename_i ps hps
   cases hb:(Nat.blt r Γ.n&&Nat.blt t Γ.n) with
   |false=>simp[hb] at hst
   |true =>
    simp only[hb,cond_true] at hst
    simp only[Bool.and_eq_true] at hb
    have hrn:r<Γ.n:=Nat.le_of_ble_eq_true hb.1
    injection hst with hst;injection hst with h1 h2
    subst h1;subst h2
    obtain⟨g1,hob⟩:=hob.cons
    obtain⟨g2,g3⟩:=hob.cons
    have hv:=hr.env t _ he
    have hrb:=(hr.sto.1 r _ hps).1
    have hdr:dom s.sto r:=by unfold dom;rw[hps];rfl
    have hns:¬dom Γ.sin r:=fun h=>absurd (hs r h) (Nat.not_le_of_lt hrn)
    cases hbr:β r with
    |none=>exact⟨β,I,(hr.kill r).setE (row_list hv hrb g1 g2 g3 (fun _ h=>h) (fun b hb'=>by rw[hbr] at hb';cases hb'))⟩
    |some b =>
     have hk:=(hr.kill r).addI (b:=b) ((hr.sto.1 r _ hps).2 b hbr).1 (hr.new r b hdr (.inl hns) hbr) (fun x hx e=>(dom_kill.1 hx).2 (hr.sto.2 x r b (dom_kill.1 hx).1 hdr e hbr))
     exact⟨β,_,hk.setE (row_list hv hrb g1 g2 g3 (fun _ h => .inl h) (fun b' hb'=>by rw[hbr] at hb';injection hb' with hb';exact .inr hb'.symm))⟩
  ·cases hst
 ·cases hst
def cutOf(s:St)(o:Oper):Option St :=
 match o.op with
 |.call c=>match c.args.toList with
  |x::_=>match evalO s.env x with
   |some (.row r _ len sz)=>match s.sto.get r with
    |some (.pure ps)=>some ⟨s.env,Sto.set s.sto r (.pure (ps.take (len*sz)))⟩
    |_=>none
   |_=>none
  |_=>none
 |_=>none
theorem cutOf_sound{s1:St}(hr:Rel Γ s a w)(h:cutOf s o=some s1):Rel Γ s1 a w:=by
 unfold cutOf at h
 split at h
 ·split at h
  ·split at h
   ·split at h
    ·rename_i hps
     injection h with h;subst h
     exact hr.cut hps
    ·cases h
   ·cases h
  ·cases h
 ·cases h
def stepAppF(T:Tab)(n:Nat)(o:Oper)(h:Hint)(s:St):Option (St×List Prop) :=
 match h with
 |.slc l _ xs=>match stepApp T n o (.app l xs.flatten) s,o.dst with
  |some (s1,ob1),some d=>match stepFrz n d xs s1 with
   |some (s2,ob2)=>some (s2,ob1++ob2)
   |none=>none
  |_,_=>none
 |.row l out=>match cutOf s o with
  |some s1=>stepAppG srcOf2 T n o (.app l out) s1
  |none=>none
 |_=>stepApp T n o h s
theorem stepAppF_sound(hT:TOk P T)(hs:∀r,dom Γ.sin r→Γ.n≤r)(hr:Rel Γ s a w)(hst:stepAppF T Γ.n o h s=some (s',ob))(hob:Alls ob){K:Act→World→Prop}{Q:Exit→Act→World→Prop}
  (hk:∀a' w',Rel Γ s' a' w'→K a' w'):o.wp P a w K Q:=by
 unfold stepAppF at hst
 split at hst
 ·rename_i l u xs
  split at hst
  ·rename_i s1 ob1 d h1 hd
   split at hst
   ·rename_i s2 ob2 h2
    injection hst with hst;injection hst with e1 e2
    subst e1;subst e2
    obtain⟨g1,g2⟩:=hob.app
    exact stepApp_sound hT hs hr h1 g1 (fun a' w' hr'=>hk a' w' (stepFrz_sound hs hr' h2 g2))
   ·cases hst
  ·cases hst
 ·rename_i l out
  split at hst
  ·rename_i s1 h1
   exact stepAppG_sound (fun hr=>src_of2 hr) hT hs (cutOf_sound hr h1) hst hob hk
  ·cases hst
 ·exact stepApp_sound hT hs hr hst hob hk
def assoc:List (Nat×Nat)→Nat→Option Nat
 |[],_=>none
 |(x',y)::r,x=>bif Nat.beq x' x then some y else assoc r x
def assocR:List (Nat×Nat)→Nat→Option Nat
 |[],_=>none
 |(x,y')::r,y=>bif Nat.beq y' y then some x else assocR r y
def eqON:Option Nat→Nat→Bool
 |some x,y=>Nat.beq x y
 |none,_=>false
def closedSC:SC→Bool
 |.pure _=>true
 |.lit cs=>cs.all fun | .pv _=>true|_=>false
 |_=>false
def handOk(sto:Sto)(σ:List (Nat×Nat)):Bool :=
 σ.all fun p=>(Nat.blt p.1 999999&&Nat.blt p.2 999999)&&eqON (assoc σ p.1) p.2&&eqON (assocR σ p.2) p.1&&(match sto.get p.1 with
  |some sc=>closedSC sc
  |none=>false)
def sinX(sto:Sto):List (Nat×Nat)→Sto
 |[]=>[]
 |(x,y)::σ=>match sto.get x with
  |some sc=>(y,sc)::sinX sto σ
  |none=>sinX sto σ
def updSto(σ:List (Nat×Nat))(sout:Sto):Sto→Sto
 |[]=>[]
 |(x,sc)::sto=>(x,bif Nat.blt x 999999 then (match assoc σ x with
  |some y=>match Sto.get sout y with
   |some sc'=>sc'
   |none=>sc
  |none=>sc) else sc)::updSto σ sout sto
def ren1(σ:Nat→Option Nat):EV→Option EV
 |.pv p=>some (.pv p)
 |.ptr x o=>match σ x with
  |some y=>some (.ptr y o)
  |none=>none
 |.row x o l z=>match σ x with
  |some y=>some (.row y o l z)
  |none=>none
 |.cptr c=>some (.cptr c)
 |.rowT x o l z ps=>match σ x with
  |some y=>some (.rowT y o l z ps)
  |none=>none
 |.clo f x=>match σ x with
  |some y=>some (.clo f y)
  |none=>none
 |.dead=>none
 |.mrow .. => none
 |.mptr .. => none
def evalX(nx:Bool)(env:Env)(x:Operand):Option EV :=
 match nx,x with
 |true,.const (.slice none 0 0)=>some (.pv .nilS)
 |_,x=>evalO env x
def nilX:EV→Bool
 |.rowT .. => true
 |.row .. => true
 |_=>false
theorem RelB.evX(hr:RelB Γ s a w β I)(nx:Bool)(x:Operand)(e:EV)(h:evalX nx s.env x=some e):RE β (dom s.sto) I w e (a.eval x):=by
 unfold evalX at h
 split at h
 ·injection h with h;subst h;exact Rd.nilS
 ·exact hr.evO x e h
def argsX(nx:Bool)(env:Env)(σ:Nat→Option Nat):List Operand→Option (List EV)
 |[]=>some []
 |x::r=>match evalX nx env x,argsX nx env σ r with
  |some e,some es=>match ren1 σ e with
   |some e'=>some (e'::es)
   |none=>none
  |_,_=>none
def cloX(σ:Nat→Option Nat)(env:Env):Operand→Option (FuncId×List EV)
 |.func f=>some (f,[])
 |x=>match evalO env x with
  |some (.clo f r)=>match σ r with
   |some y=>some (f,[.ptr y 0])
   |none=>none
  |some (.pv (.fn f))=>some (f,[])
  |_=>none
def killAll:List Nat→St→St
 |[],s=>s
 |r::rs,s=>killAll rs (kill r s)
theorem RelB.killAll:∀(rs:List Nat) {s:St},RelB Γ s a w β I→RelB Γ (killAll rs s) a w β I
 |[],_,h=>h
 |r::rs,_,h=>RelB.killAll rs (h.kill r)
theorem dom_killAll:∀(rs:List Nat) {s:St} {x:Nat},dom (killAll rs s).sto x↔dom s.sto x∧x ∉ rs
 |[],s,x=>by simp[killAll]
 |r::rs,s,x=>by
  show dom (killAll rs (kill r s)).sto x↔_
  rw[dom_killAll rs]
  show dom (killSto r s.sto) x∧_↔_
  rw[dom_kill]
  simp only[List.mem_cons,not_or,and_assoc]
def gvB(x:Nat):Bool:=Nat.ble 200000 x
def givenBy(σ:List (Nat×Nat)):List Nat:=(σ.filter fun p=>gvB p.2).map (·.1)
def stepCallX (P : Program) (n : Nat) (o : Oper) (h : Hint) (s : St) : Option (St × List Prop) :=
  match o.op, h with
  | .call c, .callX σ nw r sout => match c.callee with
    | .value g => match cloX (assoc σ) s.env g, argsX (nilX r) s.env (assoc σ) c.args.toList with
     | some (f, ex), some es => bif dstOk n o.dst && handOk s.sto σ && σ.all (fun p => bif gvB p.2 then Nat.blt p.1 n else (Sto.get sout p.2).isSome) && sout.all (fun p => Nat.blt p.1 999999 && closedSC p.2 && (((assocR σ p.1).isSome && !gvB p.1) || eqON (nw.map (·.1)) p.1)) then
        match nw with
        | none => match ren1 (assocR σ) r with
          | some r' => some (⟨setD (killAll (givenBy σ) s).env o.dst r', updSto σ sout (killAll (givenBy σ) s).sto⟩, [ContractX P f (es ++ ex) (sinX s.sto σ) r sout])
          | none => none
        | some (y, d) => match Sto.get sout y, s.sto.get d, assocR σ y, ren1 (fun z => bif Nat.beq y z then some d else assocR σ z) r with
          | some sc, none, none, some r' => bif Nat.blt d n then some (⟨setD (killAll (givenBy σ) s).env o.dst r', (d, sc) :: updSto σ sout (killAll (givenBy σ) s).sto⟩, [ContractX P f (es ++ ex) (sinX s.sto σ) r sout]) else none
          | _, _, _, _ => none
      else none
     | _, _ => none
    | _ => none
  | _, _ => none
theorem assoc_mem:∀{σ:List (Nat×Nat)} {x y:Nat},assoc σ x=some y→(x,y)∈σ
 |[],x,y,h=>by cases h
 |(x',y')::r,x,y,h=>by
  simp only[assoc] at h
  cases hb:Nat.beq x' x with
  |true =>
   have:x'=x:=Nat.eq_of_beq_eq_true hb
   subst this
   simp only[hb,cond_true] at h
   injection h with h;subst h;simp
  |false =>
   simp only[hb,cond_false] at h
   exact List.mem_cons_of_mem _ (assoc_mem h)
theorem assocR_mem:∀{σ:List (Nat×Nat)} {x y:Nat},assocR σ y=some x→(x,y)∈σ
 |[],x,y,h=>by cases h
 |(x',y')::r,x,y,h=>by
  simp only[assocR] at h
  cases hb:Nat.beq y' y with
  |true =>
   have:y'=y:=Nat.eq_of_beq_eq_true hb
   subst this
   simp only[hb,cond_true] at h
   injection h with h;subst h;simp
  |false =>
   simp only[hb,cond_false] at h
   exact List.mem_cons_of_mem _ (assocR_mem h)
theorem Sto.get0_mem:∀{sto:Sto} {y:Nat} {sc:SC},Sto.get0 sto y=some sc→(y,sc)∈sto
 |[],y,sc,h=>by cases h
 |(y',sc')::r,y,sc,h=>by
  simp only[Sto.get0] at h
  cases hb:Nat.beq y' y with
  |true =>
   have:y'=y:=Nat.eq_of_beq_eq_true hb
   subst this
   simp only[hb,cond_true] at h
   injection h with h;subst h;simp
  |false =>
   simp only[hb,cond_false] at h
   exact List.mem_cons_of_mem _ (Sto.get0_mem h)
theorem Sto.get_mem{sto:Sto}{y:Nat}{sc:SC}(h:Sto.get sto y=some sc):(y,sc)∈sto∨(1000000≤y∧∃xs,(999999,SC.heap xs)∈sto):=by
 rcases num3 y with hy|rfl|⟨j,rfl⟩
 ·rw[Sto.get_lt hy] at h;exact .inl (Sto.get0_mem h)
 ·rw[Sto.get_mid] at h;cases h
 ·right
  refine⟨by unfold hc;omega,?_⟩
  rw[Sto.get_hc] at h
  unfold Sto.hp at h
  split at h
  ·rename_i xs hg;exact⟨xs,Sto.get0_mem hg⟩
  ·simp[heapAt] at h
theorem Sto.get_mem'{sto:Sto}(hsm:∀p∈sto,p.1<999999){y:Nat}{sc:SC}(h:Sto.get sto y=some sc):(y,sc)∈sto:=by
 rcases Sto.get_mem h with h|⟨_,xs,h⟩
 ·exact h
 ·have:=hsm _ h;simp at this
theorem eqON_spec{o:Option Nat}{y:Nat}(h:eqON o y=true):o=some y:=by
 cases o with
 |none=>cases h
 |some x=>rw[Nat.eq_of_beq_eq_true h]
theorem handOk_lt{sto:Sto}{σ:List (Nat×Nat)}(h:handOk sto σ=true){x y:Nat}(hm:(x,y)∈σ):x<999999∧y<999999:=by
 unfold handOk at h
 rw[List.all_eq_true] at h
 have:=h (x,y) hm
 simp only[Bool.and_eq_true] at this
 exact⟨Nat.le_of_ble_eq_true this.1.1.1.1,Nat.le_of_ble_eq_true this.1.1.1.2⟩
theorem handOk_spec{sto:Sto}{σ:List (Nat×Nat)}(h:handOk sto σ=true){x y:Nat}(hm:(x,y)∈σ) :
  assoc σ x=some y∧assocR σ y=some x∧∃sc,sto.get x=some sc∧closedSC sc=true:=by
 unfold handOk at h
 rw[List.all_eq_true] at h
 have:=h (x,y) hm
 simp only[Bool.and_eq_true] at this
 obtain⟨⟨⟨_,h1⟩,h2⟩,h3⟩:=this
 refine⟨eqON_spec h1,eqON_spec h2,?_⟩
 split at h3
 ·rename_i sc hsc;exact⟨sc,hsc,h3⟩
 ·cases h3
theorem sinX_get{sto:Sto}{σ0:List (Nat×Nat)}(hok:handOk sto σ0=true):∀(σ:List (Nat×Nat)),(∀p∈σ,p∈σ0)→∀(y:Nat) sc,(sinX sto σ).get y=some sc→∃x,assocR σ0 y=some x∧assoc σ0 x=some y∧sto.get x=some sc
 |[],_,y,sc,h=>by rw[sinX,Sto.get_nil] at h;cases h
 |(x,y')::σ,hm,y,sc,h=>by
  obtain⟨g1,g2,sc0,g3,_⟩:=handOk_spec hok (hm (x,y') (by simp))
  simp only[sinX,g3] at h
  rw[Sto.get_cons (handOk_lt hok (hm (x,y') (by simp))).2] at h
  cases hb:Nat.beq y' y with
  |true =>
   have:y'=y:=Nat.eq_of_beq_eq_true hb
   subst this
   simp only[hb,cond_true] at h
   injection h with h;subst h
   exact⟨x,g2,g1,g3⟩
  |false =>
   simp only[hb,cond_false] at h
   exact sinX_get hok σ (fun p hp=>hm p (by simp[hp])) y sc h
theorem sinX_dom{sto:Sto}{σ0:List (Nat×Nat)}(hok:handOk sto σ0=true):∀(σ:List (Nat×Nat)),(∀p∈σ,p∈σ0)→∀x y,(x,y)∈σ→dom (sinX sto σ) y
 |[],_,x,y,h=>by cases h
 |(x',y')::σ,hm,x,y,h=>by
  obtain⟨g1,g2,sc0,g3,_⟩:=handOk_spec hok (hm (x',y') (by simp))
  have hy9:=(handOk_lt hok (hm (x',y') (by simp))).2
  simp only[sinX,g3]
  rcases List.mem_cons.1 h with h|h
  ·injection h with h1 h2;subst h2
   exact(dom_cons hy9).2 (.inl rfl)
  ·exact(dom_cons hy9).2 (.inr (sinX_dom hok σ (fun p hp=>hm p (by simp[hp])) x y h))
theorem updSto_get0(σ:List (Nat×Nat))(sout:Sto):∀(sto:Sto) (x:Nat),(updSto σ sout sto).get0 x=(sto.get0 x).map (fun sc=>bif Nat.blt x 999999 then (match assoc σ x with
  |some y=>match Sto.get sout y with
   |some sc'=>sc'
   |none=>sc
  |none=>sc) else sc)
 |[],x=>rfl
 |(x',sc)::sto,x=>by
  simp only[updSto,Sto.get0]
  cases hb:Nat.beq x' x with
  |true =>
   have:x'=x:=Nat.eq_of_beq_eq_true hb
   subst this
   rfl
  |false=>exact updSto_get0 σ sout sto x
theorem updSto_get(σ:List (Nat×Nat))(sout sto:Sto)(x:Nat):(updSto σ sout sto).get x=(sto.get x).map (fun sc=>bif Nat.blt x 999999 then (match assoc σ x with
  |some y=>match Sto.get sout y with
   |some sc'=>sc'
   |none=>sc
  |none=>sc) else sc):=by
 rcases num3 x with h|rfl|⟨j,rfl⟩
 ·rw[Sto.get_lt h,Sto.get_lt h,updSto_get0]
 ·rw[Sto.get_mid,Sto.get_mid];rfl
 ·rw[Sto.get_hc,Sto.get_hc,show Nat.blt (hc j) 999999=false from Bool.eq_false_iff.2 (fun h=>by have:=Nat.le_of_ble_eq_true h;unfold hc at this;omega)]
  unfold Sto.hp
  rw[updSto_get0]
  cases sto.get0 999999 with
  |none=>simp[heapAt]
  |some sc =>
   simp only[Option.map_some,show Nat.blt 999999 999999=false from rfl,cond_false]
   cases heapAt (match some sc with
    |some (SC.heap xs)=>xs
    |_=>[]) j<;>rfl
theorem dom_upd{σ:List (Nat×Nat)}{sout sto:Sto}{x:Nat} : dom (updSto σ sout sto) x↔dom sto x:=by
 unfold dom
 rw[updSto_get]
 simp
theorem closedSC_spec{sc:SC}(h:closedSC sc=true):∀e∈sc.evs,∃p,e = .pv p:=by
 intro e he
 cases sc with
 |pure ps =>
  obtain⟨p,_,rfl⟩:=List.mem_map.1 he
  exact⟨p,rfl⟩
 |lit cs =>
  unfold closedSC at h
  rw[List.all_eq_true] at h
  have:=h e he
  cases e<;>first|exact⟨_,rfl⟩|cases this
 |heap _=>cases h
 |mats _ _=>cases h
theorem RB.closed{β β':Nat→Option Nat}{L L' I I':Nat→Prop}{w:World}{r r':Nat}{sc:SC}(hc:closedSC sc=true)(h:RB β L I w r sc.evs)(hb:β' r'=β r)(hI:∀b,I b→I' b):RB β' L' I' w r' sc.evs:=by
 rcases h with ⟨h1,h2⟩|⟨b,arr,el,h1,h2,h3⟩
 ·exact .inl ⟨hb.trans h1,h2⟩
 ·refine .inr ⟨b,arr,el,hb.trans h1,h2,fun j e he => ?_⟩
  obtain⟨u,g1,g2,g3⟩:=h3 j e he
  obtain⟨p,rfl⟩:=closedSC_spec hc e (List.mem_of_getElem? he)
  exact⟨u,g1,g2,Rd.mono g3 hI (fun _ _ _=>rfl)⟩
def βX(β:Nat→Option Nat)(σ:List (Nat×Nat))(y:Nat):Option Nat:=(assocR σ y).bind β
theorem RelB.given(hr:RelB Γ s a w β I){σ:List (Nat×Nat)}{s1:St}(hd1:∀x,dom s1.sto x→dom s.sto x)(hd2:∀x y,dom s1.sto x→assoc σ x=some y→¬gv y)
  (hgn:∀x y b,assoc σ x=some y→gv y→dom s.sto x→β x=some b→Γ.Nw b) (hok:handOk s.sto σ=true) {b:Nat} (h:Gvn (sinX s.sto σ) (βX β σ) b):Γ.Nw b∧b<w.heap.size∧∀x,dom s1.sto x→β x≠some b:=by
 obtain⟨y,hg,hy,hyb⟩:=h
 obtain⟨sc,hsc⟩:=Option.isSome_iff_exists.1 hy
 obtain⟨x,g1,g2,g3⟩:=sinX_get hok σ (fun p hp=>hp) y sc hsc
 unfold βX at hyb
 rw[g1] at hyb
 have h2:dom s.sto x:=by unfold dom;rw[g3];rfl
 refine⟨hgn x y b g2 hg h2 hyb,hr.lb x b h2 hyb,fun x' hx' e => ?_⟩
 have:=hr.sto.2 x x' b h2 (hd1 x' hx') hyb e
 subst this
 exact hd2 x y hx' g2 hg
theorem RelB.handed (hr : RelB Γ s a w β I) {σ : List (Nat × Nat)} {s1 : St} (hr1 : RelB Γ s1 a w β I) (hd1 : ∀ x, dom s1.sto x → dom s.sto x) (hd2 : ∀ x y, dom s1.sto x → assoc σ x = some y → ¬ gv y)
    (hgn : ∀ x y b, assoc σ x = some y → gv y → dom s.sto x → β x = some b → Γ.Nw b) {sout : Sto} {β' : Nat → Option Nat} {w' : World} {I' : Nat → Prop} (hok : handOk s.sto σ = true) (hall : ∀ p ∈ σ, ¬ gv p.2 → dom sout p.2)
    (hb : ∀ y, dom (sinX s.sto σ) y → ¬ gv y → β' y = βX β σ y) (hk : Keeps (fun b => ∃ y, dom (sinX s.sto σ) y ∧ βX β σ y = some b) w w')
    (hso : ∀ y sc, Sto.get sout y = some sc → closedSC sc = true ∧ RB β' (dom sout) I' w' y sc.evs ∧ ∀ b, β' y = some b → ¬ I' b) (hI1 : ∀ b, I b → I' b) (hI2 : ∀ b, I' b → I b ∨ fresh w w' b ∨ Gvn (sinX s.sto σ) (βX β σ) b) :
    RelB Γ ⟨s1.env, updSto σ sout s1.sto⟩ a w' β I' := by
  have hsite : ∀ b y, dom (sinX s.sto σ) y → βX β σ y = some b → ∃ x, assoc σ x = some y ∧ dom s.sto x ∧ β x = some b := by
    intro b y hy hyb
    obtain ⟨sc, hsc⟩ := Option.isSome_iff_exists.1 hy
    obtain ⟨x, g1, g2, g3⟩ := sinX_get hok σ (fun p hp => hp) y sc hsc
    unfold βX at hyb
    rw [g1] at hyb
    exact ⟨x, g2, by unfold dom; rw [g3]; rfl, hyb⟩
  have hIM : ∀ b, I b → ¬ ∃ y, dom (sinX s.sto σ) y ∧ βX β σ y = some b := by
    intro b hI ⟨y, hy, hyb⟩
    obtain ⟨x, _, hd, hxb⟩ := hsite b y hy hyb
    obtain ⟨sc, hsc⟩ := Option.isSome_iff_exists.1 hd
    exact ((hr.sto.1 x sc hsc).2 b hxb).2 hI
  have hGN : ∀ b, Gvn (sinX s.sto σ) (βX β σ) b → Γ.Nw b ∧ b < w.heap.size ∧ ∀ x, dom s1.sto x → β x ≠ some b := fun b h => hr.given hd1 hd2 hgn hok h
  have hw : ∀ b o, I b → w'.cell? ⟨b, o, none⟩ = w.cell? ⟨b, o, none⟩ := fun b o hI => cell_heap (hk.block b (hr.ib b hI) (hIM b hI)) o
  have hL : ∀ x, dom s1.sto x → dom (updSto σ sout s1.sto) x := fun x hx => dom_upd.2 hx
  have hsh : ∀ r b, dom s1.sto r → β r = some b → w'.shape? b = w.shape? b := fun r b hd hb' => hk.shape b (hr1.lb r b hd hb')
  refine ⟨fun t e he => (hr1.env t e he).mono (fun _ _ => rfl) hL hI1 hw hsh, ⟨fun x sc hx => ?_, fun x y b hx hy => hr1.sto.2 x y b (dom_upd.1 hx) (dom_upd.1 hy)⟩,
    fun x hx => hr1.par x (dom_upd.1 hx), fun x b hx => hr1.new x b (dom_upd.1 hx), fun b hI => ?_, fun b hI => ?_, ?_, hr1.size, hr1.defers⟩
  · have hx : (updSto σ sout s1.sto).get x = some sc := hx
    rw [updSto_get] at hx
    cases hg : s1.sto.get x with
    | none => rw [hg] at hx; cases hx
    | some sc0 =>
      rw [hg] at hx
      simp only [Option.map_some, Option.some.injEq] at hx
      obtain ⟨k1, k2⟩ := hr1.sto.1 x sc0 hg
      have hdx : dom s1.sto x := by unfold dom; rw [hg]; rfl
      have hxs : Nat.blt x 999999 = false → assoc σ x = none := fun hb => by
        cases ha : assoc σ x with
        | none => rfl
        | some y => rw [show Nat.blt x 999999 = true from Nat.ble_eq_true_of_le (handOk_lt hok (assoc_mem ha)).1] at hb; cases hb
      have hx : (match assoc σ x with
        | some y => match Sto.get sout y with
          | some sc' => sc'
          | none => sc0
        | none => sc0) = sc := by
        cases hb : Nat.blt x 999999 with
        | true => rw [hb] at hx; exact hx
        | false => rw [hb] at hx; rw [hxs hb]; exact hx
      cases ha : assoc σ x with
      | some y =>
        have hm := assoc_mem ha
        have hng := hd2 x y hdx ha
        obtain ⟨_, hay, _⟩ := handOk_spec hok hm
        obtain ⟨sc', hsc'⟩ := Option.isSome_iff_exists.1 (hall (x, y) hm hng)
        simp only [ha, hsc'] at hx
        subst hx
        obtain ⟨c1, c2, c3⟩ := hso y sc' hsc'
        have hby : β' y = β x := by
          rw [hb y (sinX_dom hok σ (fun p hp => hp) x y hm) hng]
          unfold βX; rw [hay]; rfl
        exact ⟨c2.closed c1 hby.symm (fun _ h => h), fun b hb' => ⟨Nat.lt_of_lt_of_le (k2 b hb').1 hk.size, c3 b (hby.trans hb')⟩⟩
      | none =>
        simp only [ha] at hx
        subst hx
        refine ⟨k1.mono rfl (fun b hb' => hk.block b (hr1.lb x b hdx hb') (fun hM => ?_)) (fun _ _ => rfl) hL hI1 hw hsh, fun b hb' => ⟨Nat.lt_of_lt_of_le (k2 b hb').1 hk.size, fun hI => ?_⟩⟩
        · obtain ⟨y2, hy2, hyb2⟩ := hM
          obtain ⟨x2, h1, h2, h3⟩ := hsite b y2 hy2 hyb2
          have := hr.sto.2 x x2 b (hd1 x hdx) h2 hb' h3
          subst this
          rw [ha] at h1; cases h1
        · rcases hI2 b hI with h | h | h
          · exact (k2 b hb').2 h
          · have := (k2 b hb').1; have := h.1; omega
          · exact (hGN b h).2.2 x hdx hb'
  · rcases hI2 b hI with h | h | h
    · exact Nat.lt_of_lt_of_le (hr.ib b h) hk.size
    · exact h.2
    · exact Nat.lt_of_lt_of_le (hGN b h).2.1 hk.size
  · rcases hI2 b hI with h | h | h
    · rcases hr.ii b h with h3 | h3
      · exact .inl h3
      · exact .inr (h3.imp (fun h3 => ⟨h3.1, Nat.lt_of_lt_of_le h3.2 hk.size⟩) id)
    · exact .inr (.inl ⟨Nat.le_trans hr.keep.size h.1, h.2⟩)
    · obtain ⟨h1, h2, _⟩ := hGN b h
      exact .inr (h1.imp (fun h1 => ⟨h1, Nat.lt_of_lt_of_le h2 hk.size⟩) id)
  · refine hr.keep.trans hk (fun b hlt hM => ?_)
    obtain ⟨y, hy, hyb⟩ := hM
    obtain ⟨x, _, hd, hxb⟩ := hsite b y hy hyb
    by_cases hsn : dom Γ.sin x ∧ ¬ gv x
    · exact ⟨x, hsn.1, by rw [← hr.par x hd hsn.1 hsn.2]; exact hxb⟩
    · exact (hr.new x b hd (by by_cases h : dom Γ.sin x; · exact .inr (Classical.byContradiction fun h2 => hsn ⟨h, h2⟩)
                               · exact .inl h) hxb).m hlt
theorem argsX_spec(nx:Bool)(hr:RelB Γ s a w β I){σ:List (Nat×Nat)}(hok:handOk s.sto σ=true):∀(xs:List Operand) (es:List EV),argsX nx s.env (assoc σ) xs=some es→xs.length=es.length ∧
  ∀(j:Nat) e x,es[j]? = some e→xs[j]? = some x→RE (βX β σ) (dom (sinX s.sto σ)) I w e (a.eval x)
 |[],es,h=>by injection h with h;subst h;exact⟨rfl,fun j p x hp=>by simp at hp⟩
 |x::r,es,h=>by
  unfold argsX at h
  split at h
  ·rename_i e es' he hes
   split at h
   ·rename_i e' he'
    injection h with h;subst h
    obtain⟨h1,h2⟩:=argsX_spec nx hr hok r es' hes
    refine⟨by simp[h1],fun j q y hj hy => ?_⟩
    cases j with
    |zero =>
     simp at hj hy;subst hj hy
     have hx:=hr.evX nx x _ he
     cases e with
     |pv p=>injection he' with he';subst he';exact hx
     |cptr c=>injection he' with he';subst he';exact hx
     |dead=>cases he'
     |mrow _ _ _=>cases he'
     |mptr _ _=>cases he'
     |ptr z off =>
      simp only[ren1] at he'
      split at he'
      ·rename_i y hy
       injection he' with he';subst he'
       have hm:=assoc_mem hy
       obtain⟨_,hR,_⟩:=handOk_spec hok hm
       obtain⟨_,b,hb,hv⟩:=hx
       exact⟨sinX_dom hok σ (fun p hp=>hp) z y hm,b,by unfold βX;rw[hR];exact hb,hv⟩
      ·cases he'
     |clo g z =>
      simp only[ren1] at he'
      split at he'
      ·rename_i y hy
       injection he' with he';subst he'
       have hm:=assoc_mem hy
       obtain⟨_,hR,_⟩:=handOk_spec hok hm
       obtain⟨_,b,hb,hv⟩:=hx
       exact⟨sinX_dom hok σ (fun p hp=>hp) z y hm,b,by unfold βX;rw[hR];exact hb,hv⟩
      ·cases he'
     |row z off len sz =>
      simp only[ren1] at he'
      split at he'
      ·rename_i y hy
       injection he' with he';subst he'
       have hm:=assoc_mem hy
       obtain⟨_,hR,_⟩:=handOk_spec hok hm
       have hbe:βX β σ y=β z:=by unfold βX;rw[hR];rfl
       obtain⟨_,hx⟩:=hx
       exact⟨sinX_dom hok σ (fun p hp=>hp) z y hm,by rw[hbe];exact hx⟩
      ·cases he'
     |rowT z off len sz ps =>
      simp only[ren1] at he'
      split at he'
      ·rename_i y hy
       injection he' with he';subst he'
       have hm:=assoc_mem hy
       obtain⟨_,hR,_⟩:=handOk_spec hok hm
       have hbe:βX β σ y=β z:=by unfold βX;rw[hR];rfl
       obtain⟨us,g1,g2,⟨u,g3,_,g4⟩,g5⟩:=hx
       exact⟨us,g1,g2,⟨u,g3,sinX_dom hok σ (fun p hp=>hp) z y hm,by rw[hbe];exact g4⟩,g5⟩
      ·cases he'
    |succ j=>exact h2 j q y (by simpa using hj) (by simpa using hy)
   ·cases h
  ·cases h
theorem cloX_spec(hr:RelB Γ s a w β I){σ:List (Nat×Nat)}(hok:handOk s.sto σ=true){g:Operand}{f:FuncId}{ex:List EV}(h:cloX (assoc σ) s.env g=some (f,ex)) :
  ∃cap:Array Value,a.eval g = .func (.func f) #[] cap∧ex.length=cap.size∧∀(j:Nat) e v,ex[j]? = some e→cap[j]? = some v→RE (βX β σ) (dom (sinX s.sto σ)) I w e v:=by
 unfold cloX at h
 split at h
 ·rename_i f'
  injection h with h;injection h with h1 h2
  subst h1;subst h2
  exact⟨#[],by simp[Act.eval],rfl,fun j e v he=>by simp at he⟩
 ·split at h
  ·rename_i f' r he
   split at h
   ·rename_i y hy
    injection h with h;injection h with h1 h2
    subst h1;subst h2
    obtain⟨_,b,hb,hv⟩:=hr.evO g _ he
    have hm:=assoc_mem hy
    obtain⟨_,hR,_⟩:=handOk_spec hok hm
    refine⟨#[.pointer (some ⟨b,0,none⟩)],hv,rfl,fun j e v he hv => ?_⟩
    cases j with
    |zero =>
     simp at he hv;subst he;subst hv
     exact⟨sinX_dom hok σ (fun p hp=>hp) r y hm,b,by unfold βX;rw[hR];exact hb,rfl⟩
    |succ j=>simp at he
   ·cases h
  ·rename_i f' he
   injection h with h;injection h with h1 h2
   subst h1;subst h2
   have hv:Rd I w (.fn f') (a.eval g):=hr.evO g _ he
   refine⟨#[],?_,rfl,fun j e v he=>by simp at he⟩
   generalize a.eval g=v at hv
   cases hv;rfl
  ·cases h
theorem run_enterX {f : FuncId} (hc : Callable P f) {g : Operand} {cap : Array Value} (hv : a.eval g = .func (.func f) #[] cap) {args : Array Operand} {ats : Array TypeId} (hop : o.op = .call ⟨.value g, args, ats⟩) :
    (execOp a.eval o).run P w = .ok (.enter f (args.map a.eval ++ cap)) w := by
  obtain ⟨fn, h1, h2, h3⟩ := hc
  have hb : fn.body ≠ none := by intro e; rw [e] at h2; cases h2
  have h3' : fn.name ≠ "runtime.NumGoroutine" := by simpa using h3
  simp [execOp, hop, resolve, hv, Deferred.ofValue, invoke, callFunc, h1, h3', hb]
theorem stepCallX_sound (hs : ∀ r, dom Γ.sin r → Γ.n ≤ r) (hr : Rel Γ s a w) (hst : stepCallX P Γ.n o h s = some (s', ob)) (hob : Alls ob) {K : Act → World → Prop} {Q : Exit → Act → World → Prop}
    (hk : ∀ a' w', Rel Γ s' a' w' → K a' w') : o.wp P a w K Q := by
  obtain ⟨β, I, hr⟩ := hr
  unfold stepCallX at hst
  split at hst
  · rename_i c σ nw r sout hop
    split at hst
    case h_2 => cases hst
    rename_i g hcl
    split at hst
    · rename_i f ex es hg hes
      cases hd : (dstOk Γ.n o.dst && handOk s.sto σ && σ.all (fun p => bif gvB p.2 then Nat.blt p.1 Γ.n else (Sto.get sout p.2).isSome) && sout.all (fun p => Nat.blt p.1 999999 && closedSC p.2 && (((assocR σ p.1).isSome && !gvB p.1) || eqON (nw.map (·.1)) p.1))) with
      | false => simp [hd] at hst
      | true =>
        simp only [hd, cond_true] at hst
        simp only [Bool.and_eq_true] at hd
        obtain ⟨⟨⟨d1, d2⟩, d3⟩, d4⟩ := hd
        rw [List.all_eq_true] at d3 d4
        obtain ⟨cl, args, ats⟩ := c
        have hcl : cl = .value g := hcl
        subst hcl
        obtain ⟨cap, hcv, hcl2, hcr⟩ := cloX_spec hr d2 hg
        obtain ⟨hl, hrd⟩ := argsX_spec _ hr d2 args.toList es hes
        have hsoin : StoOk (βX β σ) I w (sinX s.sto σ) := by
          refine ⟨fun y sc hy => ?_, fun y y' b hy hy' h1 h2 => ?_⟩
          · obtain ⟨x, g1, g2, g3⟩ := sinX_get d2 σ (fun p hp => hp) y sc hy
            obtain ⟨_, _, sc1, g4, g5⟩ := handOk_spec d2 (assocR_mem g1)
            rw [g3] at g4; injection g4 with g4; subst g4
            have hbe : βX β σ y = β x := by unfold βX; rw [g1]; rfl
            obtain ⟨k1, k2⟩ := hr.sto.1 x sc g3
            exact ⟨k1.closed g5 hbe (fun _ h => h), fun b hb => k2 b (hbe.symm.trans hb)⟩
          · obtain ⟨sc, hsc⟩ := Option.isSome_iff_exists.1 hy
            obtain ⟨sc', hsc'⟩ := Option.isSome_iff_exists.1 hy'
            obtain ⟨x, g1, g2, g3⟩ := sinX_get d2 σ (fun p hp => hp) y sc hsc
            obtain ⟨x', g1', g2', g3'⟩ := sinX_get d2 σ (fun p hp => hp) y' sc' hsc'
            have e1 : β x = some b := by unfold βX at h1; rw [g1] at h1; exact h1
            have e2 : β x' = some b := by unfold βX at h2; rw [g1'] at h2; exact h2
            have := hr.sto.2 x x' b (by unfold dom; rw [g3]; rfl) (by unfold dom; rw [g3']; rfl) e1 e2
            subst this
            rw [g2] at g2'; injection g2' with g2'
        have fin : ∀ (hc : ContractX P f (es ++ ex) (sinX s.sto σ) r sout) {s2 : St}, (∀ v w' β', Keeps (fun b => ∃ y, dom (sinX s.sto σ) y ∧ βX β σ y = some b) w w' → (∀ y, dom (sinX s.sto σ) y → ¬ gv y → β' y = βX β σ y) →
              StoOk β' (fun b => I b ∨ ((fresh w w' b ∨ Gvn (sinX s.sto σ) (βX β σ) b) ∧ ∀ x, dom sout x → β' x ≠ some b)) w' sout → RE β' (dom sout) (fun b => I b ∨ ((fresh w w' b ∨ Gvn (sinX s.sto σ) (βX β σ) b) ∧ ∀ x, dom sout x → β' x ≠ some b)) w' r v →
              (∀ x b, dom sout x → ¬ dom (sinX s.sto σ) x → β' x = some b → fresh w w' b ∨ Gvn (sinX s.sto σ) (βX β σ) b) → Rel Γ s2 (a.put o.dst v) w') → (∀ a' w', Rel Γ s2 a' w' → K a' w') → o.wp P a w K Q := by
          intro hc s2 hfin hk
          unfold Oper.wp
          rw [run_enterX hc.1 hcv hop]
          rw [Oper.upon_enter]
          have hl' : args.size = es.length := by simpa using hl
          refine (hc.2 I w (βX β σ) (args.map a.eval ++ cap) hr.ib hsoin (by rw [List.length_append, Array.size_append, Array.size_map, hl', hcl2]) (fun j e v he hv => ?_)).mono fun e w' hp => ?_
          · by_cases hj : j < es.length
            · rw [List.getElem?_append_left hj] at he
              rw [Array.getElem?_append_left (by rw [Array.size_map]; omega), Array.getElem?_map] at hv
              cases hx : args[j]? with
              | none => simp [hx] at hv
              | some x =>
                simp [hx] at hv
                subst hv
                exact hrd j e x he (by simpa using hx)
            · rw [List.getElem?_append_right (by omega)] at he
              rw [Array.getElem?_append_right (by rw [Array.size_map]; omega), Array.size_map, hl'] at hv
              exact hcr _ e v he hv
          · obtain ⟨v, β', rfl, p1, p2, p3, p4, p5⟩ := hp
            exact hk _ _ (hfin v w' β' p2 p1 p3 p4 p5)
        have hsm : ∀ p ∈ sout, p.1 < 999999 := fun p hp => by
          have := d4 p hp
          simp only [Bool.and_eq_true] at this
          exact Nat.le_of_ble_eq_true this.1.1
        have hcls : ∀ y sc, Sto.get sout y = some sc → closedSC sc = true := by
          intro y sc hy
          obtain ⟨p, hp, h1⟩ : ∃ p ∈ sout, p.2 = sc := by
            exact ⟨(y, sc), Sto.get_mem' hsm hy, rfl⟩
          have := d4 p hp
          simp only [Bool.and_eq_true] at this
          rw [← h1]; exact this.1.2
        have gvb : ∀ y, gvB y = true ↔ gv y := fun y => ⟨Nat.le_of_ble_eq_true, Nat.ble_eq_true_of_le⟩
        have hdomS : ∀ p ∈ σ, ¬ gv p.2 → dom sout p.2 := fun p hp hg => by
          have := d3 p hp
          rw [Bool.eq_false_iff.2 (fun h => hg ((gvb _).1 h)), cond_false] at this
          exact this
        have hr1 := hr.killAll (givenBy σ)
        have hd1 : ∀ x, dom (killAll (givenBy σ) s).sto x → dom s.sto x := fun x hx => ((dom_killAll _).1 hx).1
        have hd2 : ∀ x y, dom (killAll (givenBy σ) s).sto x → assoc σ x = some y → ¬ gv y := fun x y hx ha hg => ((dom_killAll _).1 hx).2 (List.mem_map.2 ⟨(x, y), List.mem_filter.2 ⟨assoc_mem ha, (gvb y).2 hg⟩, rfl⟩)
        have hgn : ∀ x y b, assoc σ x = some y → gv y → dom s.sto x → β x = some b → Γ.Nw b := fun x y b ha hg hdx hb => by
          have := d3 _ (assoc_mem ha)
          rw [(gvb y).2 hg, cond_true] at this
          exact hr.new x b hdx (.inl (fun h => absurd (hs x h) (Nat.not_le_of_lt (Nat.le_of_ble_eq_true this)))) hb
        have hres : ∀ x y, assocR σ y = some x → dom sout y → ¬ eqON (nw.map (·.1)) y = true → dom (killAll (givenBy σ) s).sto x ∧ ¬ gv y := by
          intro x y hx hy hne
          obtain ⟨sc, hsc⟩ := Option.isSome_iff_exists.1 hy
          have := d4 _ (Sto.get_mem' hsm hsc)
          simp only [Bool.and_eq_true, Bool.or_eq_true, Bool.not_eq_true'] at this
          have hng : ¬ gv y := fun hg => by
            rcases this.2 with h | h
            · rw [(gvb y).2 hg] at h; exact absurd h.2 (by simp)
            · exact hne h
          obtain ⟨e1, _, sc2, e2, _⟩ := handOk_spec d2 (assocR_mem hx)
          refine ⟨(dom_killAll _).2 ⟨by unfold dom; rw [e2]; rfl, fun hm => ?_⟩, hng⟩
          obtain ⟨⟨x', y'⟩, hm1, hm2⟩ := List.mem_map.1 hm
          obtain ⟨hm3, hm4⟩ := List.mem_filter.1 hm1
          have hm2 : x' = x := hm2
          subst hm2
          obtain ⟨e3, _⟩ := handOk_spec d2 hm3
          rw [e1] at e3; injection e3 with e3; subst e3
          exact hng ((gvb _).1 hm4)
        split at hst
        · split at hst
          · rename_i r' hr'
            injection hst with hst; injection hst with h1 h2
            subst h1; subst h2
            refine fin hob (fun v w' β' p2 p1 p3 p4 p5 => ?_) hk
            have hh := hr.handed hr1 hd1 hd2 hgn (sout := sout) d2 hdomS p1 p2 (fun y sc hy => ⟨hcls y sc hy, (p3.1 y sc hy).1, fun b hb => ((p3.1 y sc hy).2 b hb).2⟩) (fun b hb => .inl hb) (fun b hb => hb.imp id (fun h => h.1))
            refine ⟨β, _, hh.put (dstOk_spec d1) ?_⟩
            cases r with
            | pv p => injection hr' with hr'; subst hr'; exact p4
            | cptr c => injection hr' with hr'; subst hr'; exact p4
            | dead => cases hr'
            | mrow _ _ _ => cases hr'
            | mptr _ _ => cases hr'
            | ptr y off =>
              simp only [ren1] at hr'
              split at hr'
              · rename_i x hx
                injection hr' with hr'; subst hr'
                have hm := assocR_mem hx
                obtain ⟨hdy, b, hb, hv⟩ := p4
                obtain ⟨k1, k2⟩ := hres x y hx hdy (by simp [eqON])
                exact ⟨dom_upd.2 k1, b, by rw [p1 y (sinX_dom d2 σ (fun p hp => hp) x y hm) k2] at hb; unfold βX at hb; rw [hx] at hb; exact hb, hv⟩
              · cases hr'
            | clo g y =>
              simp only [ren1] at hr'
              split at hr'
              · rename_i x hx
                injection hr' with hr'; subst hr'
                have hm := assocR_mem hx
                obtain ⟨hdy, b, hb, hv⟩ := p4
                obtain ⟨k1, k2⟩ := hres x y hx hdy (by simp [eqON])
                exact ⟨dom_upd.2 k1, b, by rw [p1 y (sinX_dom d2 σ (fun p hp => hp) x y hm) k2] at hb; unfold βX at hb; rw [hx] at hb; exact hb, hv⟩
              · cases hr'
            | row y off len sz =>
              simp only [ren1] at hr'
              split at hr'
              · rename_i x hx
                injection hr' with hr'; subst hr'
                have hm := assocR_mem hx
                obtain ⟨hdy, p4⟩ := p4
                obtain ⟨k1, k2⟩ := hres x y hx hdy (by simp [eqON])
                have hbe : β' y = β x := by rw [p1 y (sinX_dom d2 σ (fun p hp => hp) x y hm) k2]; unfold βX; rw [hx]; rfl
                exact ⟨dom_upd.2 k1, by rw [← hbe]; exact p4⟩
              · cases hr'
            | rowT y off len sz ps =>
              simp only [ren1] at hr'
              split at hr'
              · rename_i x hx
                injection hr' with hr'; subst hr'
                have hm := assocR_mem hx
                obtain ⟨us, q1, q2, ⟨u, q3, hdy, q4⟩, q5⟩ := p4
                obtain ⟨k1, k2⟩ := hres x y hx hdy (by simp [eqON])
                have hbe : β' y = β x := by rw [p1 y (sinX_dom d2 σ (fun p hp => hp) x y hm) k2]; unfold βX; rw [hx]; rfl
                exact ⟨us, q1, q2, ⟨u, q3, dom_upd.2 k1, by rw [← hbe]; exact q4⟩, q5⟩
              · cases hr'
          · cases hst
        · rename_i y d
          split at hst
          · rename_i sc r' hsc hnone hnR hr'
            cases hdn : Nat.blt d Γ.n with
            | false => simp [hdn] at hst
            | true =>
              simp only [hdn, cond_true] at hst
              have hdn' : d < Γ.n := Nat.le_of_ble_eq_true hdn
              injection hst with hst; injection hst with h1 h2
              subst h1; subst h2
              refine fin hob (fun v w' β' p2 p1 p3 p4 p5 => ?_) hk
              have hh := hr.handed hr1 hd1 hd2 hgn (sout := sout) d2 hdomS p1 p2 (fun y sc hy => ⟨hcls y sc hy, (p3.1 y sc hy).1, fun b hb => ((p3.1 y sc hy).2 b hb).2⟩) (fun b hb => .inl hb) (fun b hb => hb.imp id (fun h => h.1))
              have hndd : ¬ dom (updSto σ sout (killAll (givenBy σ) s).sto) d := fun h => by
                have := hd1 _ (dom_upd.1 h)
                unfold dom at this; rw [hnone] at this; cases this
              have hyn : ¬ dom (sinX s.sto σ) y := fun h => by
                obtain ⟨sc2, hsc2⟩ := Option.isSome_iff_exists.1 h
                obtain ⟨x, g1, _⟩ := sinX_get d2 σ (fun p hp => hp) y sc2 hsc2
                rw [hnR] at g1; cases g1
              have hyd : dom sout y := by unfold dom; rw [hsc]; rfl
              have hd9 : d < 999999 := Nat.lt_of_lt_of_le hdn' Γ.small
              have hsite := hh.site (d := d) (sc := sc) hd9 hndd (fun h => absurd (hs d h) (Nat.not_le_of_lt hdn')) (β' := fun z => if z = d then β' y else β z) (fun r hne => by simp [hne]) (fun b hb => by
                have hb : β' y = some b := by simpa using hb
                rcases p5 y b hyd hyn hb with hf | hf
                · refine ⟨hf.2, ((p3.1 y sc hsc).2 b hb).2, .inl (Nat.le_trans hr.keep.size hf.1), fun x hx hxb => ?_⟩
                  have := hr.lb x b (hd1 _ (dom_upd.1 hx)) hxb
                  have := hf.1; omega
                · obtain ⟨q1, q2, q3⟩ := hr.given hd1 hd2 hgn d2 hf
                  exact ⟨Nat.lt_of_lt_of_le q2 p2.size, ((p3.1 y sc hsc).2 b hb).2, q1, fun x hx hxb => q3 x (dom_upd.1 hx) hxb⟩) ((p3.1 y sc hsc).1.closed (hcls y sc hsc) (by simp) (fun _ h => h))
              refine ⟨_, _, hsite.put (dstOk_spec d1) ?_⟩
              have key : ∀ z x, (bif Nat.beq y z then some d else assocR σ z) = some x → dom sout z → dom ((d, sc) :: updSto σ sout (killAll (givenBy σ) s).sto) x ∧ (fun z => if z = d then β' y else β z) x = β' z := by
                intro z x hzx hdz
                cases hb : Nat.beq y z with
                | true =>
                  have : y = z := Nat.eq_of_beq_eq_true hb
                  subst this
                  simp only [hb, cond_true] at hzx
                  injection hzx with hzx; subst hzx
                  exact ⟨(dom_cons hd9).2 (.inl rfl), by simp⟩
                | false =>
                  simp only [hb, cond_false] at hzx
                  have hm := assocR_mem hzx
                  obtain ⟨_, _, sc2, hsc2, _⟩ := handOk_spec d2 hm
                  obtain ⟨k1, k2⟩ := hres x z hzx hdz (by intro h; have : y = z := Nat.eq_of_beq_eq_true h; subst this; simp at hb)
                  have hne : x ≠ d := fun e => by subst e; rw [hnone] at hsc2; cases hsc2
                  refine ⟨(dom_cons hd9).2 (.inr (dom_upd.2 k1)), ?_⟩
                  simp only [if_neg hne]
                  rw [p1 z (sinX_dom d2 σ (fun p hp => hp) x z hm) k2]; unfold βX; rw [hzx]; rfl
              cases r with
              | pv p => injection hr' with hr'; subst hr'; exact p4
              | cptr c => injection hr' with hr'; subst hr'; exact p4
              | dead => cases hr'
              | mrow _ _ _ => cases hr'
              | mptr _ _ => cases hr'
              | ptr z off =>
                simp only [ren1] at hr'
                split at hr'
                · rename_i x hx
                  injection hr' with hr'; subst hr'
                  obtain ⟨hdz, p4⟩ := p4
                  obtain ⟨k1, k2⟩ := key z x hx hdz
                  exact ⟨k1, by rw [k2]; exact p4⟩
                · cases hr'
              | clo g z =>
                simp only [ren1] at hr'
                split at hr'
                · rename_i x hx
                  injection hr' with hr'; subst hr'
                  obtain ⟨hdz, p4⟩ := p4
                  obtain ⟨k1, k2⟩ := key z x hx hdz
                  exact ⟨k1, by rw [k2]; exact p4⟩
                · cases hr'
              | row z off len sz =>
                simp only [ren1] at hr'
                split at hr'
                · rename_i x hx
                  injection hr' with hr'; subst hr'
                  obtain ⟨hdz, p4⟩ := p4
                  obtain ⟨k1, k2⟩ := key z x hx hdz
                  exact ⟨k1, by rw [k2]; exact p4⟩
                · cases hr'
              | rowT z off len sz ps =>
                simp only [ren1] at hr'
                split at hr'
                · rename_i x hx
                  injection hr' with hr'; subst hr'
                  obtain ⟨us, q1, q2, ⟨u, q3, hdz, q4⟩, q5⟩ := p4
                  obtain ⟨k1, k2⟩ := key z x hx hdz
                  exact ⟨us, q1, q2, ⟨u, q3, k1, by rw [k2]; exact q4⟩, q5⟩
                · cases hr'
          · cases hst
    · cases hst
  · cases hst
end
end Go.Proofs.YtboilcfohmmpbaaGreatDoor.Sym
