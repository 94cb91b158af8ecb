/- Lemmas for the statements of this seat. -/
import Derived.Test.YtllmkadmohkbfaaGreatDoorWSymLz
namespace Go.Proofs.YtllmkadmohkbfaaGreatDoor.Sym
open Go Go.RowKit
section
variable {P:Program} {T:qU} {Γ:Ctx} {s s':St} {a:Act} {w:World} {β:Nat→Option Nat} {I:Nat→Prop} {o:Oper} {h:Hint} {ob:List Prop}
theorem O7 {f : FuncId} (hc : tL P f) {args : Array Operand} {Qe : Array TypeId} (Bc : o.op = .call ⟨.value (.func f), args, Qe⟩) : (execOp a.eval o).run P w = .ok (.enter f (args.map a.eval)) w := by
  obtain ⟨fn, h1, h2, h3⟩ := hc
  have hb : fn.body ≠ none := by intro e; rw [e] at h2; cases h2
  have Qa : fn.name ≠ "runtime.NumGoroutine" := by simpa using h3
  simp [execOp, Bc, resolve, Act.eval, Deferred.ofValue, invoke, callFunc, h1, Qa, hb]
def uo(env:Env):List Operand→Option (List PV)
 |[]=>some []
 |x::r=>match iq env x,uo env r with
  |some (.pv p),some ps=>some (p::ps)
  |_,_=>none
theorem EK(hr:iA Γ s a w β I):∀(xs:List Operand) (ps:List PV),uo s.env xs=some ps→xs.length=ps.length∧∀(j:Nat) p x,ps[j]? = some p→xs[j]? = some x→Rd I w p (a.eval x)
 |[],ps,h=>by injection h with h;subst h;exact⟨rfl,fun j p x hp=>by simp at hp⟩
 |x::r,ps,h=>by
  unfold uo at h
  split at h
  ·rename_i p qs hx hq
   injection h with h;subst h
   obtain⟨h1,h2⟩:=EK hr r qs hq
   refine⟨by simp[h1],fun j q y hj hy => ?_⟩
   cases j with
   |zero=>simp at hj hy;subst hj hy;exact hr.Ih x _ hx
   |succ j=>exact h2 j q y (by simpa using hj) (by simpa using hy)
  ·cases h
def zV(P:Program)(n:Nat)(o:Oper)(h:Hint)(s:St):Option (St×List Prop) :=
 match o.op,h with
 |.call c,.pv r=>match c.callee,uo s.env c.args.toList with
  |.value (.func f),some ps=>bif ry n o.dst then some (⟨u6 s.env o.dst (.pv r),s.bp⟩,[kV P f ps r]) else none
  |_,_=>none
 |_,_=>none
theorem sW(β:Nat→Option Nat)(I:Nat→Prop)(w:World):CH β I w [] :=
 ⟨fun r sc h=>(by rw[cq.get_nil] at h;cases h),fun r r' b h=>absurd h tE⟩
theorem O8(hr:iA Γ s a w β I){f:FuncId}{ps:List PV}{r:PV}{vs:Array Value}(hc:kV P f ps r)(hl:vs.size=ps.length)(hv:∀(j:Nat) p v,ps[j]? = some p→vs[j]? = some v→Rd I w p v) :
  Calls P f vs w fun e w'=>∃v,e = .returned v∧Ib w.heap.size w w'∧Rd (fun b=>I b∨fresh w w' b) w' r v:=by
 refine(hc.2 I w β vs hr.ib (sW _ _ _) (by simp[hl]) (fun j e v he Ku => ?_)).mono fun e w' hp => ?_
 ·rw[List.getElem?_map] at he
  cases hj:ps[j]? with
  |none=>simp[hj] at he
  |some p =>
   simp[hj] at he
   subst he
   exact hv j p v hj Ku
 ·obtain⟨v,β',rfl,_,hk,_,TO,_⟩:=hp
  have DY:∀x,¬ee [] x:=fun x h=>by exact tE h
  refine⟨v,rfl,⟨⟨hk.os,hk.tape,hk.output,hk.size,fun k JB=>hk.block k JB (fun ⟨x,hx,_⟩=>DY x hx)⟩,hk.drawn⟩,?_⟩
  exact Rd.mono (I:=fun b=>I b∨((fresh w w' b∨O4 [] β b)∧∀x,ee [] x→β' x≠some b)) TO (fun b hb=>hb.imp id (fun h=>h.1.elim id (fun ⟨x,_,hx,_⟩=>absurd hx (DY x)))) (fun _ _ _=>rfl)
theorem zW(hr:Rel Γ s a w)(bz:zV P Γ.n o h s=some (s',ob))(fK:je ob){K:Act→World→Prop}{Q:Exit→Act→World→Prop}
  (hk:∀a' w',Rel Γ s' a' w'→K a' w'):o.wp P a w K Q:=by
 obtain⟨β,I,hr⟩:=hr
 unfold zV at bz
 split at bz
 ·rename_i c r Bc
  split at bz
  ·rename_i f ps zv uR
   cases hd:ry Γ.n o.dst with
   |false=>simp[hd] at bz
   |true =>
    simp only[hd,cond_true] at bz
    injection bz with bz;injection bz with h1 h2
    subst h1;subst h2
    have hc:kV P f ps r:=fK
    obtain⟨cl,args,Qe⟩:=c
    have zv:cl = .value (.func f):=zv
    subst zv
    obtain⟨hl,A9⟩:=EK hr args.toList ps uR
    unfold Oper.wp
    rw[O7 hc.1 Bc]
    rw[Oper.upon_enter]
    refine(O8 hr hc (vs:=args.map a.eval) (by simpa using hl) (fun j p v hp hv => ?_)).mono fun e w' Gi => ?_
    ·simp only[Array.getElem?_map] at hv
     cases hx:args[j]? with
     |none=>simp[hx] at hv
     |some x =>
      simp[hx] at hv
      subst hv
      exact A9 j p x hp (by simpa using hx)
    ·obtain⟨v,rfl,hb,TO⟩:=Gi
     exact hk _ _ ⟨β,_,(hr.grow hb (fun b h => .inl h) (fun b h=>h)).put (kf hd) TO⟩
  ·cases bz
 ·cases bz
theorem iA.UM(h:iA Γ s a w β I){t:Nat}{e:EV}(he:RE β (ee s.bp) I w e (a.tmps.getD t undef)):iA Γ ⟨(t,e)::s.env,s.bp⟩ a w β I:=by
 refine⟨fun t' e' mJ => ?_,h.bp,h.par,h.new,h.ib,h.ii,h.aP,h.size,h.defers⟩
 have mJ:Env.get ((t,e)::s.env) t'=some e':=mJ
 simp only[Env.get] at mJ
 cases hb:Nat.beq t t' with
 |true =>
  have:t=t':=Nat.eq_of_beq_eq_true hb
  subst this
  simp only[hb,cond_true] at mJ
  injection mJ with mJ;subst mJ
  exact he
 |false =>
  simp only[hb,cond_false] at mJ
  exact h.env t' e' mJ
theorem iA.WT(h:iA Γ s a w β I){b:Nat}(hb:b<w.heap.size)(hw:Γ.Nw b)(hs:∀x,ee s.bp x→β x≠some b):iA Γ s a w β (fun x=>I x∨x=b):=by
 refine⟨fun t e he=>(h.env t e he).mono (fun _ _=>rfl) (fun _ h=>h) (fun _ h => .inl h) (fun _ _ _=>rfl) (fun _ _ _ _=>rfl),⟨fun r sc hr => ?_,h.bp.2⟩,h.par,h.new,fun x hx => ?_,fun x hx => ?_,h.aP,h.size,h.defers⟩
 ·obtain⟨g1,g2⟩:=h.bp.1 r sc hr
  have DW:ee s.bp r:=by unfold ee;rw[hr];rfl
  refine⟨g1.mono rfl (fun _ _=>rfl) (fun _ _=>rfl) (fun _ h=>h) (fun _ h => .inl h) (fun _ _ _=>rfl) (fun _ _ _ _=>rfl),fun b' kI=>⟨(g2 b' kI).1,fun hx => ?_⟩⟩
  rcases hx with hx|hx
  ·exact(g2 b' kI).2 hx
  ·subst hx;exact hs r DW kI
 ·rcases hx with hx|hx
  ·exact h.ib x hx
  ·subst hx;exact hb
 ·rcases hx with hx|hx
  ·exact h.ii x hx
  ·subst hx;exact .inr (hw.imp (fun h=>⟨h,hb⟩) id)
theorem Gx{L:Nat→Prop}{r len sz:Nat}{v:Value}{ps:List PV}{xs:List (List PV)}(hv:RE β L I w (.row r 0 len sz) v)(NV:RB β L I w r (ps.map EV.pv))(h1:len=xs.length)(h2:ps=xs.flatten)
  (h3:∀row∈xs,row.length=sz) {I':Nat→Prop} (hI:∀b,I b→I' b) (YX:∀b,β r=some b→I' b):Rd I' w (.list xs) v:=by
 obtain⟨_,⟨_,rfl,rfl⟩|⟨b,c,hb,rfl,hc,_⟩⟩:=hv
 ·have:xs=[]:=List.eq_nil_of_length_eq_zero h1.symm
  subst this
  exact .nil _ _
 ·obtain⟨arr,el,hg,_,Gg⟩:=BD NV hb
  subst h1;subst h2
  have key:∀(i j:Nat) row x,xs[i]? = some row→row[j]? = some x→∃u,arr[i*sz+j]? = some u∧u.oneCell'=true∧Rd I w x u:=fun i j row x hi hj=>Gg _ x (DR h3 hi hj)
  refine .list xs b 0 c sz (fun i j=>arr.getD (i*sz+j) undef) hc (YX b hb) (fun i row hi=>h3 row (List.mem_of_getElem? hi)) (fun i j row x hi hj => ?_) (fun i j row x hi hj => ?_)
  ·obtain⟨u,g1,g2,g3⟩:=key i j row x hi hj
   refine⟨PV.wq g3 g2,?_⟩
   rw[Nat.zero_add,cell_of_row w b _ arr el (0,0) hg,g1]
   simp[Array.getD_eq_getD_getElem?,g1]
  ·obtain⟨u,g1,g2,g3⟩:=key i j row x hi hj
   simp only[Array.getD_eq_getD_getElem?,g1,Option.getD_some]
   exact g3.mono hI (fun _ _ _=>rfl)
def FJ(n t:Nat)(xs:List (List PV))(s:St):Option (St×List Prop) :=
 match s.env.get t with
 |some (.row r 0 len sz)=>match s.bp.get r with
  |some (.pure ps)=>bif Nat.blt r n&&Nat.blt t n then some (⟨(t,.pv (.list xs))::(kill r s).env,(kill r s).bp⟩,[len=xs.length,ps=xs.flatten,∀row∈xs,row.length=sz]) else none
  |_=>none
 |_=>none
theorem Bp(hs:∀r,ee Γ.sin r→Γ.n≤r){t:Nat}{xs:List (List PV)}(hr:Rel Γ s a w)(bz:FJ Γ.n t xs s=some (s',ob))(fK:je ob):Rel Γ s' a w:=by
 obtain⟨β,I,hr⟩:=hr
 unfold FJ at bz
 split at bz
 ·rename_i r len sz he
  split at bz
  ·rename_i ps uR
   cases hb:(Nat.blt r Γ.n&&Nat.blt t Γ.n) with
   |false=>simp[hb] at bz
   |true =>
    simp only[hb,cond_true] at bz
    simp only[Bool.and_eq_true] at hb
    have SE:r<Γ.n:=Nat.le_of_ble_eq_true hb.1
    injection bz with bz;injection bz with h1 h2
    subst h1;subst h2
    obtain⟨g1,fK⟩:=fK.cons
    obtain⟨g2,g3⟩:=fK.cons
    have hv:=hr.env t _ he
    have NV:=(hr.bp.1 r _ uR).1
    have DW:ee s.bp r:=by unfold ee;rw[uR];rfl
    have KO:¬ee Γ.sin r:=fun h=>absurd (hs r h) (Nat.not_le_of_lt SE)
    cases uI:β r with
    |none=>exact⟨β,I,(hr.kill r).UM (Gx hv NV g1 g2 g3 (fun _ h=>h) (fun b kI=>by rw[uI] at kI;cases kI))⟩
    |some b =>
     have hk:=(hr.kill r).WT (b:=b) ((hr.bp.1 r _ uR).2 b uI).1 (hr.new r b DW (.inl KO) uI) (fun x hx e=>(kd.1 hx).2 (hr.bp.2 x r b (kd.1 hx).1 DW e uI))
     exact⟨β,_,hk.UM (Gx hv NV g1 g2 g3 (fun _ h => .inl h) (fun b' kI=>by rw[uI] at kI;injection kI with kI;exact .inr kI.symm))⟩
  ·cases bz
 ·cases bz
def Qt(s:St)(o:Oper):Option St :=
 match o.op with
 |.call c=>match c.args.toList with
  |x::_=>match iq s.env x with
   |some (.row r _ len sz)=>match s.bp.get r with
    |some (.pure ps)=>some ⟨s.env,cq.set s.bp r (.pure (ps.take (len*sz)))⟩
    |_=>none
   |_=>none
  |_=>none
 |_=>none
theorem KU{s1:St}(hr:Rel Γ s a w)(h:Qt s o=some s1):Rel Γ s1 a w:=by
 unfold Qt at h
 split at h
 ·split at h
  ·split at h
   ·split at h
    ·rename_i uR
     injection h with h;subst h
     exact hr.cut uR
    ·cases h
   ·cases h
  ·cases h
 ·cases h
def Gy(T:qU)(n:Nat)(o:Oper)(h:Hint)(s:St):Option (St×List Prop) :=
 match h with
 |.ja l _ xs=>match CP T n o (.app l xs.flatten) s,o.dst with
  |some (s1,PR),some d=>match FJ n d xs s1 with
   |some (s2,ob2)=>some (s2,PR++ob2)
   |none=>none
  |_,_=>none
 |.row l out=>match Qt s o with
  |some s1=>CN MC T n o (.app l out) s1
  |none=>none
 |_=>CP T n o h s
theorem Gz(hT:uj P T)(hs:∀r,ee Γ.sin r→Γ.n≤r)(hr:Rel Γ s a w)(bz:Gy T Γ.n o h s=some (s',ob))(fK:je ob){K:Act→World→Prop}{Q:Exit→Act→World→Prop}
  (hk:∀a' w',Rel Γ s' a' w'→K a' w'):o.wp P a w K Q:=by
 unfold Gy at bz
 split at bz
 ·rename_i l u xs
  split at bz
  ·rename_i s1 PR d h1 hd
   split at bz
   ·rename_i s2 ob2 h2
    injection bz with bz;injection bz with e1 e2
    subst e1;subst e2
    obtain⟨g1,g2⟩:=fK.app
    exact zU hT hs hr h1 g1 (fun a' w' jn=>hk a' w' (Bp hs jn h2 g2))
   ·cases bz
  ·cases bz
 ·rename_i l out
  split at bz
  ·rename_i s1 h1
   exact zT (fun hr=>SG hr) hT hs (KU hr h1) bz fK hk
  ·cases bz
 ·exact zU hT hs hr bz fK hk
def assoc:List (Nat×Nat)→Nat→Option Nat
 |[],_=>none
 |(x',y)::r,x=>bif Nat.beq x' x then some y else assoc r x
def q8:List (Nat×Nat)→Nat→Option Nat
 |[],_=>none
 |(x,y')::r,y=>bif Nat.beq y' y then some x else q8 r y
def D5:Option Nat→Nat→Bool
 |some x,y=>Nat.beq x y
 |none,_=>false
def pc:SC→Bool
 |.pure _=>true
 |.lit cs=>cs.all fun | .pv _=>true|_=>false
 |_=>false
def sX(bp:cq)(σ:List (Nat×Nat)):Bool :=
 σ.all fun p=>(Nat.blt p.1 999999&&Nat.blt p.2 999999)&&D5 (assoc σ p.1) p.2&&D5 (q8 σ p.2) p.1&&(match bp.get p.1 with
  |some sc=>pc sc
  |none=>false)
def sM(bp:cq):List (Nat×Nat)→cq
 |[]=>[]
 |(x,y)::σ=>match bp.get x with
  |some sc=>(y,sc)::sM bp σ
  |none=>sM bp σ
def rN(σ:List (Nat×Nat))(sout:cq):cq→cq
 |[]=>[]
 |(x,sc)::bp=>(x,bif Nat.blt x 999999 then (match assoc σ x with
  |some y=>match cq.get sout y with
   |some sc'=>sc'
   |none=>sc
  |none=>sc) else sc)::rN σ sout bp
def Bg(σ:Nat→Option Nat):EV→Option EV
 |.pv p=>some (.pv p)
 |.ptr x o=>match σ x with
  |some y=>some (.ptr y o)
  |none=>none
 |.row x o l z=>match σ x with
  |some y=>some (.row y o l z)
  |none=>none
 |.wi c=>some (.wi c)
 |.wj x o l z ps=>match σ x with
  |some y=>some (.wj y o l z ps)
  |none=>none
 |.H6 f x=>match σ x with
  |some y=>some (.H6 f y)
  |none=>none
 |.dead=>none
 |.xx .. => none
 |.u0 .. => none
def KV(nx:Bool)(env:Env)(x:Operand):Option EV :=
 match nx,x with
 |true,.const (.slice none 0 0)=>some (.pv .gb)
 |_,x=>iq env x
def WU:EV→Bool
 |.wj .. => true
 |.row .. => true
 |_=>false
theorem iA.evX(hr:iA Γ s a w β I)(nx:Bool)(x:Operand)(e:EV)(h:KV nx s.env x=some e):RE β (ee s.bp) I w e (a.eval x):=by
 unfold KV at h
 split at h
 ·injection h with h;subst h;exact Rd.gb
 ·exact hr.Ih x e h
def IU(nx:Bool)(env:Env)(σ:Nat→Option Nat):List Operand→Option (List EV)
 |[]=>some []
 |x::r=>match KV nx env x,IU nx env σ r with
  |some e,some es=>match Bg σ e with
   |some e'=>some (e'::es)
   |none=>none
  |_,_=>none
def SJ(σ:Nat→Option Nat)(env:Env):Operand→Option (FuncId×List EV)
 |.func f=>some (f,[])
 |x=>match iq env x with
  |some (.H6 f r)=>match σ r with
   |some y=>some (f,[.ptr y 0])
   |none=>none
  |some (.pv (.fn f))=>some (f,[])
  |_=>none
def kK:List Nat→St→St
 |[],s=>s
 |r::rs,s=>kK rs (kill r s)
theorem iA.kK:∀(rs:List Nat) {s:St},iA Γ s a w β I→iA Γ (kK rs s) a w β I
 |[],_,h=>h
 |r::rs,_,h=>iA.kK rs (h.kill r)
theorem wv:∀(rs:List Nat) {s:St} {x:Nat},ee (kK rs s).bp x↔ee s.bp x∧x ∉ rs
 |[],s,x=>by simp[kK]
 |r::rs,s,x=>by
  show ee (kK rs (kill r s)).bp x↔_
  rw[wv rs]
  show ee (iB r s.bp) x∧_↔_
  rw[kd]
  simp only[List.mem_cons,not_or,and_assoc]
def Cw(x:Nat):Bool:=Nat.ble 200000 x
def givenBy(σ:List (Nat×Nat)):List Nat:=(σ.filter fun p=>Cw p.2).map (·.1)
def xF (P : Program) (n : Nat) (o : Oper) (h : Hint) (s : St) : Option (St × List Prop) :=
  match o.op, h with
  | .call c, .bI σ nw r sout => match c.callee with
    | .value g => match SJ (assoc σ) s.env g, IU (WU r) s.env (assoc σ) c.args.toList with
     | some (f, ex), some es => bif ry n o.dst && sX s.bp σ && σ.all (fun p => bif Cw p.2 then Nat.blt p.1 n else (cq.get sout p.2).isSome) && sout.all (fun p => Nat.blt p.1 999999 && pc p.2 && (((q8 σ p.1).isSome && !Cw p.1) || D5 (nw.map (·.1)) p.1)) then
        match nw with
        | none => match Bg (q8 σ) r with
          | some r' => some (⟨u6 (kK (givenBy σ) s).env o.dst r', rN σ sout (kK (givenBy σ) s).bp⟩, [av P f (es ++ ex) (sM s.bp σ) r sout])
          | none => none
        | some (y, d) => match cq.get sout y, s.bp.get d, q8 σ y, Bg (fun z => bif Nat.beq y z then some d else q8 σ z) r with
          | some sc, none, none, some r' => bif Nat.blt d n then some (⟨u6 (kK (givenBy σ) s).env o.dst r', (d, sc) :: rN σ sout (kK (givenBy σ) s).bp⟩, [av P f (es ++ ex) (sM s.bp σ) r sout]) else none
          | _, _, _, _ => none
      else none
     | _, _ => none
    | _ => none
  | _, _ => none
theorem ox:∀{σ:List (Nat×Nat)} {x y:Nat},assoc σ x=some y→(x,y)∈σ
 |[],x,y,h=>by cases h
 |(x',y')::r,x,y,h=>by
  simp only[assoc] at h
  cases hb:Nat.beq x' x with
  |true =>
   have:x'=x:=Nat.eq_of_beq_eq_true hb
   subst this
   simp only[hb,cond_true] at h
   injection h with h;subst h;simp
  |false =>
   simp only[hb,cond_false] at h
   exact List.mem_cons_of_mem _ (ox h)
theorem pd:∀{σ:List (Nat×Nat)} {x y:Nat},q8 σ y=some x→(x,y)∈σ
 |[],x,y,h=>by cases h
 |(x',y')::r,x,y,h=>by
  simp only[q8] at h
  cases hb:Nat.beq y' y with
  |true =>
   have:y'=y:=Nat.eq_of_beq_eq_true hb
   subst this
   simp only[hb,cond_true] at h
   injection h with h;subst h;simp
  |false =>
   simp only[hb,cond_false] at h
   exact List.mem_cons_of_mem _ (pd h)
theorem cq.CQ:∀{bp:cq} {y:Nat} {sc:SC},cq.jG bp y=some sc→(y,sc)∈bp
 |[],y,sc,h=>by cases h
 |(y',sc')::r,y,sc,h=>by
  simp only[cq.jG] at h
  cases hb:Nat.beq y' y with
  |true =>
   have:y'=y:=Nat.eq_of_beq_eq_true hb
   subst this
   simp only[hb,cond_true] at h
   injection h with h;subst h;simp
  |false =>
   simp only[hb,cond_false] at h
   exact List.mem_cons_of_mem _ (cq.CQ h)
theorem cq.get_mem{bp:cq}{y:Nat}{sc:SC}(h:cq.get bp y=some sc):(y,sc)∈bp∨(1000000≤y∧∃xs,(999999,SC.heap xs)∈bp):=by
 rcases KB y with hy|rfl|⟨j,rfl⟩
 ·rw[cq.qZ hy] at h;exact .inl (cq.CQ h)
 ·rw[cq.mL] at h;cases h
 ·right
  refine⟨by unfold hc;omega,?_⟩
  rw[cq.rJ] at h
  unfold cq.hp at h
  split at h
  ·rename_i xs hg;exact⟨xs,cq.CQ hg⟩
  ·simp[yk] at h
theorem cq.KW{bp:cq}(zX:∀p∈bp,p.1<999999){y:Nat}{sc:SC}(h:cq.get bp y=some sc):(y,sc)∈bp:=by
 rcases cq.get_mem h with h|⟨_,xs,h⟩
 ·exact h
 ·have:=zX _ h;simp at this
theorem D6{o:Option Nat}{y:Nat}(h:D5 o y=true):o=some y:=by
 cases o with
 |none=>cases h
 |some x=>rw[Nat.eq_of_beq_eq_true h]
theorem D7{bp:cq}{σ:List (Nat×Nat)}(h:sX bp σ=true){x y:Nat}(hm:(x,y)∈σ):x<999999∧y<999999:=by
 unfold sX at h
 rw[List.all_eq_true] at h
 have:=h (x,y) hm
 simp only[Bool.and_eq_true] at this
 exact⟨Nat.le_of_ble_eq_true this.1.1.1.1,Nat.le_of_ble_eq_true this.1.1.1.2⟩
theorem j0{bp:cq}{σ:List (Nat×Nat)}(h:sX bp σ=true){x y:Nat}(hm:(x,y)∈σ) :
  assoc σ x=some y∧q8 σ y=some x∧∃sc,bp.get x=some sc∧pc sc=true:=by
 unfold sX at h
 rw[List.all_eq_true] at h
 have:=h (x,y) hm
 simp only[Bool.and_eq_true] at this
 obtain⟨⟨⟨_,h1⟩,h2⟩,h3⟩:=this
 refine⟨D6 h1,D6 h2,?_⟩
 split at h3
 ·rename_i sc we;exact⟨sc,we,h3⟩
 ·cases h3
theorem va{bp:cq}{σ0:List (Nat×Nat)}(vb:sX bp σ0=true):∀(σ:List (Nat×Nat)),(∀p∈σ,p∈σ0)→∀(y:Nat) sc,(sM bp σ).get y=some sc→∃x,q8 σ0 y=some x∧assoc σ0 x=some y∧bp.get x=some sc
 |[],_,y,sc,h=>by rw[sM,cq.get_nil] at h;cases h
 |(x,y')::σ,hm,y,sc,h=>by
  obtain⟨g1,g2,NZ,g3,_⟩:=j0 vb (hm (x,y') (by simp))
  simp only[sM,g3] at h
  rw[cq.qH (D7 vb (hm (x,y') (by simp))).2] at h
  cases hb:Nat.beq y' y with
  |true =>
   have:y'=y:=Nat.eq_of_beq_eq_true hb
   subst this
   simp only[hb,cond_true] at h
   injection h with h;subst h
   exact⟨x,g2,g1,g3⟩
  |false =>
   simp only[hb,cond_false] at h
   exact va vb σ (fun p hp=>hm p (by simp[hp])) y sc h
theorem od{bp:cq}{σ0:List (Nat×Nat)}(vb:sX bp σ0=true):∀(σ:List (Nat×Nat)),(∀p∈σ,p∈σ0)→∀x y,(x,y)∈σ→ee (sM bp σ) y
 |[],_,x,y,h=>by cases h
 |(x',y')::σ,hm,x,y,h=>by
  obtain⟨g1,g2,NZ,g3,_⟩:=j0 vb (hm (x',y') (by simp))
  have hy9:=(D7 vb (hm (x',y') (by simp))).2
  simp only[sM,g3]
  rcases List.mem_cons.1 h with h|h
  ·injection h with h1 h2;subst h2
   exact(jf hy9).2 (.inl rfl)
  ·exact(jf hy9).2 (.inr (od vb σ (fun p hp=>hm p (by simp[hp])) x y h))
theorem zY(σ:List (Nat×Nat))(sout:cq):∀(bp:cq) (x:Nat),(rN σ sout bp).jG x=(bp.jG x).map (fun sc=>bif Nat.blt x 999999 then (match assoc σ x with
  |some y=>match cq.get sout y with
   |some sc'=>sc'
   |none=>sc
  |none=>sc) else sc)
 |[],x=>rfl
 |(x',sc)::bp,x=>by
  simp only[rN,cq.jG]
  cases hb:Nat.beq x' x with
  |true =>
   have:x'=x:=Nat.eq_of_beq_eq_true hb
   subst this
   rfl
  |false=>exact zY σ sout bp x
theorem GA(σ:List (Nat×Nat))(sout bp:cq)(x:Nat):(rN σ sout bp).get x=(bp.get x).map (fun sc=>bif Nat.blt x 999999 then (match assoc σ x with
  |some y=>match cq.get sout y with
   |some sc'=>sc'
   |none=>sc
  |none=>sc) else sc):=by
 rcases KB x with h|rfl|⟨j,rfl⟩
 ·rw[cq.qZ h,cq.qZ h,zY]
 ·rw[cq.mL,cq.mL];rfl
 ·rw[cq.rJ,cq.rJ,show Nat.blt (hc j) 999999=false from Bool.eq_false_iff.2 (fun h=>by have:=Nat.le_of_ble_eq_true h;unfold hc at this;omega)]
  unfold cq.hp
  rw[zY]
  cases bp.jG 999999 with
  |none=>simp[yk]
  |some sc =>
   simp only[Option.map_some,show Nat.blt 999999 999999=false from rfl,cond_false]
   cases yk (match some sc with
    |some (SC.heap xs)=>xs
    |_=>[]) j<;>rfl
theorem pU{σ:List (Nat×Nat)}{sout bp:cq}{x:Nat} : ee (rN σ sout bp) x↔ee bp x:=by
 unfold ee
 rw[GA]
 simp
theorem Im{sc:SC}(h:pc sc=true):∀e∈sc.zw,∃p,e = .pv p:=by
 intro e he
 cases sc with
 |pure ps =>
  obtain⟨p,_,rfl⟩:=List.mem_map.1 he
  exact⟨p,rfl⟩
 |lit cs =>
  unfold pc at h
  rw[List.all_eq_true] at h
  have:=h e he
  cases e<;>first|exact⟨_,rfl⟩|cases this
 |heap _=>cases h
 |Mn _ _=>cases h
theorem RB.closed{β β':Nat→Option Nat}{L L' I I':Nat→Prop}{w:World}{r r':Nat}{sc:SC}(hc:pc sc=true)(h:RB β L I w r sc.zw)(hb:β' r'=β r)(hI:∀b,I b→I' b):RB β' L' I' w r' sc.zw:=by
 rcases h with ⟨h1,h2⟩|⟨b,arr,el,h1,h2,h3⟩
 ·exact .inl ⟨hb.trans h1,h2⟩
 ·refine .inr ⟨b,arr,el,hb.trans h1,h2,fun j e he => ?_⟩
  obtain⟨u,g1,g2,g3⟩:=h3 j e he
  obtain⟨p,rfl⟩:=Im hc e (List.mem_of_getElem? he)
  exact⟨u,g1,g2,Rd.mono g3 hI (fun _ _ _=>rfl)⟩
def βX(β:Nat→Option Nat)(σ:List (Nat×Nat))(y:Nat):Option Nat:=(q8 σ y).bind β
theorem iA.given(hr:iA Γ s a w β I){σ:List (Nat×Nat)}{s1:St}(AI:∀x,ee s1.bp x→ee s.bp x)(DL:∀x y,ee s1.bp x→assoc σ x=some y→¬gv y)
  (Qu:∀x y b,assoc σ x=some y→gv y→ee s.bp x→β x=some b→Γ.Nw b) (vb:sX s.bp σ=true) {b:Nat} (h:O4 (sM s.bp σ) (βX β σ) b):Γ.Nw b∧b<w.heap.size∧∀x,ee s1.bp x→β x≠some b:=by
 obtain⟨y,hg,hy,O9⟩:=h
 obtain⟨sc,we⟩:=Option.isSome_iff_exists.1 hy
 obtain⟨x,g1,g2,g3⟩:=va vb σ (fun p hp=>hp) y sc we
 unfold βX at O9
 rw[g1] at O9
 have h2:ee s.bp x:=by unfold ee;rw[g3];rfl
 refine⟨Qu x y b g2 hg h2 O9,hr.lb x b h2 O9,fun x' CR e => ?_⟩
 have:=hr.bp.2 x x' b h2 (AI x' CR) O9 e
 subst this
 exact DL x y CR g2 hg
theorem iA.handed (hr : iA Γ s a w β I) {σ : List (Nat × Nat)} {s1 : St} (wg : iA Γ s1 a w β I) (AI : ∀ x, ee s1.bp x → ee s.bp x) (DL : ∀ x y, ee s1.bp x → assoc σ x = some y → ¬ gv y)
    (Qu : ∀ x y b, assoc σ x = some y → gv y → ee s.bp x → β x = some b → Γ.Nw b) {sout : cq} {β' : Nat → Option Nat} {w' : World} {I' : Nat → Prop} (vb : sX s.bp σ = true) (Ge : ∀ p ∈ σ, ¬ gv p.2 → ee sout p.2)
    (hb : ∀ y, ee (sM s.bp σ) y → ¬ gv y → β' y = βX β σ y) (hk : o8 (fun b => ∃ y, ee (sM s.bp σ) y ∧ βX β σ y = some b) w w')
    (Qv : ∀ y sc, cq.get sout y = some sc → pc sc = true ∧ RB β' (ee sout) I' w' y sc.zw ∧ ∀ b, β' y = some b → ¬ I' b) (hI1 : ∀ b, I b → I' b) (YY : ∀ b, I' b → I b ∨ fresh w w' b ∨ O4 (sM s.bp σ) (βX β σ) b) :
    iA Γ ⟨s1.env, rN σ sout s1.bp⟩ a w' β I' := by
  have wu : ∀ b y, ee (sM s.bp σ) y → βX β σ y = some b → ∃ x, assoc σ x = some y ∧ ee s.bp x ∧ β x = some b := by
    intro b y hy O9
    obtain ⟨sc, we⟩ := Option.isSome_iff_exists.1 hy
    obtain ⟨x, g1, g2, g3⟩ := va vb σ (fun p hp => hp) y sc we
    unfold βX at O9
    rw [g1] at O9
    exact ⟨x, g2, by unfold ee; rw [g3]; rfl, O9⟩
  have hIM : ∀ b, I b → ¬ ∃ y, ee (sM s.bp σ) y ∧ βX β σ y = some b := by
    intro b hI ⟨y, hy, O9⟩
    obtain ⟨x, _, hd, Sc⟩ := wu b y hy O9
    obtain ⟨sc, we⟩ := Option.isSome_iff_exists.1 hd
    exact ((hr.bp.1 x sc we).2 b Sc).2 hI
  have YZ : ∀ b, O4 (sM s.bp σ) (βX β σ) b → Γ.Nw b ∧ b < w.heap.size ∧ ∀ x, ee s1.bp x → β x ≠ some b := fun b h => hr.given AI DL Qu vb h
  have hw : ∀ b o, I b → w'.cell? ⟨b, o, none⟩ = w.cell? ⟨b, o, none⟩ := fun b o hI => mN (hk.block b (hr.ib b hI) (hIM b hI)) o
  have hL : ∀ x, ee s1.bp x → ee (rN σ sout s1.bp) x := fun x hx => pU.2 hx
  have IP : ∀ r b, ee s1.bp r → β r = some b → w'.shape? b = w.shape? b := fun r b hd kI => hk.shape b (wg.lb r b hd kI)
  refine ⟨fun t e he => (wg.env t e he).mono (fun _ _ => rfl) hL hI1 hw IP, ⟨fun x sc hx => ?_, fun x y b hx hy => wg.bp.2 x y b (pU.1 hx) (pU.1 hy)⟩,
    fun x hx => wg.par x (pU.1 hx), fun x b hx => wg.new x b (pU.1 hx), fun b hI => ?_, fun b hI => ?_, ?_, wg.size, wg.defers⟩
  · have hx : (rN σ sout s1.bp).get x = some sc := hx
    rw [GA] at hx
    cases hg : s1.bp.get x with
    | none => rw [hg] at hx; cases hx
    | some NZ =>
      rw [hg] at hx
      simp only [Option.map_some, Option.some.injEq] at hx
      obtain ⟨k1, k2⟩ := wg.bp.1 x NZ hg
      have Ma : ee s1.bp x := by unfold ee; rw [hg]; rfl
      have Ya : Nat.blt x 999999 = false → assoc σ x = none := fun hb => by
        cases ha : assoc σ x with
        | none => rfl
        | some y => rw [show Nat.blt x 999999 = true from Nat.ble_eq_true_of_le (D7 vb (ox ha)).1] at hb; cases hb
      have hx : (match assoc σ x with
        | some y => match cq.get sout y with
          | some sc' => sc'
          | none => NZ
        | none => NZ) = sc := by
        cases hb : Nat.blt x 999999 with
        | true => rw [hb] at hx; exact hx
        | false => rw [hb] at hx; rw [Ya hb]; exact hx
      cases ha : assoc σ x with
      | some y =>
        have hm := ox ha
        have FK := DL x y Ma ha
        obtain ⟨_, hay, _⟩ := j0 vb hm
        obtain ⟨sc', Pa⟩ := Option.isSome_iff_exists.1 (Ge (x, y) hm FK)
        simp only [ha, Pa] at hx
        subst hx
        obtain ⟨c1, c2, c3⟩ := Qv y sc' Pa
        have TR : β' y = β x := by
          rw [hb y (od vb σ (fun p hp => hp) x y hm) FK]
          unfold βX; rw [hay]; rfl
        exact ⟨c2.closed c1 TR.symm (fun _ h => h), fun b kI => ⟨Nat.lt_of_lt_of_le (k2 b kI).1 hk.size, c3 b (TR.trans kI)⟩⟩
      | none =>
        simp only [ha] at hx
        subst hx
        refine ⟨k1.mono rfl (fun b kI => hk.block b (wg.lb x b Ma kI) (fun hM => ?_)) (fun _ _ => rfl) hL hI1 hw IP, fun b kI => ⟨Nat.lt_of_lt_of_le (k2 b kI).1 hk.size, fun hI => ?_⟩⟩
        · obtain ⟨y2, Y0, Y1⟩ := hM
          obtain ⟨x2, h1, h2, h3⟩ := wu b y2 Y0 Y1
          have := hr.bp.2 x x2 b (AI x Ma) h2 kI h3
          subst this
          rw [ha] at h1; cases h1
        · rcases YY b hI with h | h | h
          · exact (k2 b kI).2 h
          · have := (k2 b kI).1; have := h.1; omega
          · exact (YZ b h).2.2 x Ma kI
  · rcases YY b hI with h | h | h
    · exact Nat.lt_of_lt_of_le (hr.ib b h) hk.size
    · exact h.2
    · exact Nat.lt_of_lt_of_le (YZ b h).2.1 hk.size
  · rcases YY b hI with h | h | h
    · rcases hr.ii b h with h3 | h3
      · exact .inl h3
      · exact .inr (h3.imp (fun h3 => ⟨h3.1, Nat.lt_of_lt_of_le h3.2 hk.size⟩) id)
    · exact .inr (.inl ⟨Nat.le_trans hr.aP.size h.1, h.2⟩)
    · obtain ⟨h1, h2, _⟩ := YZ b h
      exact .inr (h1.imp (fun h1 => ⟨h1, Nat.lt_of_lt_of_le h2 hk.size⟩) id)
  · refine hr.aP.trans hk (fun b bH hM => ?_)
    obtain ⟨y, hy, O9⟩ := hM
    obtain ⟨x, _, hd, Sc⟩ := wu b y hy O9
    by_cases KX : ee Γ.sin x ∧ ¬ gv x
    · exact ⟨x, KX.1, by rw [← hr.par x hd KX.1 KX.2]; exact Sc⟩
    · exact (hr.new x b hd (by by_cases h : ee Γ.sin x; · exact .inr (Classical.byContradiction fun h2 => KX ⟨h, h2⟩)
                               · exact .inl h) Sc).m bH
theorem GB(nx:Bool)(hr:iA Γ s a w β I){σ:List (Nat×Nat)}(vb:sX s.bp σ=true):∀(xs:List Operand) (es:List EV),IU nx s.env (assoc σ) xs=some es→xs.length=es.length ∧
  ∀(j:Nat) e x,es[j]? = some e→xs[j]? = some x→RE (βX β σ) (ee (sM s.bp σ)) I w e (a.eval x)
 |[],es,h=>by injection h with h;subst h;exact⟨rfl,fun j p x hp=>by simp at hp⟩
 |x::r,es,h=>by
  unfold IU at h
  split at h
  ·rename_i e Wl he SK
   split at h
   ·rename_i e' mJ
    injection h with h;subst h
    obtain⟨h1,h2⟩:=GB nx hr vb r Wl SK
    refine⟨by simp[h1],fun j q y hj hy => ?_⟩
    cases j with
    |zero =>
     simp at hj hy;subst hj hy
     have hx:=hr.evX nx x _ he
     cases e with
     |pv p=>injection mJ with mJ;subst mJ;exact hx
     |wi c=>injection mJ with mJ;subst mJ;exact hx
     |dead=>cases mJ
     |xx _ _ _=>cases mJ
     |u0 _ _=>cases mJ
     |ptr z off =>
      simp only[Bg] at mJ
      split at mJ
      ·rename_i y hy
       injection mJ with mJ;subst mJ
       have hm:=ox hy
       obtain⟨_,hR,_⟩:=j0 vb hm
       obtain⟨_,b,hb,hv⟩:=hx
       exact⟨od vb σ (fun p hp=>hp) z y hm,b,by unfold βX;rw[hR];exact hb,hv⟩
      ·cases mJ
     |H6 g z =>
      simp only[Bg] at mJ
      split at mJ
      ·rename_i y hy
       injection mJ with mJ;subst mJ
       have hm:=ox hy
       obtain⟨_,hR,_⟩:=j0 vb hm
       obtain⟨_,b,hb,hv⟩:=hx
       exact⟨od vb σ (fun p hp=>hp) z y hm,b,by unfold βX;rw[hR];exact hb,hv⟩
      ·cases mJ
     |row z off len sz =>
      simp only[Bg] at mJ
      split at mJ
      ·rename_i y hy
       injection mJ with mJ;subst mJ
       have hm:=ox hy
       obtain⟨_,hR,_⟩:=j0 vb hm
       have Sd:βX β σ y=β z:=by unfold βX;rw[hR];rfl
       obtain⟨_,hx⟩:=hx
       exact⟨od vb σ (fun p hp=>hp) z y hm,by rw[Sd];exact hx⟩
      ·cases mJ
     |wj z off len sz ps =>
      simp only[Bg] at mJ
      split at mJ
      ·rename_i y hy
       injection mJ with mJ;subst mJ
       have hm:=ox hy
       obtain⟨_,hR,_⟩:=j0 vb hm
       have Sd:βX β σ y=β z:=by unfold βX;rw[hR];rfl
       obtain⟨us,g1,g2,⟨u,g3,_,g4⟩,g5⟩:=hx
       exact⟨us,g1,g2,⟨u,g3,od vb σ (fun p hp=>hp) z y hm,by rw[Sd];exact g4⟩,g5⟩
      ·cases mJ
    |succ j=>exact h2 j q y (by simpa using hj) (by simpa using hy)
   ·cases h
  ·cases h
theorem Pb(hr:iA Γ s a w β I){σ:List (Nat×Nat)}(vb:sX s.bp σ=true){g:Operand}{f:FuncId}{ex:List EV}(h:SJ (assoc σ) s.env g=some (f,ex)) :
  ∃cap:Array Value,a.eval g = .func (.func f) #[] cap∧ex.length=cap.size∧∀(j:Nat) e v,ex[j]? = some e→cap[j]? = some v→RE (βX β σ) (ee (sM s.bp σ)) I w e v:=by
 unfold SJ at h
 split at h
 ·rename_i f'
  injection h with h;injection h with h1 h2
  subst h1;subst h2
  exact⟨#[],by simp[Act.eval],rfl,fun j e v he=>by simp at he⟩
 ·split at h
  ·rename_i f' r he
   split at h
   ·rename_i y hy
    injection h with h;injection h with h1 h2
    subst h1;subst h2
    obtain⟨_,b,hb,hv⟩:=hr.Ih g _ he
    have hm:=ox hy
    obtain⟨_,hR,_⟩:=j0 vb hm
    refine⟨#[.pointer (some ⟨b,0,none⟩)],hv,rfl,fun j e v he hv => ?_⟩
    cases j with
    |zero =>
     simp at he hv;subst he;subst hv
     exact⟨od vb σ (fun p hp=>hp) r y hm,b,by unfold βX;rw[hR];exact hb,rfl⟩
    |succ j=>simp at he
   ·cases h
  ·rename_i f' he
   injection h with h;injection h with h1 h2
   subst h1;subst h2
   have hv:Rd I w (.fn f') (a.eval g):=hr.Ih g _ he
   refine⟨#[],?_,rfl,fun j e v he=>by simp at he⟩
   generalize a.eval g=v at hv
   cases hv;rfl
  ·cases h
theorem ME {f : FuncId} (hc : tL P f) {g : Operand} {cap : Array Value} (hv : a.eval g = .func (.func f) #[] cap) {args : Array Operand} {Qe : Array TypeId} (Bc : o.op = .call ⟨.value g, args, Qe⟩) :
    (execOp a.eval o).run P w = .ok (.enter f (args.map a.eval ++ cap)) w := by
  obtain ⟨fn, h1, h2, h3⟩ := hc
  have hb : fn.body ≠ none := by intro e; rw [e] at h2; cases h2
  have Qa : fn.name ≠ "runtime.NumGoroutine" := by simpa using h3
  simp [execOp, Bc, resolve, hv, Deferred.ofValue, invoke, callFunc, h1, Qa, hb]
theorem zC (hs : ∀ r, ee Γ.sin r → Γ.n ≤ r) (hr : Rel Γ s a w) (bz : xF P Γ.n o h s = some (s', ob)) (fK : je ob) {K : Act → World → Prop} {Q : Exit → Act → World → Prop}
    (hk : ∀ a' w', Rel Γ s' a' w' → K a' w') : o.wp P a w K Q := by
  obtain ⟨β, I, hr⟩ := hr
  unfold xF at bz
  split at bz
  · rename_i c σ nw r sout Bc
    split at bz
    case h_2 => cases bz
    rename_i g zv
    split at bz
    · rename_i f ex es hg SK
      cases hd : (ry Γ.n o.dst && sX s.bp σ && σ.all (fun p => bif Cw p.2 then Nat.blt p.1 Γ.n else (cq.get sout p.2).isSome) && sout.all (fun p => Nat.blt p.1 999999 && pc p.2 && (((q8 σ p.1).isSome && !Cw p.1) || D5 (nw.map (·.1)) p.1))) with
      | false => simp [hd] at bz
      | true =>
        simp only [hd, cond_true] at bz
        simp only [Bool.and_eq_true] at hd
        obtain ⟨⟨⟨d1, d2⟩, d3⟩, d4⟩ := hd
        rw [List.all_eq_true] at d3 d4
        obtain ⟨cl, args, Qe⟩ := c
        have zv : cl = .value g := zv
        subst zv
        obtain ⟨cap, Y2, Y3, H8⟩ := Pb hr d2 hg
        obtain ⟨hl, A9⟩ := GB _ hr d2 args.toList es SK
        have WV : CH (βX β σ) I w (sM s.bp σ) := by
          refine ⟨fun y sc hy => ?_, fun y y' b hy IV h1 h2 => ?_⟩
          · obtain ⟨x, g1, g2, g3⟩ := va d2 σ (fun p hp => hp) y sc hy
            obtain ⟨_, _, sc1, g4, g5⟩ := j0 d2 (pd g1)
            rw [g3] at g4; injection g4 with g4; subst g4
            have Sd : βX β σ y = β x := by unfold βX; rw [g1]; rfl
            obtain ⟨k1, k2⟩ := hr.bp.1 x sc g3
            exact ⟨k1.closed g5 Sd (fun _ h => h), fun b hb => k2 b (Sd.symm.trans hb)⟩
          · obtain ⟨sc, we⟩ := Option.isSome_iff_exists.1 hy
            obtain ⟨sc', Pa⟩ := Option.isSome_iff_exists.1 IV
            obtain ⟨x, g1, g2, g3⟩ := va d2 σ (fun p hp => hp) y sc we
            obtain ⟨x', Yb, PO, Yc⟩ := va d2 σ (fun p hp => hp) y' sc' Pa
            have e1 : β x = some b := by unfold βX at h1; rw [g1] at h1; exact h1
            have e2 : β x' = some b := by unfold βX at h2; rw [Yb] at h2; exact h2
            have := hr.bp.2 x x' b (by unfold ee; rw [g3]; rfl) (by unfold ee; rw [Yc]; rfl) e1 e2
            subst this
            rw [g2] at PO; injection PO with PO
        have fin : ∀ (hc : av P f (es ++ ex) (sM s.bp σ) r sout) {s2 : St}, (∀ v w' β', o8 (fun b => ∃ y, ee (sM s.bp σ) y ∧ βX β σ y = some b) w w' → (∀ y, ee (sM s.bp σ) y → ¬ gv y → β' y = βX β σ y) →
              CH β' (fun b => I b ∨ ((fresh w w' b ∨ O4 (sM s.bp σ) (βX β σ) b) ∧ ∀ x, ee sout x → β' x ≠ some b)) w' sout → RE β' (ee sout) (fun b => I b ∨ ((fresh w w' b ∨ O4 (sM s.bp σ) (βX β σ) b) ∧ ∀ x, ee sout x → β' x ≠ some b)) w' r v →
              (∀ x b, ee sout x → ¬ ee (sM s.bp σ) x → β' x = some b → fresh w w' b ∨ O4 (sM s.bp σ) (βX β σ) b) → Rel Γ s2 (a.put o.dst v) w') → (∀ a' w', Rel Γ s2 a' w' → K a' w') → o.wp P a w K Q := by
          intro hc s2 MF hk
          unfold Oper.wp
          rw [ME hc.1 Y2 Bc]
          rw [Oper.upon_enter]
          have Sy : args.size = es.length := by simpa using hl
          refine (hc.2 I w (βX β σ) (args.map a.eval ++ cap) hr.ib WV (by rw [List.length_append, Array.size_append, Array.size_map, Sy, Y3]) (fun j e v he hv => ?_)).mono fun e w' hp => ?_
          · by_cases hj : j < es.length
            · rw [List.getElem?_append_left hj] at he
              rw [Array.getElem?_append_left (by rw [Array.size_map]; omega), Array.getElem?_map] at hv
              cases hx : args[j]? with
              | none => simp [hx] at hv
              | some x =>
                simp [hx] at hv
                subst hv
                exact A9 j e x he (by simpa using hx)
            · rw [List.getElem?_append_right (by omega)] at he
              rw [Array.getElem?_append_right (by rw [Array.size_map]; omega), Array.size_map, Sy] at hv
              exact H8 _ e v he hv
          · obtain ⟨v, β', rfl, p1, p2, p3, p4, p5⟩ := hp
            exact hk _ _ (MF v w' β' p2 p1 p3 p4 p5)
        have zX : ∀ p ∈ sout, p.1 < 999999 := fun p hp => by
          have := d4 p hp
          simp only [Bool.and_eq_true] at this
          exact Nat.le_of_ble_eq_true this.1.1
        have UN : ∀ y sc, cq.get sout y = some sc → pc sc = true := by
          intro y sc hy
          obtain ⟨p, hp, h1⟩ : ∃ p ∈ sout, p.2 = sc := by
            exact ⟨(y, sc), cq.KW zX hy, rfl⟩
          have := d4 p hp
          simp only [Bool.and_eq_true] at this
          rw [← h1]; exact this.1.2
        have WW : ∀ y, Cw y = true ↔ gv y := fun y => ⟨Nat.le_of_ble_eq_true, Nat.ble_eq_true_of_le⟩
        have TS : ∀ p ∈ σ, ¬ gv p.2 → ee sout p.2 := fun p hp hg => by
          have := d3 p hp
          rw [Bool.eq_false_iff.2 (fun h => hg ((WW _).1 h)), cond_false] at this
          exact this
        have wg := hr.kK (givenBy σ)
        have AI : ∀ x, ee (kK (givenBy σ) s).bp x → ee s.bp x := fun x hx => ((wv _).1 hx).1
        have DL : ∀ x y, ee (kK (givenBy σ) s).bp x → assoc σ x = some y → ¬ gv y := fun x y hx ha hg => ((wv _).1 hx).2 (List.mem_map.2 ⟨(x, y), List.mem_filter.2 ⟨ox ha, (WW y).2 hg⟩, rfl⟩)
        have Qu : ∀ x y b, assoc σ x = some y → gv y → ee s.bp x → β x = some b → Γ.Nw b := fun x y b ha hg Ma hb => by
          have := d3 _ (ox ha)
          rw [(WW y).2 hg, cond_true] at this
          exact hr.new x b Ma (.inl (fun h => absurd (hs x h) (Nat.not_le_of_lt (Nat.le_of_ble_eq_true this)))) hb
        have u7 : ∀ x y, q8 σ y = some x → ee sout y → ¬ D5 (nw.map (·.1)) y = true → ee (kK (givenBy σ) s).bp x ∧ ¬ gv y := by
          intro x y hx hy dk
          obtain ⟨sc, we⟩ := Option.isSome_iff_exists.1 hy
          have := d4 _ (cq.KW zX we)
          simp only [Bool.and_eq_true, Bool.or_eq_true, Bool.not_eq_true'] at this
          have FK : ¬ gv y := fun hg => by
            rcases this.2 with h | h
            · rw [(WW y).2 hg] at h; exact absurd h.2 (by simp)
            · exact dk h
          obtain ⟨e1, _, Y4, e2, _⟩ := j0 d2 (pd hx)
          refine ⟨(wv _).2 ⟨by unfold ee; rw [e2]; rfl, fun hm => ?_⟩, FK⟩
          obtain ⟨⟨x', y'⟩, UO, SL⟩ := List.mem_map.1 hm
          obtain ⟨hm3, hm4⟩ := List.mem_filter.1 UO
          have SL : x' = x := SL
          subst SL
          obtain ⟨e3, _⟩ := j0 d2 hm3
          rw [e1] at e3; injection e3 with e3; subst e3
          exact FK ((WW _).1 hm4)
        split at bz
        · split at bz
          · rename_i r' jn
            injection bz with bz; injection bz with h1 h2
            subst h1; subst h2
            refine fin fK (fun v w' β' p2 p1 p3 p4 p5 => ?_) hk
            have hh := hr.handed wg AI DL Qu (sout := sout) d2 TS p1 p2 (fun y sc hy => ⟨UN y sc hy, (p3.1 y sc hy).1, fun b hb => ((p3.1 y sc hy).2 b hb).2⟩) (fun b hb => .inl hb) (fun b hb => hb.imp id (fun h => h.1))
            refine ⟨β, _, hh.put (kf d1) ?_⟩
            cases r with
            | pv p => injection jn with jn; subst jn; exact p4
            | wi c => injection jn with jn; subst jn; exact p4
            | dead => cases jn
            | xx _ _ _ => cases jn
            | u0 _ _ => cases jn
            | ptr y off =>
              simp only [Bg] at jn
              split at jn
              · rename_i x hx
                injection jn with jn; subst jn
                have hm := pd hx
                obtain ⟨UP, b, hb, hv⟩ := p4
                obtain ⟨k1, k2⟩ := u7 x y hx UP (by simp [D5])
                exact ⟨pU.2 k1, b, by rw [p1 y (od d2 σ (fun p hp => hp) x y hm) k2] at hb; unfold βX at hb; rw [hx] at hb; exact hb, hv⟩
              · cases jn
            | H6 g y =>
              simp only [Bg] at jn
              split at jn
              · rename_i x hx
                injection jn with jn; subst jn
                have hm := pd hx
                obtain ⟨UP, b, hb, hv⟩ := p4
                obtain ⟨k1, k2⟩ := u7 x y hx UP (by simp [D5])
                exact ⟨pU.2 k1, b, by rw [p1 y (od d2 σ (fun p hp => hp) x y hm) k2] at hb; unfold βX at hb; rw [hx] at hb; exact hb, hv⟩
              · cases jn
            | row y off len sz =>
              simp only [Bg] at jn
              split at jn
              · rename_i x hx
                injection jn with jn; subst jn
                have hm := pd hx
                obtain ⟨UP, p4⟩ := p4
                obtain ⟨k1, k2⟩ := u7 x y hx UP (by simp [D5])
                have Sd : β' y = β x := by rw [p1 y (od d2 σ (fun p hp => hp) x y hm) k2]; unfold βX; rw [hx]; rfl
                exact ⟨pU.2 k1, by rw [← Sd]; exact p4⟩
              · cases jn
            | wj y off len sz ps =>
              simp only [Bg] at jn
              split at jn
              · rename_i x hx
                injection jn with jn; subst jn
                have hm := pd hx
                obtain ⟨us, q1, q2, ⟨u, q3, UP, q4⟩, q5⟩ := p4
                obtain ⟨k1, k2⟩ := u7 x y hx UP (by simp [D5])
                have Sd : β' y = β x := by rw [p1 y (od d2 σ (fun p hp => hp) x y hm) k2]; unfold βX; rw [hx]; rfl
                exact ⟨us, q1, q2, ⟨u, q3, pU.2 k1, by rw [← Sd]; exact q4⟩, q5⟩
              · cases jn
          · cases bz
        · rename_i y d
          split at bz
          · rename_i sc r' we Bm hnR jn
            cases Bn : Nat.blt d Γ.n with
            | false => simp [Bn] at bz
            | true =>
              simp only [Bn, cond_true] at bz
              have WX : d < Γ.n := Nat.le_of_ble_eq_true Bn
              injection bz with bz; injection bz with h1 h2
              subst h1; subst h2
              refine fin fK (fun v w' β' p2 p1 p3 p4 p5 => ?_) hk
              have hh := hr.handed wg AI DL Qu (sout := sout) d2 TS p1 p2 (fun y sc hy => ⟨UN y sc hy, (p3.1 y sc hy).1, fun b hb => ((p3.1 y sc hy).2 b hb).2⟩) (fun b hb => .inl hb) (fun b hb => hb.imp id (fun h => h.1))
              have Y5 : ¬ ee (rN σ sout (kK (givenBy σ) s).bp) d := fun h => by
                have := AI _ (pU.1 h)
                unfold ee at this; rw [Bm] at this; cases this
              have hyn : ¬ ee (sM s.bp σ) y := fun h => by
                obtain ⟨Y4, SM⟩ := Option.isSome_iff_exists.1 h
                obtain ⟨x, g1, _⟩ := va d2 σ (fun p hp => hp) y Y4 SM
                rw [hnR] at g1; cases g1
              have hyd : ee sout y := by unfold ee; rw [we]; rfl
              have zG : d < 999999 := Nat.lt_of_lt_of_le WX Γ.small
              have wu := hh.site (d := d) (sc := sc) zG Y5 (fun h => absurd (hs d h) (Nat.not_le_of_lt WX)) (β' := fun z => if z = d then β' y else β z) (fun r dk => by simp [dk]) (fun b hb => by
                have hb : β' y = some b := by simpa using hb
                rcases p5 y b hyd hyn hb with hf | hf
                · refine ⟨hf.2, ((p3.1 y sc we).2 b hb).2, .inl (Nat.le_trans hr.aP.size hf.1), fun x hx Sc => ?_⟩
                  have := hr.lb x b (AI _ (pU.1 hx)) Sc
                  have := hf.1; omega
                · obtain ⟨q1, q2, q3⟩ := hr.given AI DL Qu d2 hf
                  exact ⟨Nat.lt_of_lt_of_le q2 p2.size, ((p3.1 y sc we).2 b hb).2, q1, fun x hx Sc => q3 x (pU.1 hx) Sc⟩) ((p3.1 y sc we).1.closed (UN y sc we) (by simp) (fun _ h => h))
              refine ⟨_, _, wu.put (kf d1) ?_⟩
              have key : ∀ z x, (bif Nat.beq y z then some d else q8 σ z) = some x → ee sout z → ee ((d, sc) :: rN σ sout (kK (givenBy σ) s).bp) x ∧ (fun z => if z = d then β' y else β z) x = β' z := by
                intro z x TT N0
                cases hb : Nat.beq y z with
                | true =>
                  have : y = z := Nat.eq_of_beq_eq_true hb
                  subst this
                  simp only [hb, cond_true] at TT
                  injection TT with TT; subst TT
                  exact ⟨(jf zG).2 (.inl rfl), by simp⟩
                | false =>
                  simp only [hb, cond_false] at TT
                  have hm := pd TT
                  obtain ⟨_, _, Y4, SM, _⟩ := j0 d2 hm
                  obtain ⟨k1, k2⟩ := u7 x z TT N0 (by intro h; have : y = z := Nat.eq_of_beq_eq_true h; subst this; simp at hb)
                  have dk : x ≠ d := fun e => by subst e; rw [Bm] at SM; cases SM
                  refine ⟨(jf zG).2 (.inr (pU.2 k1)), ?_⟩
                  simp only [if_neg dk]
                  rw [p1 z (od d2 σ (fun p hp => hp) x z hm) k2]; unfold βX; rw [TT]; rfl
              cases r with
              | pv p => injection jn with jn; subst jn; exact p4
              | wi c => injection jn with jn; subst jn; exact p4
              | dead => cases jn
              | xx _ _ _ => cases jn
              | u0 _ _ => cases jn
              | ptr z off =>
                simp only [Bg] at jn
                split at jn
                · rename_i x hx
                  injection jn with jn; subst jn
                  obtain ⟨N0, p4⟩ := p4
                  obtain ⟨k1, k2⟩ := key z x hx N0
                  exact ⟨k1, by rw [k2]; exact p4⟩
                · cases jn
              | H6 g z =>
                simp only [Bg] at jn
                split at jn
                · rename_i x hx
                  injection jn with jn; subst jn
                  obtain ⟨N0, p4⟩ := p4
                  obtain ⟨k1, k2⟩ := key z x hx N0
                  exact ⟨k1, by rw [k2]; exact p4⟩
                · cases jn
              | row z off len sz =>
                simp only [Bg] at jn
                split at jn
                · rename_i x hx
                  injection jn with jn; subst jn
                  obtain ⟨N0, p4⟩ := p4
                  obtain ⟨k1, k2⟩ := key z x hx N0
                  exact ⟨k1, by rw [k2]; exact p4⟩
                · cases jn
              | wj z off len sz ps =>
                simp only [Bg] at jn
                split at jn
                · rename_i x hx
                  injection jn with jn; subst jn
                  obtain ⟨us, q1, q2, ⟨u, q3, N0, q4⟩, q5⟩ := p4
                  obtain ⟨k1, k2⟩ := key z x hx N0
                  exact ⟨us, q1, q2, ⟨u, q3, k1, by rw [k2]; exact q4⟩, q5⟩
                · cases jn
          · cases bz
    · cases bz
  · cases bz
end
end Go.Proofs.YtllmkadmohkbfaaGreatDoor.Sym
