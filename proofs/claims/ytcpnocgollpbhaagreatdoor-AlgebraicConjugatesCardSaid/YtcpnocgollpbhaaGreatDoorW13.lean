/- Lemmas for the statements of this seat. -/
import Derived.Test.YtcpnocgollpbhaaGreatDoorW12
namespace Go.Proofs.YtcpnocgollpbhaaGreatDoor.Sym
open Go Go.RowKit
section
variable {P:Program} {T:kL} {Γ:Ctx} {s s':St} {a:Act} {w:World} {β:Nat→Option Nat} {I:Nat→Prop} {o:Oper} {h:Hint} {ob:List Prop}
theorem Mz {f : FuncId} (hc : l7 P f) {args : Array Operand} {N4 : Array TypeId} (uV : o.op = .call ⟨.value (.func f), args, N4⟩) : (execOp a.eval o).run P w = .ok (.enter f (args.map a.eval)) w := by
  obtain ⟨fn, h1, h2, h3⟩ := hc;have hb : fn.body ≠ none := by intro e; rw [e] at h2; cases h2
  have NZ : fn.name ≠ "runtime.NumGoroutine" := by simpa using h3
  simp [execOp, uV, resolve, Act.eval, Deferred.ofValue, invoke, callFunc, h1, NZ, hb]
def oc(env:Env):List Operand→Option (List PV)
 |[]=>some []
 |x::r=>match dh env x,oc env r with
  |some (.pv p),some ps=>some (p::ps)
  |_,_=>none
theorem zu(hr:df Γ s a w β I):∀(xs:List Operand) (ps:List PV),oc s.env xs=some ps→xs.length=ps.length∧∀(j:Nat) p x,ps[j]? = some p→xs[j]? = some x→Rd I w p (a.eval x)
 |[],ps,h=>by injection h with h;subst h;exact⟨rfl,fun j p x hp=>by simp at hp⟩
 |x::r,ps,h=>by
  unfold oc at h;split at h
  ·rename_i p qs hx hq;injection h with h;subst h
   obtain⟨h1,h2⟩:=zu hr r qs hq;refine⟨by simp[h1],fun j q y hj hy => ?_⟩;cases j with
   |zero=>simp at hj hy;subst hj hy;exact hr.G7 x _ hx
   |succ j=>exact h2 j q y (by simpa using hj) (by simpa using hy)
  ·cases h
def tz(P:Program)(n:Nat)(o:Oper)(h:Hint)(s:St):Option (St×List Prop) :=
 match o.op,h with
 |.call c,.pv r=>match c.callee,oc s.env c.args.toList with
  |.value (.func f),some ps=>bif lK n o.dst then some (⟨oY s.env o.dst (.pv r),s.aG⟩,[eu P f ps r]) else none
  |_,_=>none
 |_,_=>none
theorem uo(β:Nat→Option Nat)(I:Nat→Prop)(w:World):wX β I w [] :=
 ⟨fun r sc h=>(by rw[aS.get_nil] at h;cases h),fun r r' b h=>absurd h pQ⟩
theorem MA(hr:df Γ s a w β I){f:FuncId}{ps:List PV}{r:PV}{vs:Array Value}(hc:eu P f ps r)(hl:vs.size=ps.length)(hv:∀(j:Nat) p v,ps[j]? = some p→vs[j]? = some v→Rd I w p v) :
  Calls P f vs w fun e w'=>∃v,e = .returned v∧Ds w.heap.size w w'∧Rd (fun b=>I b∨fresh w w' b) w' r v:=by
 refine(hc.2 I w β vs hr.ib (uo _ _ _) (by simp[hl]) (fun j e v he G8 => ?_) hr.lay.nil).mono fun e w' hp => ?_
 ·rw[afT] at he;cases hj:ps[j]? with
  |none=>simp[hj] at he
  |some p =>simp[hj] at he;subst he;exact hv j p v hj G8
 ·obtain⟨v,β',rfl,_,hk,_,SN,_⟩:=hp;have Ay:∀x,¬bB [] x:=fun x h=>by exact pQ h
  refine⟨v,rfl,⟨⟨hk.os,hk.tape,hk.output,hk.size,fun k My=>hk.block k My (fun ⟨x,hx,_⟩=>Ay x hx)⟩,hk.drawn⟩,?_⟩;exact Rd.mono (I:=fun b=>I b∨((fresh w w' b∨Mv [] β b)∧∀x,bB [] x→β' x≠some b)) SN (fun b hb=>hb.imp id (fun h=>h.1.elim id (fun ⟨x,_,hx,_⟩=>absurd hx (Ay x)))) (fun _ _ _=>rfl)
theorem tA(hr:Rel Γ s a w)(aK:tz P Γ.n o h s=some (s',ob))(bT:dK ob){K:Act→World→Prop}{Q:Exit→Act→World→Prop}
  (hk:∀a' w',Rel Γ s' a' w'→K a' w'):o.wp P a w K Q:=by
 obtain⟨β,I,hr⟩:=hr;unfold tz at aK;split at aK
 ·rename_i c r uV;split at aK
  ·rename_i f ps rH oz;cases hd:lK Γ.n o.dst with
   |false=>simp[hd] at aK
   |true =>
    simp only[hd,cond_true] at aK;injection aK with aK;injection aK with h1 h2
    subst h1;subst h2;have hc:eu P f ps r:=bT;obtain⟨cl,args,N4⟩:=c;have rH:cl = .value (.func f):=rH;subst rH;obtain⟨hl,uT⟩:=zu hr args.toList ps oz;unfold Oper.wp;rw[Mz hc.1 uV];rw[Oper.upon_enter];refine(MA hr hc (vs:=args.map a.eval) (by simpa using hl) (fun j p v hp hv => ?_)).mono fun e w' Bg => ?_
    ·simp only[Array.getElem?_map] at hv;cases hx:args[j]? with
     |none=>simp[hx] at hv
     |some x =>simp[hx] at hv;subst hv;exact uT j p x hp (by simpa using hx)
    ·obtain⟨v,rfl,hb,SN⟩:=Bg;exact hk _ _ ⟨β,_,(hr.grow hb (fun b h => .inl h) (fun b h=>h)).put (fc hd) SN⟩
  ·cases aK
 ·cases aK
theorem df.Ub(h:df Γ s a w β I){t:Nat}{e:EV}(he:RE β (bB s.aG) I w e (a.tmps.getD t undef)):df Γ ⟨(t,e)::s.env,s.aG⟩ a w β I:=by
 refine⟨fun t' e' gQ => ?_,h.aG,h.par,h.new,h.ib,h.ii,h.aH,h.size,h.defers⟩;have gQ:Env.get ((t,e)::s.env) t'=some e':=gQ;simp only[Env.get] at gQ;cases hb:Nat.beq t t' with
 |true =>
  have:t=t':=ag0 hb;subst this;simp only[hb,cond_true] at gQ;injection gQ with gQ;subst gQ
  exact he
 |false =>simp only[hb,cond_false] at gQ;exact h.env t' e' gQ
theorem df.WD(h:df Γ s a w β I){b:Nat}(hb:b<w.heap.size)(hw:Γ.Nw b)(hs:∀x,bB s.aG x→β x≠some b):df Γ s a w β (fun x=>I x∨x=b):=by
 refine⟨fun t e he=>(h.env t e he).mono (fun _ _=>rfl) (fun _ h=>h) (fun _ h => .inl h) (fun _ _ _=>rfl) (fun _ _ _ _=>rfl),⟨fun r sc hr => ?_,h.aG.2⟩,h.par,h.new,fun x hx => ?_,fun x hx => ?_,h.aH,h.size,h.defers⟩
 ·obtain⟨g1,g2⟩:=h.aG.1 r sc hr;have yi:bB s.aG r:=by unfold bB;rw[hr];rfl
  refine⟨g1.mono rfl (fun _ _=>rfl) (fun _ _=>rfl) (fun _ h=>h) (fun _ h => .inl h) (fun _ _ _=>rfl) (fun _ _ _ _=>rfl),fun b' fw=>⟨(g2 b' fw).1,fun hx => ?_⟩⟩;rcases hx with hx|hx
  ·exact(g2 b' fw).2 hx
  ·subst hx;exact hs r yi fw
 ·rcases hx with hx|hx
  ·exact h.ib x hx
  ·subst hx;exact hb
 ·rcases hx with hx|hx
  ·exact h.ii x hx
  ·subst hx;exact .inr (hw.imp (fun h=>⟨h,hb⟩) id)
theorem Bt{L:Nat→Prop}{r len sz:Nat}{v:Value}{ps:List PV}{xs:List (List PV)}(hv:RE β L I w (.row r 0 len sz) v)(KP:RB β L I w r (ps.map EV.pv))(h1:len=xs.length)(h2:ps=xs.flatten)
  (h3:∀row∈xs,row.length=sz) {I':Nat→Prop} (hI:∀b,I b→I' b) (Zu:∀b,β r=some b→I' b):Rd I' w (.list xs) v:=by
 obtain⟨_,⟨_,rfl,rfl⟩|⟨b,c,hb,rfl,hc,_⟩⟩:=hv
 ·have:xs=[]:=afP h1.symm;subst this;exact .nil _ _
 ·obtain⟨arr,el,hg,_,Ag⟩:=vG KP hb;subst h1;subst h2;have key:∀(i j:Nat) row x,xs[i]? = some row→row[j]? = some x→∃u,arr[i*sz+j]? = some u∧u.oneCell'=true∧Rd I w x u:=fun i j row x hi hj=>Ag _ x (yd h3 hi hj)
  refine .list xs b 0 c sz (fun i j=>arr.getD (i*sz+j) undef) hc (Zu b hb) (fun i row hi=>h3 row (ag4 hi)) (fun i j row x hi hj => ?_) (fun i j row x hi hj => ?_)
  ·obtain⟨u,g1,g2,g3⟩:=key i j row x hi hj;refine⟨PV.lI g3 g2,?_⟩;rw[agQ,cell_of_row w b _ arr el (0,0) hg,g1];simp[Array.getD_eq_getD_getElem?,g1]
  ·obtain⟨u,g1,g2,g3⟩:=key i j row x hi hj;simp only[Array.getD_eq_getD_getElem?,g1,Option.getD_some];exact g3.mono hI (fun _ _ _=>rfl)
def Az(n t:Nat)(xs:List (List PV))(s:St):Option (St×List Prop) :=
 match s.env.get t with
 |some (.row r 0 len sz)=>match s.aG.get r with
  |some (.pure ps)=>bif Nat.blt r n&&Nat.blt t n then some (⟨(t,.pv (.list xs))::(kill r s).env,(kill r s).aG⟩,[len=xs.length,ps=xs.flatten,∀row∈xs,row.length=sz]) else none
  |_=>none
 |_=>none
theorem vh(hs:∀r,bB Γ.sin r→Γ.n≤r){t:Nat}{xs:List (List PV)}(hr:Rel Γ s a w)(aK:Az Γ.n t xs s=some (s',ob))(bT:dK ob):Rel Γ s' a w:=by
 obtain⟨β,I,hr⟩:=hr;unfold Az at aK;split at aK
 ·rename_i r len sz he;split at aK
  ·rename_i ps oz;cases hb:(Nat.blt r Γ.n&&Nat.blt t Γ.n) with
   |false=>simp[hb] at aK
   |true =>
    simp only[hb,cond_true] at aK;simp only[Bool.and_eq_true] at hb;have Rc:r<Γ.n:=afS hb.1;injection aK with aK;injection aK with h1 h2
    subst h1;subst h2;obtain⟨g1,bT⟩:=bT.cons;obtain⟨g2,g3⟩:=bT.cons;have hv:=hr.env t _ he;have KP:=(hr.aG.1 r _ oz).1;have yi:bB s.aG r:=by unfold bB;rw[oz];rfl
    have Hw:¬bB Γ.sin r:=fun h=>absurd (hs r h) (ahC Rc)
    cases ot:β r with
    |none=>exact⟨β,I,(hr.kill r).Ub (Bt hv KP g1 g2 g3 (fun _ h=>h) (fun b fw=>by rw[ot] at fw;cases fw))⟩
    |some b =>have hk:=(hr.kill r).WD (b:=b) ((hr.aG.1 r _ oz).2 b ot).1 (hr.new r b yi (.inl Hw) ot) (fun x hx e=>(eV.1 hx).2 (hr.aG.2 x r b (eV.1 hx).1 yi e ot));exact⟨β,_,hk.Ub (Bt hv KP g1 g2 g3 (fun _ h => .inl h) (fun b' fw=>by rw[ot] at fw;injection fw with fw;exact .inr fw.symm))⟩
  ·cases aK
 ·cases aK
def Ol(s:St)(o:Oper):Option St :=
 match o.op with
 |.call c=>match c.args.toList with
  |x::_=>match dh s.env x with
   |some (.row r _ len sz)=>match s.aG.get r with
    |some (.pure ps)=>some ⟨s.env,aS.set s.aG r (.pure (ps.take (len*sz)))⟩
    |_=>none
   |_=>none
  |_=>none
 |_=>none
theorem HE{s1:St}(hr:Rel Γ s a w)(h:Ol s o=some s1):Rel Γ s1 a w:=by
 unfold Ol at h;split at h
 ·split at h
  ·split at h
   ·split at h
    ·rename_i oz;injection h with h;subst h
     exact hr.cut oz
    ·cases h
   ·cases h
  ·cases h
 ·cases h
def Bu(T:kL)(n:Nat)(o:Oper)(h:Hint)(s:St):Option (St×List Prop) :=
 match h with
 |.fR l _ xs=>match xa T n o (.app l xs.flatten) s,o.dst with
  |some (s1,ND),some d=>match Az n d xs s1 with
   |some (s2,ob2)=>some (s2,ND++ob2)
   |none=>none
  |_,_=>none
 |.row l out=>match Ol s o with
  |some s1=>w8 JB T n o (.app l out) s1
  |none=>none
 |_=>xa T n o h s
theorem Bv(hT:n8 P T)(hs:∀r,bB Γ.sin r→Γ.n≤r)(hr:Rel Γ s a w)(aK:Bu T Γ.n o h s=some (s',ob))(bT:dK ob){K:Act→World→Prop}{Q:Exit→Act→World→Prop}
  (hk:∀a' w',Rel Γ s' a' w'→K a' w'):o.wp P a w K Q:=by
 unfold Bu at aK;split at aK
 ·rename_i l u xs;split at aK
  ·rename_i s1 ND d h1 hd;split at aK
   ·rename_i s2 ob2 h2;injection aK with aK;injection aK with e1 e2
    subst e1;subst e2;obtain⟨g1,g2⟩:=bT.app;exact tx hT hs hr h1 g1 (fun a' w' dI=>hk a' w' (vh hs dI h2 g2))
   ·cases aK
  ·cases aK
 ·rename_i l out;split at aK
  ·rename_i s1 h1;exact tv (fun hr=>Rg hr) hT hs (HE hr h1) aK bT hk
  ·cases aK
 ·exact tx hT hs hr aK bT hk
def assoc:List (Nat×Nat)→Nat→Option Nat
 |[],_=>none
 |(x',y)::r,x=>bif Nat.beq x' x then some y else assoc r x
def lh:List (Nat×Nat)→Nat→Option Nat
 |[],_=>none
 |(x,y')::r,y=>bif Nat.beq y' y then some x else lh r y
def yr:Option Nat→Nat→Bool
 |some x,y=>Nat.beq x y
 |none,_=>false
def jO:SC→Bool
 |.pure _=>true
 |.lit cs=>cs.all fun | .pv _=>true|_=>false
 |_=>false
def mY(aG:aS)(σ:List (Nat×Nat)):Bool :=
 σ.all fun p=>(Nat.blt p.1 999999&&Nat.blt p.2 999999)&&yr (assoc σ p.1) p.2&&yr (lh σ p.2) p.1&&(match aG.get p.1 with
  |some sc=>jO sc
  |none=>false)
def ma(aG:aS):List (Nat×Nat)→aS
 |[]=>[]
 |(x,y)::σ=>match aG.get x with
  |some sc=>(y,sc)::ma aG σ
  |none=>ma aG σ
def mb(σ:List (Nat×Nat))(sout:aS):aS→aS
 |[]=>[]
 |(x,sc)::aG=>(x,bif Nat.blt x 999999 then (match assoc σ x with
  |some y=>match aS.get sout y with
   |some sc'=>sc'
   |none=>sc
  |none=>sc) else sc)::mb σ sout aG
def uY(σ:Nat→Option Nat):EV→Option EV
 |.pv p=>some (.pv p)
 |.ptr x o=>match σ x with
  |some y=>some (.ptr y o)
  |none=>none
 |.row x o l z=>match σ x with
  |some y=>some (.row y o l z)
  |none=>none
 |.ox c=>some (.ox c)
 |.oy x o l z ps=>match σ x with
  |some y=>some (.oy y o l z ps)
  |none=>none
 |.Av f x=>match σ x with
  |some y=>some (.Av f y)
  |none=>none
 |.dead=>none
 |.ji .. => none
 |.n7 .. => none
 |.mW .. => none
def HF(nx:Bool)(env:Env)(x:Operand):Option EV :=
 match nx,x with
 |true,.const (.slice none 0 0)=>some (.pv .dX)
 |_,x=>dh env x
def WE:EV→Bool
 |.oy .. => true
 |.row .. => true
 |_=>false
theorem df.evX(hr:df Γ s a w β I)(nx:Bool)(x:Operand)(e:EV)(h:HF nx s.env x=some e):RE β (bB s.aG) I w e (a.eval x):=by
 unfold HF at h;split at h
 ·injection h with h;subst h;exact Rd.dX
 ·exact hr.G7 x e h
def Ee(nx:Bool)(env:Env)(σ:Nat→Option Nat):List Operand→Option (List EV)
 |[]=>some []
 |x::r=>match HF nx env x,Ee nx env σ r with
  |some e,some es=>match uY σ e with
   |some e'=>some (e'::es)
   |none=>none
  |_,_=>none
def Ri(σ:Nat→Option Nat)(env:Env):Operand→Option (FuncId×List EV)
 |.func f=>some (f,[])
 |x=>match dh env x with
  |some (.Av f r)=>match σ r with
   |some y=>some (f,[.ptr y 0])
   |none=>none
  |some (.pv (.fn f))=>some (f,[])
  |_=>none
def fG:List Nat→St→St
 |[],s=>s
 |r::rs,s=>fG rs (kill r s)
theorem df.fG:∀(rs:List Nat) {s:St},df Γ s a w β I→df Γ (fG rs s) a w β I
 |[],_,h=>h
 |r::rs,_,h=>df.fG rs (h.kill r)
theorem pS:∀(rs:List Nat) {s:St} {x:Nat},bB (fG rs s).aG x↔bB s.aG x∧x ∉ rs
 |[],s,x=>by simp[fG]
 |r::rs,s,x=>by show bB (fG rs (kill r s)).aG x↔_;rw[pS rs];show bB (dx r s.aG) x∧_↔_;rw[eV];simp only[List.mem_cons,not_or,and_assoc]
def vJ(x:Nat):Bool:=Nat.ble 200000 x
def givenBy(σ:List (Nat×Nat)):List Nat:=(σ.filter fun p=>vJ p.2).map (·.1)
def rb (P : Program) (n : Nat) (o : Oper) (h : Hint) (s : St) : Option (St × List Prop) :=
  match o.op, h with
  | .call c, .bG σ nw r sout => match c.callee with
    | .value g => match Ri (assoc σ) s.env g, Ee (WE r) s.env (assoc σ) c.args.toList with
     | some (f, ex), some es => bif lK n o.dst && mY s.aG σ && σ.all (fun p => bif vJ p.2 then Nat.blt p.1 n else (aS.get sout p.2).isSome) && sout.all (fun p => Nat.blt p.1 999999 && jO p.2 && (((lh σ p.1).isSome && !vJ p.1) || yr (nw.map (·.1)) p.1)) then
        match nw with
        | none => match uY (lh σ) r with
          | some r' => some (⟨oY (fG (givenBy σ) s).env o.dst r', mb σ sout (fG (givenBy σ) s).aG⟩, [au P f (es ++ ex) (ma s.aG σ) r sout])
          | none => none
        | some (y, d) => match aS.get sout y, s.aG.get d, lh σ y, uY (fun z => bif Nat.beq y z then some d else lh σ z) r with
          | some sc, none, none, some r' => bif Nat.blt d n then some (⟨oY (fG (givenBy σ) s).env o.dst r', (d, sc) :: mb σ sout (fG (givenBy σ) s).aG⟩, [au P f (es ++ ex) (ma s.aG σ) r sout]) else none
          | _, _, _, _ => none
      else none
     | _, _ => none
    | _ => none
  | _, _ => none
theorem jx:∀{σ:List (Nat×Nat)} {x y:Nat},assoc σ x=some y→(x,y)∈σ
 |[],x,y,h=>by cases h
 |(x',y')::r,x,y,h=>by
  simp only[assoc] at h;cases hb:Nat.beq x' x with
  |true =>have:x'=x:=ag0 hb;subst this;simp only[hb,cond_true] at h;injection h with h;subst h;simp
  |false =>simp only[hb,cond_false] at h;exact agm _ (jx h)
theorem jP:∀{σ:List (Nat×Nat)} {x y:Nat},lh σ y=some x→(x,y)∈σ
 |[],x,y,h=>by cases h
 |(x',y')::r,x,y,h=>by
  simp only[lh] at h;cases hb:Nat.beq y' y with
  |true =>have:y'=y:=ag0 hb;subst this;simp only[hb,cond_true] at h;injection h with h;subst h;simp
  |false =>simp only[hb,cond_false] at h;exact agm _ (jP h)
theorem aS.xb:∀{aG:aS} {y:Nat} {sc:SC},aS.ej aG y=some sc→(y,sc)∈aG
 |[],y,sc,h=>by cases h
 |(y',sc')::r,y,sc,h=>by
  simp only[aS.ej] at h;cases hb:Nat.beq y' y with
  |true =>have:y'=y:=ag0 hb;subst this;simp only[hb,cond_true] at h;injection h with h;subst h;simp
  |false =>simp only[hb,cond_false] at h;exact agm _ (aS.xb h)
theorem aS.get_mem{aG:aS}{y:Nat}{sc:SC}(h:aS.get aG y=some sc):(y,sc)∈aG∨(1000000≤y∧∃xs,(999999,SC.heap xs)∈aG):=by
 rcases Hg y with hy|rfl|⟨j,rfl⟩
 ·rw[aS.k8 hy] at h;exact .inl (aS.xb h)
 ·rw[aS.gY] at h;cases h
 ·right;refine⟨by unfold hc;omega,?_⟩;rw[aS.lX] at h;unfold aS.hp at h;split at h
  ·rename_i xs hg;exact⟨xs,aS.xb hg⟩
  ·simp[rR] at h
theorem aS.HG{aG:aS}(MB:∀p∈aG,p.1<999999){y:Nat}{sc:SC}(h:aS.get aG y=some sc):(y,sc)∈aG:=by
 rcases aS.get_mem h with h|⟨_,xs,h⟩
 ·exact h
 ·have:=MB _ h;simp at this
theorem yu{o:Option Nat}{y:Nat}(h:yr o y=true):o=some y:=by
 cases o with
 |none=>cases h
 |some x=>rw[ag0 h]
theorem yv{aG:aS}{σ:List (Nat×Nat)}(h:mY aG σ=true){x y:Nat}(hm:(x,y)∈σ):x<999999∧y<999999:=by unfold mY at h;rw[agy] at h;have:=h (x,y) hm;simp only[Bool.and_eq_true] at this;exact⟨afS this.1.1.1.1,afS this.1.1.1.2⟩
theorem eO{aG:aS}{σ:List (Nat×Nat)}(h:mY aG σ=true){x y:Nat}(hm:(x,y)∈σ) :
  assoc σ x=some y∧lh σ y=some x∧∃sc,aG.get x=some sc∧jO sc=true:=by
 unfold mY at h;rw[agy] at h;have:=h (x,y) hm;simp only[Bool.and_eq_true] at this;obtain⟨⟨⟨_,h1⟩,h2⟩,h3⟩:=this;refine⟨yu h1,yu h2,?_⟩;split at h3
 ·rename_i sc oP;exact⟨sc,oP,h3⟩
 ·cases h3
theorem nM{aG:aS}{σ0:List (Nat×Nat)}(o5:mY aG σ0=true):∀(σ:List (Nat×Nat)),(∀p∈σ,p∈σ0)→∀(y:Nat) sc,(ma aG σ).get y=some sc→∃x,lh σ0 y=some x∧assoc σ0 x=some y∧aG.get x=some sc
 |[],_,y,sc,h=>by rw[ma,aS.get_nil] at h;cases h
 |(x,y')::σ,hm,y,sc,h=>by
  obtain⟨g1,g2,KT,g3,_⟩:=eO o5 (hm (x,y') (by simp));simp only[ma,g3] at h;rw[aS.kM (yv o5 (hm (x,y') (by simp))).2] at h;cases hb:Nat.beq y' y with
  |true =>
   have:y'=y:=ag0 hb;subst this;simp only[hb,cond_true] at h;injection h with h;subst h
   exact⟨x,g2,g1,g3⟩
  |false =>simp only[hb,cond_false] at h;exact nM o5 σ (fun p hp=>hm p (by simp[hp])) y sc h
theorem jl{aG:aS}{σ0:List (Nat×Nat)}(o5:mY aG σ0=true):∀(σ:List (Nat×Nat)),(∀p∈σ,p∈σ0)→∀x y,(x,y)∈σ→bB (ma aG σ) y
 |[],_,x,y,h=>by cases h
 |(x',y')::σ,hm,x,y,h=>by
  obtain⟨g1,g2,KT,g3,_⟩:=eO o5 (hm (x',y') (by simp));have hy9:=(yv o5 (hm (x',y') (by simp))).2;simp only[ma,g3];rcases agp.1 h with h|h
  ·injection h with h1 h2;subst h2
   exact(dL hy9).2 (.inl rfl)
  ·exact(dL hy9).2 (.inr (jl o5 σ (fun p hp=>hm p (by simp[hp])) x y h))
theorem tB(σ:List (Nat×Nat))(sout:aS):∀(aG:aS) (x:Nat),(mb σ sout aG).ej x=(aG.ej x).map (fun sc=>bif Nat.blt x 999999 then (match assoc σ x with
  |some y=>match aS.get sout y with
   |some sc'=>sc'
   |none=>sc
  |none=>sc) else sc)
 |[],x=>rfl
 |(x',sc)::aG,x=>by
  simp only[mb,aS.ej];cases hb:Nat.beq x' x with
  |true =>have:x'=x:=ag0 hb;subst this;rfl
  |false=>exact tB σ sout aG x
theorem Bw(σ:List (Nat×Nat))(sout aG:aS)(x:Nat):(mb σ sout aG).get x=(aG.get x).map (fun sc=>bif Nat.blt x 999999 then (match assoc σ x with
  |some y=>match aS.get sout y with
   |some sc'=>sc'
   |none=>sc
  |none=>sc) else sc):=by
 rcases Hg x with h|rfl|⟨j,rfl⟩
 ·rw[aS.k8 h,aS.k8 h,tB]
 ·rw[aS.gY,aS.gY];rfl
 ·rw[aS.lX,aS.lX,show Nat.blt (hc j) 999999=false from ahv.2 (fun h=>by have:=afS h;unfold hc at this;omega)];unfold aS.hp;rw[tB];cases aG.ej 999999 with
  |none=>simp[rR]
  |some sc =>
   simp only[Option.map_some,show Nat.blt 999999 999999=false from rfl,cond_false];cases rR (match some sc with
    |some (SC.heap xs)=>xs
    |_=>[]) j<;>rfl
theorem kc{σ:List (Nat×Nat)}{sout aG:aS}{x:Nat} : bB (mb σ sout aG) x↔bB aG x:=by unfold bB;rw[Bw];simp
theorem DF{sc:SC}(h:jO sc=true):∀e∈sc.rI,∃p,e = .pv p:=by
 intro e he;cases sc with
 |pure ps =>obtain⟨p,_,rfl⟩:=agI.1 he;exact⟨p,rfl⟩
 |lit cs =>unfold jO at h;rw[agy] at h;have:=h e he;cases e<;>first|exact⟨_,rfl⟩|cases this
 |heap _=>cases h
 |Jl _ _=>cases h
 |Jm _ _=>cases h
theorem RB.closed{β β':Nat→Option Nat}{L L' I I':Nat→Prop}{w:World}{r r':Nat}{sc:SC}(hc:jO sc=true)(h:RB β L I w r sc.rI)(hb:β' r'=β r)(hI:∀b,I b→I' b):RB β' L' I' w r' sc.rI:=by
 rcases h with ⟨h1,h2⟩|⟨b,arr,el,h1,h2,h3⟩
 ·exact .inl ⟨hb.trans h1,h2⟩
 ·refine .inr ⟨b,arr,el,hb.trans h1,h2,fun j e he => ?_⟩;obtain⟨u,g1,g2,g3⟩:=h3 j e he;obtain⟨p,rfl⟩:=DF hc e (ag4 he);exact⟨u,g1,g2,Rd.mono g3 hI (fun _ _ _=>rfl)⟩
def βX(β:Nat→Option Nat)(σ:List (Nat×Nat))(y:Nat):Option Nat:=(lh σ y).bind β
theorem df.given(hr:df Γ s a w β I){σ:List (Nat×Nat)}{s1:St}(s9:∀x,bB s1.aG x→bB s.aG x)(JC:∀x y,bB s1.aG x→assoc σ x=some y→¬gv y)
  (Om:∀x y b,assoc σ x=some y→gv y→bB s.aG x→β x=some b→Γ.Nw b) (o5:mY s.aG σ=true) {b:Nat} (h:Mv (ma s.aG σ) (βX β σ) b):Γ.Nw b∧b<w.heap.size∧∀x,bB s1.aG x→β x≠some b:=by
 obtain⟨y,hg,hy,Jw⟩:=h;obtain⟨sc,oP⟩:=agk.1 hy;obtain⟨x,g1,g2,g3⟩:=nM o5 σ (fun p hp=>hp) y sc oP;unfold βX at Jw;rw[g1] at Jw;have h2:bB s.aG x:=by unfold bB;rw[g3];rfl
 refine⟨Om x y b g2 hg h2 Jw,hr.lb x b h2 Jw,fun x' x6 e => ?_⟩;have:=hr.aG.2 x x' b h2 (s9 x' x6) Jw e;subst this;exact JC x y x6 g2 hg
theorem df.handed (hr : df Γ s a w β I) {σ : List (Nat × Nat)} {s1 : St} (wQ : df Γ s1 a w β I) (s9 : ∀ x, bB s1.aG x → bB s.aG x) (JC : ∀ x y, bB s1.aG x → assoc σ x = some y → ¬ gv y)
    (Om : ∀ x y b, assoc σ x = some y → gv y → bB s.aG x → β x = some b → Γ.Nw b) {sout : aS} {β' : Nat → Option Nat} {w' : World} {I' : Nat → Prop} (o5 : mY s.aG σ = true) (Dw : ∀ p ∈ σ, ¬ gv p.2 → bB sout p.2)
    (hb : ∀ y, bB (ma s.aG σ) y → ¬ gv y → β' y = βX β σ y) (hk : lJ (fun b => ∃ y, bB (ma s.aG σ) y ∧ βX β σ y = some b) w w')
    (On : ∀ y sc, aS.get sout y = some sc → jO sc = true ∧ RB β' (bB sout) I' w' y sc.rI ∧ ∀ b, β' y = some b → ¬ I' b) (hI1 : ∀ b, I b → I' b) (Zv : ∀ b, I' b → I b ∨ fresh w w' b ∨ Mv (ma s.aG σ) (βX β σ) b) :
    df Γ ⟨s1.env, mb σ sout s1.aG⟩ a w' β I' := by
  have pR : ∀ b y, bB (ma s.aG σ) y → βX β σ y = some b → ∃ x, assoc σ x = some y ∧ bB s.aG x ∧ β x = some b := by intro b y hy Jw;obtain ⟨sc, oP⟩ := agk.1 hy;obtain ⟨x, g1, g2, g3⟩ := nM o5 σ (fun p hp => hp) y sc oP;unfold βX at Jw;rw [g1] at Jw;exact ⟨x, g2, by unfold bB; rw [g3]; rfl, Jw⟩
  have hIM : ∀ b, I b → ¬ ∃ y, bB (ma s.aG σ) y ∧ βX β σ y = some b := by intro b hI ⟨y, hy, Jw⟩;obtain ⟨x, _, hd, QL⟩ := pR b y hy Jw;obtain ⟨sc, oP⟩ := agk.1 hd;exact ((hr.aG.1 x sc oP).2 b QL).2 hI
  have Zw : ∀ b, Mv (ma s.aG σ) (βX β σ) b → Γ.Nw b ∧ b < w.heap.size ∧ ∀ x, bB s1.aG x → β x ≠ some b := fun b h => hr.given s9 JC Om o5 h
  have hw : ∀ b o, I b → w'.cell? ⟨b, o, none⟩ = w.cell? ⟨b, o, none⟩ := fun b o hI => hZ (hk.block b (hr.ib b hI) (hIM b hI)) o
  have hL : ∀ x, bB s1.aG x → bB (mb σ sout s1.aG) x := fun x hx => kc.2 hx
  have D7 : ∀ r b, bB s1.aG r → β r = some b → w'.shape? b = w.shape? b := fun r b hd fw => hk.shape b (wQ.lb r b hd fw)
  refine ⟨fun t e he => (wQ.env t e he).mono (fun _ _ => rfl) hL hI1 hw D7, ⟨fun x sc hx => ?_, fun x y b hx hy => wQ.aG.2 x y b (kc.1 hx) (kc.1 hy)⟩,
    fun x hx => wQ.par x (kc.1 hx), fun x b hx => wQ.new x b (kc.1 hx), fun b hI => ?_, fun b hI => ?_, ?_, wQ.size, wQ.defers⟩
  · have hx : (mb σ sout s1.aG).get x = some sc := hx;rw [Bw] at hx;cases hg : s1.aG.get x with
    | none => rw [hg] at hx; cases hx
    | some KT =>
      rw [hg] at hx;simp only [Option.map_some, Option.some.injEq] at hx;obtain ⟨k1, k2⟩ := wQ.aG.1 x KT hg;have Ja : bB s1.aG x := by unfold bB; rw [hg]; rfl
      have YE : Nat.blt x 999999 = false → assoc σ x = none := fun hb => by
        cases ha : assoc σ x with
        | none => rfl
        | some y => rw [show Nat.blt x 999999 = true from ahi (yv o5 (jx ha)).1] at hb; cases hb
      have hx : (match assoc σ x with
        | some y => match aS.get sout y with
          | some sc' => sc'
          | none => KT
        | none => KT) = sc := by
        cases hb : Nat.blt x 999999 with
        | true => rw [hb] at hx; exact hx
        | false => rw [hb] at hx; rw [YE hb]; exact hx
      cases ha : assoc σ x with
      | some y =>
        have hm := jx ha;have SR := JC x y Ja ha;obtain ⟨_, hay, _⟩ := eO o5 hm;obtain ⟨sc', MC⟩ := agk.1 (Dw (x, y) hm SR);simp only [ha, MC] at hx;subst hx;obtain ⟨c1, c2, c3⟩ := On y sc' MC;have SQ : β' y = β x := by rw [hb y (jl o5 σ (fun p hp => hp) x y hm) SR];unfold βX; rw [hay]; rfl
        exact ⟨c2.closed c1 SQ.symm (fun _ h => h), fun b fw => ⟨agA (k2 b fw).1 hk.size, c3 b (SQ.trans fw)⟩⟩
      | none =>
        simp only [ha] at hx;subst hx;refine ⟨k1.mono rfl (fun b fw => hk.block b (wQ.lb x b Ja fw) (fun hM => ?_)) (fun _ _ => rfl) hL hI1 hw D7, fun b fw => ⟨agA (k2 b fw).1 hk.size, fun hI => ?_⟩⟩
        · obtain ⟨y2, Zx, Zy⟩ := hM;obtain ⟨x2, h1, h2, h3⟩ := pR b y2 Zx Zy;have := hr.aG.2 x x2 b (s9 x Ja) h2 fw h3;subst this;rw [ha] at h1; cases h1
        · rcases Zv b hI with h | h | h
          · exact (k2 b fw).2 h
          · have := (k2 b fw).1; have := h.1; omega
          · exact (Zw b h).2.2 x Ja fw
  · rcases Zv b hI with h | h | h
    · exact agA (hr.ib b h) hk.size
    · exact h.2
    · exact agA (Zw b h).2.1 hk.size
  · rcases Zv b hI with h | h | h
    · rcases hr.ii b h with h3 | h3
      · exact .inl h3
      · exact .inr (h3.imp (fun h3 => ⟨h3.1, agA h3.2 hk.size⟩) id)
    · exact .inr (.inl ⟨ag3 hr.aH.size h.1, h.2⟩)
    · obtain ⟨h1, h2, _⟩ := Zw b h;exact .inr (h1.imp (fun h1 => ⟨h1, agA h2 hk.size⟩) id)
  · refine hr.aH.trans hk (fun b bH hM => ?_);obtain ⟨y, hy, Jw⟩ := hM;obtain ⟨x, _, hd, QL⟩ := pR b y hy Jw;by_cases HH : bB Γ.sin x ∧ ¬ gv x
    · exact ⟨x, HH.1, by rw [← hr.par x hd HH.1 HH.2]; exact QL⟩
    · exact (hr.new x b hd (by by_cases h : bB Γ.sin x; · exact .inr (afV fun h2 => HH ⟨h, h2⟩)
                               · exact .inl h) QL).m bH
theorem Bx(nx:Bool)(hr:df Γ s a w β I){σ:List (Nat×Nat)}(o5:mY s.aG σ=true):∀(xs:List Operand) (es:List EV),Ee nx s.env (assoc σ) xs=some es→xs.length=es.length ∧
  ∀(j:Nat) e x,es[j]? = some e→xs[j]? = some x→RE (βX β σ) (bB (ma s.aG σ)) I w e (a.eval x)
 |[],es,h=>by injection h with h;subst h;exact⟨rfl,fun j p x hp=>by simp at hp⟩
 |x::r,es,h=>by
  unfold Ee at h;split at h
  ·rename_i e Wb he Nu;split at h
   ·rename_i e' gQ;injection h with h;subst h
    obtain⟨h1,h2⟩:=Bx nx hr o5 r Wb Nu;refine⟨by simp[h1],fun j q y hj hy => ?_⟩;cases j with
    |zero =>
     simp at hj hy;subst hj hy;have hx:=hr.evX nx x _ he;cases e with
     |pv p=>injection gQ with gQ;subst gQ;exact hx
     |ox c=>injection gQ with gQ;subst gQ;exact hx
     |dead=>cases gQ
     |ji _ _ _=>cases gQ
     |n7 _ _=>cases gQ
     |mW _=>cases gQ
     |ptr z off =>
      simp only[uY] at gQ;split at gQ
      ·rename_i y hy;injection gQ with gQ;subst gQ
       have hm:=jx hy;obtain⟨_,hR,_⟩:=eO o5 hm;obtain⟨_,b,hb,hv⟩:=hx;exact⟨jl o5 σ (fun p hp=>hp) z y hm,b,by unfold βX;rw[hR];exact hb,hv⟩
      ·cases gQ
     |Av g z =>
      simp only[uY] at gQ;split at gQ
      ·rename_i y hy;injection gQ with gQ;subst gQ
       have hm:=jx hy;obtain⟨_,hR,_⟩:=eO o5 hm;obtain⟨_,b,hb,hv⟩:=hx;exact⟨jl o5 σ (fun p hp=>hp) z y hm,b,by unfold βX;rw[hR];exact hb,hv⟩
      ·cases gQ
     |row z off len sz =>
      simp only[uY] at gQ;split at gQ
      ·rename_i y hy;injection gQ with gQ;subst gQ
       have hm:=jx hy;obtain⟨_,hR,_⟩:=eO o5 hm;have QM:βX β σ y=β z:=by unfold βX;rw[hR];rfl
       obtain⟨_,hx⟩:=hx;exact⟨jl o5 σ (fun p hp=>hp) z y hm,by rw[QM];exact hx⟩
      ·cases gQ
     |oy z off len sz ps =>
      simp only[uY] at gQ;split at gQ
      ·rename_i y hy;injection gQ with gQ;subst gQ
       have hm:=jx hy;obtain⟨_,hR,_⟩:=eO o5 hm;have QM:βX β σ y=β z:=by unfold βX;rw[hR];rfl
       obtain⟨us,g1,g2,⟨u,g3,_,g4⟩,g5⟩:=hx;exact⟨us,g1,g2,⟨u,g3,jl o5 σ (fun p hp=>hp) z y hm,by rw[QM];exact g4⟩,g5⟩
      ·cases gQ
    |succ j=>exact h2 j q y (by simpa using hj) (by simpa using hy)
   ·cases h
  ·cases h
theorem MD(hr:df Γ s a w β I){σ:List (Nat×Nat)}(o5:mY s.aG σ=true){g:Operand}{f:FuncId}{ex:List EV}(h:Ri (assoc σ) s.env g=some (f,ex)) :
  ∃cap:Array Value,a.eval g = .func (.func f) #[] cap∧ex.length=cap.size∧∀(j:Nat) e v,ex[j]? = some e→cap[j]? = some v→RE (βX β σ) (bB (ma s.aG σ)) I w e v:=by
 unfold Ri at h;split at h
 ·rename_i f';injection h with h;injection h with h1 h2
  subst h1;subst h2;exact⟨#[],by simp[Act.eval],rfl,fun j e v he=>by simp at he⟩
 ·split at h
  ·rename_i f' r he;split at h
   ·rename_i y hy;injection h with h;injection h with h1 h2
    subst h1;subst h2;obtain⟨_,b,hb,hv⟩:=hr.G7 g _ he;have hm:=jx hy;obtain⟨_,hR,_⟩:=eO o5 hm;refine⟨#[.pointer (some ⟨b,0,none⟩)],hv,rfl,fun j e v he hv => ?_⟩;cases j with
    |zero =>simp at he hv;subst he;subst hv;exact⟨jl o5 σ (fun p hp=>hp) r y hm,b,by unfold βX;rw[hR];exact hb,rfl⟩
    |succ j=>simp at he
   ·cases h
  ·rename_i f' he;injection h with h;injection h with h1 h2
   subst h1;subst h2;have hv:Rd I w (.fn f') (a.eval g):=hr.G7 g _ he;refine⟨#[],?_,rfl,fun j e v he=>by simp at he⟩;generalize a.eval g=v at hv;cases hv;rfl
  ·cases h
theorem JD {f : FuncId} (hc : l7 P f) {g : Operand} {cap : Array Value} (hv : a.eval g = .func (.func f) #[] cap) {args : Array Operand} {N4 : Array TypeId} (uV : o.op = .call ⟨.value g, args, N4⟩) :
    (execOp a.eval o).run P w = .ok (.enter f (args.map a.eval ++ cap)) w := by
  obtain ⟨fn, h1, h2, h3⟩ := hc;have hb : fn.body ≠ none := by intro e; rw [e] at h2; cases h2
  have NZ : fn.name ≠ "runtime.NumGoroutine" := by simpa using h3
  simp [execOp, uV, resolve, hv, Deferred.ofValue, invoke, callFunc, h1, NZ, hb]
theorem sS (hs : ∀ r, bB Γ.sin r → Γ.n ≤ r) (hr : Rel Γ s a w) (aK : rb P Γ.n o h s = some (s', ob)) (bT : dK ob) {K : Act → World → Prop} {Q : Exit → Act → World → Prop}
    (hk : ∀ a' w', Rel Γ s' a' w' → K a' w') : o.wp P a w K Q := by
  obtain ⟨β, I, hr⟩ := hr;unfold rb at aK;split at aK
  · rename_i c σ nw r sout uV;split at aK
    case h_2 => cases aK
    rename_i g rH;split at aK
    · rename_i f ex es hg Nu;cases hd : (lK Γ.n o.dst && mY s.aG σ && σ.all (fun p => bif vJ p.2 then Nat.blt p.1 Γ.n else (aS.get sout p.2).isSome) && sout.all (fun p => Nat.blt p.1 999999 && jO p.2 && (((lh σ p.1).isSome && !vJ p.1) || yr (nw.map (·.1)) p.1))) with
      | false => simp [hd] at aK
      | true =>
        simp only [hd, cond_true] at aK;simp only [Bool.and_eq_true] at hd;obtain ⟨⟨⟨d1, d2⟩, d3⟩, d4⟩ := hd;rw [agy] at d3 d4;obtain ⟨cl, args, N4⟩ := c;have rH : cl = .value g := rH;subst rH;obtain ⟨cap, Zz, ZA, WG⟩ := MD hr d2 hg;obtain ⟨hl, uT⟩ := Bx _ hr d2 args.toList es Nu;have WH : wX (βX β σ) I w (ma s.aG σ) := by
          refine ⟨fun y sc hy => ?_, fun y y' b hy Jc h1 h2 => ?_⟩
          · obtain ⟨x, g1, g2, g3⟩ := nM d2 σ (fun p hp => hp) y sc hy;obtain ⟨_, _, sc1, g4, g5⟩ := eO d2 (jP g1);rw [g3] at g4; injection g4 with g4; subst g4
            have QM : βX β σ y = β x := by unfold βX; rw [g1]; rfl
            obtain ⟨k1, k2⟩ := hr.aG.1 x sc g3;exact ⟨k1.closed g5 QM (fun _ h => h), fun b hb => k2 b (QM.symm.trans hb)⟩
          · obtain ⟨sc, oP⟩ := agk.1 hy;obtain ⟨sc', MC⟩ := agk.1 Jc;obtain ⟨x, g1, g2, g3⟩ := nM d2 σ (fun p hp => hp) y sc oP;obtain ⟨x', Oo, Nz, YF⟩ := nM d2 σ (fun p hp => hp) y' sc' MC;have e1 : β x = some b := by unfold βX at h1; rw [g1] at h1; exact h1
            have e2 : β x' = some b := by unfold βX at h2; rw [Oo] at h2; exact h2
            have := hr.aG.2 x x' b (by unfold bB; rw [g3]; rfl) (by unfold bB; rw [YF]; rfl) e1 e2;subst this;rw [g2] at Nz; injection Nz with Nz
        have ZB : tn (ma s.aG σ) (βX β σ) w := hr.lay.sub (fun y b hy hb => by obtain ⟨sc, oP⟩ := agk.1 hy;obtain ⟨x, g1, g2, g3⟩ := nM d2 σ (fun p hp => hp) y sc oP;exact ⟨x, by unfold bB; rw [g3]; rfl, by unfold βX at hb; rw [g1] at hb; exact hb⟩)
        have fin : ∀ (hc : au P f (es ++ ex) (ma s.aG σ) r sout) {s2 : St}, (∀ v w' β', lJ (fun b => ∃ y, bB (ma s.aG σ) y ∧ βX β σ y = some b) w w' → (∀ y, bB (ma s.aG σ) y → ¬ gv y → β' y = βX β σ y) →
              wX β' (fun b => I b ∨ ((fresh w w' b ∨ Mv (ma s.aG σ) (βX β σ) b) ∧ ∀ x, bB sout x → β' x ≠ some b)) w' sout → RE β' (bB sout) (fun b => I b ∨ ((fresh w w' b ∨ Mv (ma s.aG σ) (βX β σ) b) ∧ ∀ x, bB sout x → β' x ≠ some b)) w' r v →
              (∀ x b, bB sout x → ¬ bB (ma s.aG σ) x → β' x = some b → fresh w w' b ∨ Mv (ma s.aG σ) (βX β σ) b) → Rel Γ s2 (a.put o.dst v) w') → (∀ a' w', Rel Γ s2 a' w' → K a' w') → o.wp P a w K Q := by
          intro hc s2 JE hk;unfold Oper.wp;rw [JD hc.1 Zz uV];rw [Oper.upon_enter];have Mx : args.size = es.length := by simpa using hl
          refine (hc.2 I w (βX β σ) (args.map a.eval ++ cap) hr.ib WH (by rw [agB, aib, ajw, Mx, ZA]) (fun j e v he hv => ?_) ZB).mono fun e w' hp => ?_
          · by_cases hj : j < es.length
            · rw [ahz hj] at he;rw [aiN (by rw [ajw]; omega), aj1] at hv;cases hx : args[j]? with
              | none => simp [hx] at hv
              | some x =>simp [hx] at hv;subst hv;exact uT j e x he (by simpa using hx)
            · rw [aha (by omega)] at he;rw [Array.getElem?_append_right (by rw [ajw]; omega), ajw, Mx] at hv;exact WG _ e v he hv
          · obtain ⟨v, β', rfl, p1, p2, p3, p4, p5⟩ := hp;exact hk _ _ (JE v w' β' p2 p1 p3 p4 p5)
        have MB : ∀ p ∈ sout, p.1 < 999999 := fun p hp => by have := d4 p hp;simp only [Bool.and_eq_true] at this;exact afS this.1.1
        have Uc : ∀ y sc, aS.get sout y = some sc → jO sc = true := by
          intro y sc hy;obtain ⟨p, hp, h1⟩ : ∃ p ∈ sout, p.2 = sc := by exact ⟨(y, sc), aS.HG MB hy, rfl⟩
          have := d4 p hp;simp only [Bool.and_eq_true] at this;rw [← h1]; exact this.1.2
        have WI : ∀ y, vJ y = true ↔ gv y := fun y => ⟨afS, ahi⟩
        have SS : ∀ p ∈ σ, ¬ gv p.2 → bB sout p.2 := fun p hp hg => by have := d3 p hp;rw [ahv.2 (fun h => hg ((WI _).1 h)), agf] at this;exact this
        have wQ := hr.fG (givenBy σ);have s9 : ∀ x, bB (fG (givenBy σ) s).aG x → bB s.aG x := fun x hx => ((pS _).1 hx).1
        have JC : ∀ x y, bB (fG (givenBy σ) s).aG x → assoc σ x = some y → ¬ gv y := fun x y hx ha hg => ((pS _).1 hx).2 (agI.2 ⟨(x, y), ain.2 ⟨jx ha, (WI y).2 hg⟩, rfl⟩)
        have Om : ∀ x y b, assoc σ x = some y → gv y → bB s.aG x → β x = some b → Γ.Nw b := fun x y b ha hg Ja hb => by have := d3 _ (jx ha);rw [(WI y).2 hg, afZ] at this;exact hr.new x b Ja (.inl (fun h => absurd (hs x h) (ahC (afS this)))) hb
        have oZ : ∀ x y, lh σ y = some x → bB sout y → ¬ yr (nw.map (·.1)) y = true → bB (fG (givenBy σ) s).aG x ∧ ¬ gv y := by
          intro x y hx hy et;obtain ⟨sc, oP⟩ := agk.1 hy;have := d4 _ (aS.HG MB oP);simp only [Bool.and_eq_true, Bool.or_eq_true, Bool.not_eq_true'] at this;have SR : ¬ gv y := fun hg => by
            rcases this.2 with h | h
            · rw [(WI y).2 hg] at h; exact absurd h.2 (by simp)
            · exact et h
          obtain ⟨e1, _, ZC, e2, _⟩ := eO d2 (jP hx);refine ⟨(pS _).2 ⟨by unfold bB; rw [e2]; rfl, fun hm => ?_⟩, SR⟩;obtain ⟨⟨x', y'⟩, hm1, ZD⟩ := agI.1 hm;obtain ⟨hm3, hm4⟩ := ain.1 hm1;have ZD : x' = x := ZD;subst ZD;obtain ⟨e3, _⟩ := eO d2 hm3;rw [e1] at e3; injection e3 with e3; subst e3
          exact SR ((WI _).1 hm4)
        split at aK
        · split at aK
          · rename_i r' dI;injection aK with aK; injection aK with h1 h2
            subst h1; subst h2;refine fin bT (fun v w' β' p2 p1 p3 p4 p5 => ?_) hk;have hh := hr.handed wQ s9 JC Om (sout := sout) d2 SS p1 p2 (fun y sc hy => ⟨Uc y sc hy, (p3.1 y sc hy).1, fun b hb => ((p3.1 y sc hy).2 b hb).2⟩) (fun b hb => .inl hb) (fun b hb => hb.imp id (fun h => h.1));refine ⟨β, _, hh.put (fc d1) ?_⟩;cases r with
            | pv p => injection dI with dI; subst dI; exact p4
            | ox c => injection dI with dI; subst dI; exact p4
            | dead => cases dI
            | ji _ _ _ => cases dI
            | n7 _ _ => cases dI
            | mW _ => cases dI
            | ptr y off =>
              simp only [uY] at dI;split at dI
              · rename_i x hx;injection dI with dI; subst dI
                have hm := jP hx;obtain ⟨Ud, b, hb, hv⟩ := p4;obtain ⟨k1, k2⟩ := oZ x y hx Ud (by simp [yr]);exact ⟨kc.2 k1, b, by rw [p1 y (jl d2 σ (fun p hp => hp) x y hm) k2] at hb; unfold βX at hb; rw [hx] at hb; exact hb, hv⟩
              · cases dI
            | Av g y =>
              simp only [uY] at dI;split at dI
              · rename_i x hx;injection dI with dI; subst dI
                have hm := jP hx;obtain ⟨Ud, b, hb, hv⟩ := p4;obtain ⟨k1, k2⟩ := oZ x y hx Ud (by simp [yr]);exact ⟨kc.2 k1, b, by rw [p1 y (jl d2 σ (fun p hp => hp) x y hm) k2] at hb; unfold βX at hb; rw [hx] at hb; exact hb, hv⟩
              · cases dI
            | row y off len sz =>
              simp only [uY] at dI;split at dI
              · rename_i x hx;injection dI with dI; subst dI
                have hm := jP hx;obtain ⟨Ud, p4⟩ := p4;obtain ⟨k1, k2⟩ := oZ x y hx Ud (by simp [yr]);have QM : β' y = β x := by rw [p1 y (jl d2 σ (fun p hp => hp) x y hm) k2]; unfold βX; rw [hx]; rfl
                exact ⟨kc.2 k1, by rw [← QM]; exact p4⟩
              · cases dI
            | oy y off len sz ps =>
              simp only [uY] at dI;split at dI
              · rename_i x hx;injection dI with dI; subst dI
                have hm := jP hx;obtain ⟨us, q1, q2, ⟨u, q3, Ud, q4⟩, q5⟩ := p4;obtain ⟨k1, k2⟩ := oZ x y hx Ud (by simp [yr]);have QM : β' y = β x := by rw [p1 y (jl d2 σ (fun p hp => hp) x y hm) k2]; unfold βX; rw [hx]; rfl
                exact ⟨us, q1, q2, ⟨u, q3, kc.2 k1, by rw [← QM]; exact q4⟩, q5⟩
              · cases dI
          · cases aK
        · rename_i y d;split at aK
          · rename_i sc r' oP ve hnR dI;cases vf : Nat.blt d Γ.n with
            | false => simp [vf] at aK
            | true =>
              simp only [vf, cond_true] at aK;have WJ : d < Γ.n := afS vf;injection aK with aK; injection aK with h1 h2
              subst h1; subst h2;refine fin bT (fun v w' β' p2 p1 p3 p4 p5 => ?_) hk;have hh := hr.handed wQ s9 JC Om (sout := sout) d2 SS p1 p2 (fun y sc hy => ⟨Uc y sc hy, (p3.1 y sc hy).1, fun b hb => ((p3.1 y sc hy).2 b hb).2⟩) (fun b hb => .inl hb) (fun b hb => hb.imp id (fun h => h.1));have ZE : ¬ bB (mb σ sout (fG (givenBy σ) s).aG) d := fun h => by have := s9 _ (kc.1 h);unfold bB at this; rw [ve] at this; cases this
              have hyn : ¬ bB (ma s.aG σ) y := fun h => by obtain ⟨ZC, Rj⟩ := agk.1 h;obtain ⟨x, g1, _⟩ := nM d2 σ (fun p hp => hp) y ZC Rj;rw [hnR] at g1; cases g1
              have hyd : bB sout y := by unfold bB; rw [oP]; rfl
              have s8 : d < 999999 := agA WJ Γ.small;have pR := hh.site (d := d) (sc := sc) s8 ZE (fun h => absurd (hs d h) (ahC WJ)) (β' := fun z => if z = d then β' y else β z) (fun r et => by simp [et]) (fun b hb => by
                have hb : β' y = some b := by simpa using hb
                rcases p5 y b hyd hyn hb with hf | hf
                · refine ⟨hf.2, ((p3.1 y sc oP).2 b hb).2, .inl (ag3 hr.aH.size hf.1), fun x hx QL => ?_⟩;have := hr.lb x b (s9 _ (kc.1 hx)) QL;have := hf.1; omega
                · obtain ⟨q1, q2, q3⟩ := hr.given s9 JC Om d2 hf;exact ⟨agA q2 p2.size, ((p3.1 y sc oP).2 b hb).2, q1, fun x hx QL => q3 x (kc.1 hx) QL⟩) ((p3.1 y sc oP).1.closed (Uc y sc oP) (by simp) (fun _ h => h))
              refine ⟨_, _, pR.put (fc d1) ?_⟩;have key : ∀ z x, (bif Nat.beq y z then some d else lh σ z) = some x → bB sout z → bB ((d, sc) :: mb σ sout (fG (givenBy σ) s).aG) x ∧ (fun z => if z = d then β' y else β z) x = β' z := by
                intro z x SU KU;cases hb : Nat.beq y z with
                | true =>
                  have : y = z := ag0 hb;subst this;simp only [hb, cond_true] at SU;injection SU with SU; subst SU
                  exact ⟨(dL s8).2 (.inl rfl), by simp⟩
                | false =>
                  simp only [hb, cond_false] at SU;have hm := jP SU;obtain ⟨_, _, ZC, Rj, _⟩ := eO d2 hm;obtain ⟨k1, k2⟩ := oZ x z SU KU (by intro h; have : y = z := ag0 h; subst this; simp at hb);have et : x ≠ d := fun e => by subst e; rw [ve] at Rj; cases Rj
                  refine ⟨(dL s8).2 (.inr (kc.2 k1)), ?_⟩;simp only [if_neg et];rw [p1 z (jl d2 σ (fun p hp => hp) x z hm) k2]; unfold βX; rw [SU]; rfl
              cases r with
              | pv p => injection dI with dI; subst dI; exact p4
              | ox c => injection dI with dI; subst dI; exact p4
              | dead => cases dI
              | ji _ _ _ => cases dI
              | n7 _ _ => cases dI
              | mW _ => cases dI
              | ptr z off =>
                simp only [uY] at dI;split at dI
                · rename_i x hx;injection dI with dI; subst dI
                  obtain ⟨KU, p4⟩ := p4;obtain ⟨k1, k2⟩ := key z x hx KU;exact ⟨k1, by rw [k2]; exact p4⟩
                · cases dI
              | Av g z =>
                simp only [uY] at dI;split at dI
                · rename_i x hx;injection dI with dI; subst dI
                  obtain ⟨KU, p4⟩ := p4;obtain ⟨k1, k2⟩ := key z x hx KU;exact ⟨k1, by rw [k2]; exact p4⟩
                · cases dI
              | row z off len sz =>
                simp only [uY] at dI;split at dI
                · rename_i x hx;injection dI with dI; subst dI
                  obtain ⟨KU, p4⟩ := p4;obtain ⟨k1, k2⟩ := key z x hx KU;exact ⟨k1, by rw [k2]; exact p4⟩
                · cases dI
              | oy z off len sz ps =>
                simp only [uY] at dI;split at dI
                · rename_i x hx;injection dI with dI; subst dI
                  obtain ⟨us, q1, q2, ⟨u, q3, KU, q4⟩, q5⟩ := p4;obtain ⟨k1, k2⟩ := key z x hx KU;exact ⟨us, q1, q2, ⟨u, q3, k1, by rw [k2]; exact q4⟩, q5⟩
                · cases dI
          · cases aK
    · cases aK
  · cases aK
end
end Go.Proofs.YtcpnocgollpbhaaGreatDoor.Sym
