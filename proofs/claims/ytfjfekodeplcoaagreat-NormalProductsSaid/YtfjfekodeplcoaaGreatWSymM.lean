/- Lemmas for the statements of this seat. -/
import Derived.Test.YtfjfekodeplcoaaGreatWSymLz
namespace Go.Proofs.YtfjfekodeplcoaaGreat.Sym
open Go Go.RowKit
section
variable {P:Program} {T:ja} {Γ:Ctx} {s s':St} {a:Act} {w:World} {β:Nat→Option Nat} {I:Nat→Prop} {o:Oper} {h:Hint} {ob:List Prop}
theorem pM {f : FuncId} (hc : mj P f) {args : Array Operand} {CY : Array TypeId} (ml : o.op = .call ⟨.value (.func f), args, CY⟩) : (execOp a.eval o).run P w = .ok (.enter f (args.map a.eval)) w := by
  obtain ⟨fn, h1, h2, h3⟩ := hc
  have hb : fn.body ≠ none := by intro e; rw [e] at h2; cases h2
  have GJ : fn.name ≠ "runtime.NumGoroutine" := by simpa using h3
  simp [execOp, ml, resolve, Act.eval, Deferred.ofValue, invoke, callFunc, h1, GJ, hb]
def kh(env:Env):List Operand→Option (List PV)
 |[]=>some []
 |x::r=>match cA env x,kh env r with
  |some (.pv p),some ps=>some (p::ps)
  |_,_=>none
theorem mn(hr:cq Γ s a w β I):∀(xs:List Operand) (ps:List PV),kh s.env xs=some ps→xs.length=ps.length∧∀(j:Nat) p x,ps[j]? = some p→xs[j]? = some x→Rd I w p (a.eval x)
 |[],ps,h=>by injection h with h;subst h;exact⟨rfl,fun j p x hp=>by simp at hp⟩
 |x::r,ps,h=>by
  unfold kh at h
  split at h
  ·rename_i p qs hx hq
   injection h with h;subst h
   obtain⟨h1,h2⟩:=mn hr r qs hq
   refine⟨by simp[h1],fun j q y hj hy => ?_⟩
   cases j with
   |zero=>simp at hj hy;subst hj hy;exact hr.uD x _ hx
   |succ j=>exact h2 j q y (by simpa using hj) (by simpa using hy)
  ·cases h
def rM(P:Program)(n:Nat)(o:Oper)(h:Hint)(s:St):Option (St×List Prop) :=
 match o.op,h with
 |.call c,.pv r=>match c.callee,kh s.env c.args.toList with
  |.value (.func f),some ps=>bif gp n o.dst then some (⟨jg s.env o.dst (.pv r),s.sto⟩,[fG P f ps r]) else none
  |_,_=>none
 |_,_=>none
theorem jF(β:Nat→Option Nat)(I:Nat→Prop)(w:World):tg β I w [] :=
 ⟨fun r sc h=>(by rw[aG.get_nil] at h;cases h),fun r r' b h=>absurd h ez⟩
theorem GS(hr:cq Γ s a w β I){f:FuncId}{ps:List PV}{r:PV}{vs:Array Value}(hc:fG P f ps r)(hl:vs.size=ps.length)(hv:∀(j:Nat) p v,ps[j]? = some p→vs[j]? = some v→Rd I w p v) :
  Calls P f vs w fun e w'=>∃v,e = .returned v∧ur w.heap.size w w'∧Rd (fun b=>I b∨fresh w w' b) w' r v:=by
 refine(hc.2 I w β vs hr.ib (jF _ _ _) (by simp[hl]) (fun j e v he A4 => ?_) hr.lay.nil).mono fun e w' hp => ?_
 ·rw[List.getElem?_map] at he
  cases hj:ps[j]? with
  |none=>simp[hj] at he
  |some p =>
   simp[hj] at he
   subst he
   exact hv j p v hj A4
 ·obtain⟨v,β',rfl,_,hk,_,wR,_⟩:=hp
  have rb:∀x,¬aS [] x:=fun x h=>by exact ez h
  refine⟨v,rfl,⟨⟨hk.os,hk.tape,hk.output,hk.size,fun k wT=>hk.block k wT (fun ⟨x,hx,_⟩=>rb x hx)⟩,hk.drawn⟩,?_⟩
  exact Rd.mono (I:=fun b=>I b∨((fresh w w' b∨xy [] β b)∧∀x,aS [] x→β' x≠some b)) wR (fun b hb=>hb.imp id (fun h=>h.1.elim id (fun ⟨x,_,hx,_⟩=>absurd hx (rb x)))) (fun _ _ _=>rfl)
theorem rN(hr:Rel Γ s a w)(aD:rM P Γ.n o h s=some (s',ob))(bK:cW ob){K:Act→World→Prop}{Q:Exit→Act→World→Prop}
  (hk:∀a' w',Rel Γ s' a' w'→K a' w'):o.wp P a w K Q:=by
 obtain⟨β,I,hr⟩:=hr
 unfold rM at aD
 split at aD
 ·rename_i c r ml
  split at aD
  ·rename_i f ps jb jf
   cases hd:gp Γ.n o.dst with
   |false=>simp[hd] at aD
   |true =>
    simp only[hd,cond_true] at aD
    injection aD with aD;injection aD with h1 h2
    subst h1;subst h2
    have hc:fG P f ps r:=bK
    obtain⟨cl,args,CY⟩:=c
    have jb:cl = .value (.func f):=jb
    subst jb
    obtain⟨hl,q8⟩:=mn hr args.toList ps jf
    unfold Oper.wp
    rw[pM hc.1 ml]
    rw[Oper.upon_enter]
    refine(GS hr hc (vs:=args.map a.eval) (by simpa using hl) (fun j p v hp hv => ?_)).mono fun e w' pE => ?_
    ·simp only[Array.getElem?_map] at hv
     cases hx:args[j]? with
     |none=>simp[hx] at hv
     |some x =>
      simp[hx] at hv
      subst hv
      exact q8 j p x hp (by simpa using hx)
    ·obtain⟨v,rfl,hb,wR⟩:=pE
     exact hk _ _ ⟨β,_,(hr.grow hb (fun b h => .inl h) (fun b h=>h)).put (c9 hd) wR⟩
  ·cases aD
 ·cases aD
theorem cq.H7(h:cq Γ s a w β I){t:Nat}{e:EV}(he:RE β (aS s.sto) I w e (a.tmps.getD t undef)):cq Γ ⟨(t,e)::s.env,s.sto⟩ a w β I:=by
 refine⟨fun t' e' fj => ?_,h.sto,h.par,h.new,h.ib,h.ii,h.aN,h.size,h.defers⟩
 have fj:Env.get ((t,e)::s.env) t'=some e':=fj
 simp only[Env.get] at fj
 cases hb:Nat.beq t t' with
 |true =>
  have:t=t':=Nat.eq_of_beq_eq_true hb
  subst this
  simp only[hb,cond_true] at fj
  injection fj with fj;subst fj
  exact he
 |false =>
  simp only[hb,cond_false] at fj
  exact h.env t' e' fj
theorem cq.O2(h:cq Γ s a w β I){b:Nat}(hb:b<w.heap.size)(hw:Γ.Nw b)(hs:∀x,aS s.sto x→β x≠some b):cq Γ s a w β (fun x=>I x∨x=b):=by
 refine⟨fun t e he=>(h.env t e he).mono (fun _ _=>rfl) (fun _ h=>h) (fun _ h => .inl h) (fun _ _ _=>rfl) (fun _ _ _ _=>rfl),⟨fun r sc hr => ?_,h.sto.2⟩,h.par,h.new,fun x hx => ?_,fun x hx => ?_,h.aN,h.size,h.defers⟩
 ·obtain⟨g1,g2⟩:=h.sto.1 r sc hr
  have sq:aS s.sto r:=by unfold aS;rw[hr];rfl
  refine⟨g1.mono rfl (fun _ _=>rfl) (fun _ _=>rfl) (fun _ h=>h) (fun _ h => .inl h) (fun _ _ _=>rfl) (fun _ _ _ _=>rfl),fun b' cI=>⟨(g2 b' cI).1,fun hx => ?_⟩⟩
  rcases hx with hx|hx
  ·exact(g2 b' cI).2 hx
  ·subst hx;exact hs r sq cI
 ·rcases hx with hx|hx
  ·exact h.ib x hx
  ·subst hx;exact hb
 ·rcases hx with hx|hx
  ·exact h.ii x hx
  ·subst hx;exact .inr (hw.imp (fun h=>⟨h,hb⟩) id)
theorem uM{L:Nat→Prop}{r len sz:Nat}{v:Value}{ps:List PV}{xs:List (List PV)}(hv:RE β L I w (.row r 0 len sz) v)(xz:RB β L I w r (ps.map EV.pv))(h1:len=xs.length)(h2:ps=xs.flatten)
  (h3:∀row∈xs,row.length=sz) {I':Nat→Prop} (hI:∀b,I b→I' b) (xZ:∀b,β r=some b→I' b):Rd I' w (.list xs) v:=by
 obtain⟨_,⟨_,rfl,rfl⟩|⟨b,c,hb,rfl,hc,_⟩⟩:=hv
 ·have:xs=[]:=List.eq_nil_of_length_eq_zero h1.symm
  subst this
  exact .nil _ _
 ·obtain⟨arr,el,hg,_,ot⟩:=qo xz hb
  subst h1;subst h2
  have key:∀(i j:Nat) row x,xs[i]? = some row→row[j]? = some x→∃u,arr[i*sz+j]? = some u∧u.oneCell'=true∧Rd I w x u:=fun i j row x hi hj=>ot _ x (nJ h3 hi hj)
  refine .list xs b 0 c sz (fun i j=>arr.getD (i*sz+j) undef) hc (xZ b hb) (fun i row hi=>h3 row (List.mem_of_getElem? hi)) (fun i j row x hi hj => ?_) (fun i j row x hi hj => ?_)
  ·obtain⟨u,g1,g2,g3⟩:=key i j row x hi hj
   refine⟨PV.gO g3 g2,?_⟩
   rw[Nat.zero_add,cell_of_row w b _ arr el (0,0) hg,g1]
   simp[Array.getD_eq_getD_getElem?,g1]
  ·obtain⟨u,g1,g2,g3⟩:=key i j row x hi hj
   simp only[Array.getD_eq_getD_getElem?,g1,Option.getD_some]
   exact g3.mono hI (fun _ _ _=>rfl)
def x3(n t:Nat)(xs:List (List PV))(s:St):Option (St×List Prop) :=
 match s.env.get t with
 |some (.row r 0 len sz)=>match s.sto.get r with
  |some (.pure ps)=>bif Nat.blt r n&&Nat.blt t n then some (⟨(t,.pv (.list xs))::(kill r s).env,(kill r s).sto⟩,[len=xs.length,ps=xs.flatten,∀row∈xs,row.length=sz]) else none
  |_=>none
 |_=>none
theorem th(hs:∀r,aS Γ.sin r→Γ.n≤r){t:Nat}{xs:List (List PV)}(hr:Rel Γ s a w)(aD:x3 Γ.n t xs s=some (s',ob))(bK:cW ob):Rel Γ s' a w:=by
 obtain⟨β,I,hr⟩:=hr
 unfold x3 at aD
 split at aD
 ·rename_i r len sz he
  split at aD
  ·rename_i ps jf
   cases hb:(Nat.blt r Γ.n&&Nat.blt t Γ.n) with
   |false=>simp[hb] at aD
   |true =>
    simp only[hb,cond_true] at aD
    simp only[Bool.and_eq_true] at hb
    have GQ:r<Γ.n:=Nat.le_of_ble_eq_true hb.1
    injection aD with aD;injection aD with h1 h2
    subst h1;subst h2
    obtain⟨g1,bK⟩:=bK.cons
    obtain⟨g2,g3⟩:=bK.cons
    have hv:=hr.env t _ he
    have xz:=(hr.sto.1 r _ jf).1
    have sq:aS s.sto r:=by unfold aS;rw[jf];rfl
    have Az:¬aS Γ.sin r:=fun h=>absurd (hs r h) (Nat.not_le_of_lt GQ)
    cases j5:β r with
    |none=>exact⟨β,I,(hr.kill r).H7 (uM hv xz g1 g2 g3 (fun _ h=>h) (fun b cI=>by rw[j5] at cI;cases cI))⟩
    |some b =>
     have hk:=(hr.kill r).O2 (b:=b) ((hr.sto.1 r _ jf).2 b j5).1 (hr.new r b sq (.inl Az) j5) (fun x hx e=>(bW.1 hx).2 (hr.sto.2 x r b (bW.1 hx).1 sq e j5))
     exact⟨β,_,hk.H7 (uM hv xz g1 g2 g3 (fun _ h => .inl h) (fun b' cI=>by rw[j5] at cI;injection cI with cI;exact .inr cI.symm))⟩
  ·cases aD
 ·cases aD
def H8(s:St)(o:Oper):Option St :=
 match o.op with
 |.call c=>match c.args.toList with
  |x::_=>match cA s.env x with
   |some (.row r _ len sz)=>match s.sto.get r with
    |some (.pure ps)=>some ⟨s.env,aG.set s.sto r (.pure (ps.take (len*sz)))⟩
    |_=>none
   |_=>none
  |_=>none
 |_=>none
theorem C6{s1:St}(hr:Rel Γ s a w)(h:H8 s o=some s1):Rel Γ s1 a w:=by
 unfold H8 at h
 split at h
 ·split at h
  ·split at h
   ·split at h
    ·rename_i jf
     injection h with h;subst h
     exact hr.cut jf
    ·cases h
   ·cases h
  ·cases h
 ·cases h
def yO(T:ja)(n:Nat)(o:Oper)(h:Hint)(s:St):Option (St×List Prop) :=
 match h with
 |.rq l _ xs=>match uL T n o (.app l xs.flatten) s,o.dst with
  |some (s1,Hu),some d=>match x3 n d xs s1 with
   |some (s2,ob2)=>some (s2,Hu++ob2)
   |none=>none
  |_,_=>none
 |.row l out=>match H8 s o with
  |some s1=>uH EO T n o (.app l out) s1
  |none=>none
 |_=>uL T n o h s
theorem yP(hT:lH P T)(hs:∀r,aS Γ.sin r→Γ.n≤r)(hr:Rel Γ s a w)(aD:yO T Γ.n o h s=some (s',ob))(bK:cW ob){K:Act→World→Prop}{Q:Exit→Act→World→Prop}
  (hk:∀a' w',Rel Γ s' a' w'→K a' w'):o.wp P a w K Q:=by
 unfold yO at aD
 split at aD
 ·rename_i l u xs
  split at aD
  ·rename_i s1 Hu d h1 hd
   split at aD
   ·rename_i s2 ob2 h2
    injection aD with aD;injection aD with e1 e2
    subst e1;subst e2
    obtain⟨g1,g2⟩:=bK.app
    exact rL hT hs hr h1 g1 (fun a' w' dy=>hk a' w' (th hs dy h2 g2))
   ·cases aD
  ·cases aD
 ·rename_i l out
  split at aD
  ·rename_i s1 h1
   exact rI (fun hr=>Ky hr) hT hs (C6 hr h1) aD bK hk
  ·cases aD
 ·exact rL hT hs hr aD bK hk
def assoc:List (Nat×Nat)→Nat→Option Nat
 |[],_=>none
 |(x',y)::r,x=>bif Nat.beq x' x then some y else assoc r x
def et:List (Nat×Nat)→Nat→Option Nat
 |[],_=>none
 |(x,y')::r,y=>bif Nat.beq y' y then some x else et r y
def tG:Option Nat→Nat→Bool
 |some x,y=>Nat.beq x y
 |none,_=>false
def eT:SC→Bool
 |.pure _=>true
 |.lit cs=>cs.all fun | .pv _=>true|_=>false
 |_=>false
def lV(sto:aG)(σ:List (Nat×Nat)):Bool :=
 σ.all fun p=>(Nat.blt p.1 999999&&Nat.blt p.2 999999)&&tG (assoc σ p.1) p.2&&tG (et σ p.2) p.1&&(match sto.get p.1 with
  |some sc=>eT sc
  |none=>false)
def kV(sto:aG):List (Nat×Nat)→aG
 |[]=>[]
 |(x,y)::σ=>match sto.get x with
  |some sc=>(y,sc)::kV sto σ
  |none=>kV sto σ
def kW(σ:List (Nat×Nat))(sout:aG):aG→aG
 |[]=>[]
 |(x,sc)::sto=>(x,bif Nat.blt x 999999 then (match assoc σ x with
  |some y=>match aG.get sout y with
   |some sc'=>sc'
   |none=>sc
  |none=>sc) else sc)::kW σ sout sto
def sW(σ:Nat→Option Nat):EV→Option EV
 |.pv p=>some (.pv p)
 |.ptr x o=>match σ x with
  |some y=>some (.ptr y o)
  |none=>none
 |.row x o l z=>match σ x with
  |some y=>some (.row y o l z)
  |none=>none
 |.mL c=>some (.mL c)
 |.kN x o l z ps=>match σ x with
  |some y=>some (.kN y o l z ps)
  |none=>none
 |.mM f x=>match σ x with
  |some y=>some (.mM f y)
  |none=>none
 |.dead=>none
 |.cv .. => none
 |.kf .. => none
 |.dV .. => none
def C7(nx:Bool)(env:Env)(x:Operand):Option EV :=
 match nx,x with
 |true,.const (.slice none 0 0)=>some (.pv .fa)
 |_,x=>cA env x
def O3:EV→Bool
 |.kN .. => true
 |.row .. => true
 |_=>false
theorem cq.U5(hr:cq Γ s a w β I)(nx:Bool)(x:Operand)(e:EV)(h:C7 nx s.env x=some e):RE β (aS s.sto) I w e (a.eval x):=by
 unfold C7 at h
 split at h
 ·injection h with h;subst h;exact Rd.fa
 ·exact hr.uD x e h
def A5(nx:Bool)(env:Env)(σ:Nat→Option Nat):List Operand→Option (List EV)
 |[]=>some []
 |x::r=>match C7 nx env x,A5 nx env σ r with
  |some e,some es=>match sW σ e with
   |some e'=>some (e'::es)
   |none=>none
  |_,_=>none
def KA(σ:Nat→Option Nat)(env:Env):Operand→Option (FuncId×List EV)
 |.func f=>some (f,[])
 |x=>match cA env x with
  |some (.mM f r)=>match σ r with
   |some y=>some (f,[.ptr y 0])
   |none=>none
  |some (.pv (.fn f))=>some (f,[])
  |_=>none
def fc:List Nat→St→St
 |[],s=>s
 |r::rs,s=>fc rs (kill r s)
theorem cq.fc:∀(rs:List Nat) {s:St},cq Γ s a w β I→cq Γ (fc rs s) a w β I
 |[],_,h=>h
 |r::rs,_,h=>cq.fc rs (h.kill r)
theorem oD:∀(rs:List Nat) {s:St} {x:Nat},aS (fc rs s).sto x↔aS s.sto x∧x ∉ rs
 |[],s,x=>by simp[fc]
 |r::rs,s,x=>by
  show aS (fc rs (kill r s)).sto x↔_
  rw[oD rs]
  show aS (bz r s.sto) x∧_↔_
  rw[bW]
  simp only[List.mem_cons,not_or,and_assoc]
def pN(x:Nat):Bool:=Nat.ble 200000 x
def givenBy(σ:List (Nat×Nat)):List Nat:=(σ.filter fun p=>pN p.2).map (·.1)
def pO (P : Program) (n : Nat) (o : Oper) (h : Hint) (s : St) : Option (St × List Prop) :=
  match o.op, h with
  | .call c, .bN σ nw r sout => match c.callee with
    | .value g => match KA (assoc σ) s.env g, A5 (O3 r) s.env (assoc σ) c.args.toList with
     | some (f, ex), some es => bif gp n o.dst && lV s.sto σ && σ.all (fun p => bif pN p.2 then Nat.blt p.1 n else (aG.get sout p.2).isSome) && sout.all (fun p => Nat.blt p.1 999999 && eT p.2 && (((et σ p.1).isSome && !pN p.1) || tG (nw.map (·.1)) p.1)) then
        match nw with
        | none => match sW (et σ) r with
          | some r' => some (⟨jg (fc (givenBy σ) s).env o.dst r', kW σ sout (fc (givenBy σ) s).sto⟩, [av P f (es ++ ex) (kV s.sto σ) r sout])
          | none => none
        | some (y, d) => match aG.get sout y, s.sto.get d, et σ y, sW (fun z => bif Nat.beq y z then some d else et σ z) r with
          | some sc, none, none, some r' => bif Nat.blt d n then some (⟨jg (fc (givenBy σ) s).env o.dst r', (d, sc) :: kW σ sout (fc (givenBy σ) s).sto⟩, [av P f (es ++ ex) (kV s.sto σ) r sout]) else none
          | _, _, _, _ => none
      else none
     | _, _ => none
    | _ => none
  | _, _ => none
theorem fD:∀{σ:List (Nat×Nat)} {x y:Nat},assoc σ x=some y→(x,y)∈σ
 |[],x,y,h=>by cases h
 |(x',y')::r,x,y,h=>by
  simp only[assoc] at h
  cases hb:Nat.beq x' x with
  |true =>
   have:x'=x:=Nat.eq_of_beq_eq_true hb
   subst this
   simp only[hb,cond_true] at h
   injection h with h;subst h;simp
  |false =>
   simp only[hb,cond_false] at h
   exact List.mem_cons_of_mem _ (fD h)
theorem dY:∀{σ:List (Nat×Nat)} {x y:Nat},et σ y=some x→(x,y)∈σ
 |[],x,y,h=>by cases h
 |(x',y')::r,x,y,h=>by
  simp only[et] at h
  cases hb:Nat.beq y' y with
  |true =>
   have:y'=y:=Nat.eq_of_beq_eq_true hb
   subst this
   simp only[hb,cond_true] at h
   injection h with h;subst h;simp
  |false =>
   simp only[hb,cond_false] at h
   exact List.mem_cons_of_mem _ (dY h)
theorem aG.rO:∀{sto:aG} {y:Nat} {sc:SC},aG.cp sto y=some sc→(y,sc)∈sto
 |[],y,sc,h=>by cases h
 |(y',sc')::r,y,sc,h=>by
  simp only[aG.cp] at h
  cases hb:Nat.beq y' y with
  |true =>
   have:y'=y:=Nat.eq_of_beq_eq_true hb
   subst this
   simp only[hb,cond_true] at h
   injection h with h;subst h;simp
  |false =>
   simp only[hb,cond_false] at h
   exact List.mem_cons_of_mem _ (aG.rO h)
theorem aG.get_mem{sto:aG}{y:Nat}{sc:SC}(h:aG.get sto y=some sc):(y,sc)∈sto∨(1000000≤y∧∃xs,(999999,SC.heap xs)∈sto):=by
 rcases sQ y with hy|rfl|⟨j,rfl⟩
 ·rw[aG.dX hy] at h;exact .inl (aG.rO h)
 ·rw[aG.cM] at h;cases h
 ·right
  refine⟨by unfold hc;omega,?_⟩
  rw[aG.cU] at h
  unfold aG.hp at h
  split at h
  ·rename_i xs hg;exact⟨xs,aG.rO hg⟩
  ·simp[cY] at h
theorem aG.uN{sto:aG}(yQ:∀p∈sto,p.1<999999){y:Nat}{sc:SC}(h:aG.get sto y=some sc):(y,sc)∈sto:=by
 rcases aG.get_mem h with h|⟨_,xs,h⟩
 ·exact h
 ·have:=yQ _ h;simp at this
theorem pS{o:Option Nat}{y:Nat}(h:tG o y=true):o=some y:=by
 cases o with
 |none=>cases h
 |some x=>rw[Nat.eq_of_beq_eq_true h]
theorem vS{sto:aG}{σ:List (Nat×Nat)}(h:lV sto σ=true){x y:Nat}(hm:(x,y)∈σ):x<999999∧y<999999:=by
 unfold lV at h
 rw[List.all_eq_true] at h
 have:=h (x,y) hm
 simp only[Bool.and_eq_true] at this
 exact⟨Nat.le_of_ble_eq_true this.1.1.1.1,Nat.le_of_ble_eq_true this.1.1.1.2⟩
theorem er{sto:aG}{σ:List (Nat×Nat)}(h:lV sto σ=true){x y:Nat}(hm:(x,y)∈σ) :
  assoc σ x=some y∧et σ y=some x∧∃sc,sto.get x=some sc∧eT sc=true:=by
 unfold lV at h
 rw[List.all_eq_true] at h
 have:=h (x,y) hm
 simp only[Bool.and_eq_true] at this
 obtain⟨⟨⟨_,h1⟩,h2⟩,h3⟩:=this
 refine⟨pS h1,pS h2,?_⟩
 split at h3
 ·rename_i sc gD;exact⟨sc,gD,h3⟩
 ·cases h3
theorem mo{sto:aG}{σ0:List (Nat×Nat)}(mK:lV sto σ0=true):∀(σ:List (Nat×Nat)),(∀p∈σ,p∈σ0)→∀(y:Nat) sc,(kV sto σ).get y=some sc→∃x,et σ0 y=some x∧assoc σ0 x=some y∧sto.get x=some sc
 |[],_,y,sc,h=>by rw[kV,aG.get_nil] at h;cases h
 |(x,y')::σ,hm,y,sc,h=>by
  obtain⟨g1,g2,BJ,g3,_⟩:=er mK (hm (x,y') (by simp))
  simp only[kV,g3] at h
  rw[aG.bY (vS mK (hm (x,y') (by simp))).2] at h
  cases hb:Nat.beq y' y with
  |true =>
   have:y'=y:=Nat.eq_of_beq_eq_true hb
   subst this
   simp only[hb,cond_true] at h
   injection h with h;subst h
   exact⟨x,g2,g1,g3⟩
  |false =>
   simp only[hb,cond_false] at h
   exact mo mK σ (fun p hp=>hm p (by simp[hp])) y sc h
theorem iw{sto:aG}{σ0:List (Nat×Nat)}(mK:lV sto σ0=true):∀(σ:List (Nat×Nat)),(∀p∈σ,p∈σ0)→∀x y,(x,y)∈σ→aS (kV sto σ) y
 |[],_,x,y,h=>by cases h
 |(x',y')::σ,hm,x,y,h=>by
  obtain⟨g1,g2,BJ,g3,_⟩:=er mK (hm (x',y') (by simp))
  have OA:=(vS mK (hm (x',y') (by simp))).2
  simp only[kV,g3]
  rcases List.mem_cons.1 h with h|h
  ·injection h with h1 h2;subst h2
   exact(cZ OA).2 (.inl rfl)
  ·exact(cZ OA).2 (.inr (iw mK σ (fun p hp=>hm p (by simp[hp])) x y h))
theorem rP(σ:List (Nat×Nat))(sout:aG):∀(sto:aG) (x:Nat),(kW σ sout sto).cp x=(sto.cp x).map (fun sc=>bif Nat.blt x 999999 then (match assoc σ x with
  |some y=>match aG.get sout y with
   |some sc'=>sc'
   |none=>sc
  |none=>sc) else sc)
 |[],x=>rfl
 |(x',sc)::sto,x=>by
  simp only[kW,aG.cp]
  cases hb:Nat.beq x' x with
  |true =>
   have:x'=x:=Nat.eq_of_beq_eq_true hb
   subst this
   rfl
  |false=>exact rP σ sout sto x
theorem yR(σ:List (Nat×Nat))(sout sto:aG)(x:Nat):(kW σ sout sto).get x=(sto.get x).map (fun sc=>bif Nat.blt x 999999 then (match assoc σ x with
  |some y=>match aG.get sout y with
   |some sc'=>sc'
   |none=>sc
  |none=>sc) else sc):=by
 rcases sQ x with h|rfl|⟨j,rfl⟩
 ·rw[aG.dX h,aG.dX h,rP]
 ·rw[aG.cM,aG.cM];rfl
 ·rw[aG.cU,aG.cU,show Nat.blt (hc j) 999999=false from Bool.eq_false_iff.2 (fun h=>by have:=Nat.le_of_ble_eq_true h;unfold hc at this;omega)]
  unfold aG.hp
  rw[rP]
  cases sto.cp 999999 with
  |none=>simp[cY]
  |some sc =>
   simp only[Option.map_some,show Nat.blt 999999 999999=false from rfl,cond_false]
   cases cY (match some sc with
    |some (SC.heap xs)=>xs
    |_=>[]) j<;>rfl
theorem jG{σ:List (Nat×Nat)}{sout sto:aG}{x:Nat} : aS (kW σ sout sto) x↔aS sto x:=by
 unfold aS
 rw[yR]
 simp
theorem AB{sc:SC}(h:eT sc=true):∀e∈sc.jc,∃p,e = .pv p:=by
 intro e he
 cases sc with
 |pure ps =>
  obtain⟨p,_,rfl⟩:=List.mem_map.1 he
  exact⟨p,rfl⟩
 |lit cs =>
  unfold eT at h
  rw[List.all_eq_true] at h
  have:=h e he
  cases e<;>first|exact⟨_,rfl⟩|cases this
 |heap _=>cases h
 |gk _ _=>cases h
 |fY _ _=>cases h
theorem RB.closed{β β':Nat→Option Nat}{L L' I I':Nat→Prop}{w:World}{r r':Nat}{sc:SC}(hc:eT sc=true)(h:RB β L I w r sc.jc)(hb:β' r'=β r)(hI:∀b,I b→I' b):RB β' L' I' w r' sc.jc:=by
 rcases h with ⟨h1,h2⟩|⟨b,arr,el,h1,h2,h3⟩
 ·exact .inl ⟨hb.trans h1,h2⟩
 ·refine .inr ⟨b,arr,el,hb.trans h1,h2,fun j e he => ?_⟩
  obtain⟨u,g1,g2,g3⟩:=h3 j e he
  obtain⟨p,rfl⟩:=AB hc e (List.mem_of_getElem? he)
  exact⟨u,g1,g2,Rd.mono g3 hI (fun _ _ _=>rfl)⟩
def βX(β:Nat→Option Nat)(σ:List (Nat×Nat))(y:Nat):Option Nat:=(et σ y).bind β
theorem cq.given(hr:cq Γ s a w β I){σ:List (Nat×Nat)}{s1:St}(rf:∀x,aS s1.sto x→aS s.sto x)(FT:∀x y,aS s1.sto x→assoc σ x=some y→¬gv y)
  (Ej:∀x y b,assoc σ x=some y→gv y→aS s.sto x→β x=some b→Γ.Nw b) (mK:lV s.sto σ=true) {b:Nat} (h:xy (kV s.sto σ) (βX β σ) b):Γ.Nw b∧b<w.heap.size∧∀x,aS s1.sto x→β x≠some b:=by
 obtain⟨y,hg,hy,qT⟩:=h
 obtain⟨sc,gD⟩:=Option.isSome_iff_exists.1 hy
 obtain⟨x,g1,g2,g3⟩:=mo mK σ (fun p hp=>hp) y sc gD
 unfold βX at qT
 rw[g1] at qT
 have h2:aS s.sto x:=by unfold aS;rw[g3];rfl
 refine⟨Ej x y b g2 hg h2 qT,hr.lb x b h2 qT,fun x' qV e => ?_⟩
 have:=hr.sto.2 x x' b h2 (rf x' qV) qT e
 subst this
 exact FT x y qV g2 hg
theorem cq.H9 (hr : cq Γ s a w β I) {σ : List (Nat × Nat)} {s1 : St} (sP : cq Γ s1 a w β I) (rf : ∀ x, aS s1.sto x → aS s.sto x) (FT : ∀ x y, aS s1.sto x → assoc σ x = some y → ¬ gv y)
    (Ej : ∀ x y b, assoc σ x = some y → gv y → aS s.sto x → β x = some b → Γ.Nw b) {sout : aG} {β' : Nat → Option Nat} {w' : World} {I' : Nat → Prop} (mK : lV s.sto σ = true) (Eu : ∀ p ∈ σ, ¬ gv p.2 → aS sout p.2)
    (hb : ∀ y, aS (kV s.sto σ) y → ¬ gv y → β' y = βX β σ y) (hk : gS (fun b => ∃ y, aS (kV s.sto σ) y ∧ βX β σ y = some b) w w')
    (AD : ∀ y sc, aG.get sout y = some sc → eT sc = true ∧ RB β' (aS sout) I' w' y sc.jc ∧ ∀ b, β' y = some b → ¬ I' b) (ML : ∀ b, I b → I' b) (ER : ∀ b, I' b → I b ∨ fresh w w' b ∨ xy (kV s.sto σ) (βX β σ) b) :
    cq Γ ⟨s1.env, kW σ sout s1.sto⟩ a w' β I' := by
  have ji : ∀ b y, aS (kV s.sto σ) y → βX β σ y = some b → ∃ x, assoc σ x = some y ∧ aS s.sto x ∧ β x = some b := by
    intro b y hy qT
    obtain ⟨sc, gD⟩ := Option.isSome_iff_exists.1 hy
    obtain ⟨x, g1, g2, g3⟩ := mo mK σ (fun p hp => hp) y sc gD
    unfold βX at qT
    rw [g1] at qT
    exact ⟨x, g2, by unfold aS; rw [g3]; rfl, qT⟩
  have U6 : ∀ b, I b → ¬ ∃ y, aS (kV s.sto σ) y ∧ βX β σ y = some b := by
    intro b hI ⟨y, hy, qT⟩
    obtain ⟨x, _, hd, GU⟩ := ji b y hy qT
    obtain ⟨sc, gD⟩ := Option.isSome_iff_exists.1 hd
    exact ((hr.sto.1 x sc gD).2 b GU).2 hI
  have Rh : ∀ b, xy (kV s.sto σ) (βX β σ) b → Γ.Nw b ∧ b < w.heap.size ∧ ∀ x, aS s1.sto x → β x ≠ some b := fun b h => hr.given rf FT Ej mK h
  have hw : ∀ b o, I b → w'.cell? ⟨b, o, none⟩ = w.cell? ⟨b, o, none⟩ := fun b o hI => dM (hk.block b (hr.ib b hI) (U6 b hI)) o
  have hL : ∀ x, aS s1.sto x → aS (kW σ sout s1.sto) x := fun x hx => jG.2 hx
  have q9 : ∀ r b, aS s1.sto r → β r = some b → w'.shape? b = w.shape? b := fun r b hd cI => hk.shape b (sP.lb r b hd cI)
  refine ⟨fun t e he => (sP.env t e he).mono (fun _ _ => rfl) hL ML hw q9, ⟨fun x sc hx => ?_, fun x y b hx hy => sP.sto.2 x y b (jG.1 hx) (jG.1 hy)⟩,
    fun x hx => sP.par x (jG.1 hx), fun x b hx => sP.new x b (jG.1 hx), fun b hI => ?_, fun b hI => ?_, ?_, sP.size, sP.defers⟩
  · have hx : (kW σ sout s1.sto).get x = some sc := hx
    rw [yR] at hx
    cases hg : s1.sto.get x with
    | none => rw [hg] at hx; cases hx
    | some BJ =>
      rw [hg] at hx
      simp only [Option.map_some, Option.some.injEq] at hx
      obtain ⟨k1, k2⟩ := sP.sto.1 x BJ hg
      have ru : aS s1.sto x := by unfold aS; rw [hg]; rfl
      have QC : Nat.blt x 999999 = false → assoc σ x = none := fun hb => by
        cases ha : assoc σ x with
        | none => rfl
        | some y => rw [show Nat.blt x 999999 = true from Nat.ble_eq_true_of_le (vS mK (fD ha)).1] at hb; cases hb
      have hx : (match assoc σ x with
        | some y => match aG.get sout y with
          | some sc' => sc'
          | none => BJ
        | none => BJ) = sc := by
        cases hb : Nat.blt x 999999 with
        | true => rw [hb] at hx; exact hx
        | false => rw [hb] at hx; rw [QC hb]; exact hx
      cases ha : assoc σ x with
      | some y =>
        have hm := fD ha
        have LF := FT x y ru ha
        obtain ⟨_, U7, _⟩ := er mK hm
        obtain ⟨sc', GV⟩ := Option.isSome_iff_exists.1 (Eu (x, y) hm LF)
        simp only [ha, GV] at hx
        subst hx
        obtain ⟨c1, c2, c3⟩ := AD y sc' GV
        have Kc : β' y = β x := by
          rw [hb y (iw mK σ (fun p hp => hp) x y hm) LF]
          unfold βX; rw [U7]; rfl
        exact ⟨c2.closed c1 Kc.symm (fun _ h => h), fun b cI => ⟨Nat.lt_of_lt_of_le (k2 b cI).1 hk.size, c3 b (Kc.trans cI)⟩⟩
      | none =>
        simp only [ha] at hx
        subst hx
        refine ⟨k1.mono rfl (fun b cI => hk.block b (sP.lb x b ru cI) (fun hM => ?_)) (fun _ _ => rfl) hL ML hw q9, fun b cI => ⟨Nat.lt_of_lt_of_le (k2 b cI).1 hk.size, fun hI => ?_⟩⟩
        · obtain ⟨y2, LG, Ri⟩ := hM
          obtain ⟨x2, h1, h2, h3⟩ := ji b y2 LG Ri
          have := hr.sto.2 x x2 b (rf x ru) h2 cI h3
          subst this
          rw [ha] at h1; cases h1
        · rcases ER b hI with h | h | h
          · exact (k2 b cI).2 h
          · have := (k2 b cI).1; have := h.1; omega
          · exact (Rh b h).2.2 x ru cI
  · rcases ER b hI with h | h | h
    · exact Nat.lt_of_lt_of_le (hr.ib b h) hk.size
    · exact h.2
    · exact Nat.lt_of_lt_of_le (Rh b h).2.1 hk.size
  · rcases ER b hI with h | h | h
    · rcases hr.ii b h with h3 | h3
      · exact .inl h3
      · exact .inr (h3.imp (fun h3 => ⟨h3.1, Nat.lt_of_lt_of_le h3.2 hk.size⟩) id)
    · exact .inr (.inl ⟨Nat.le_trans hr.aN.size h.1, h.2⟩)
    · obtain ⟨h1, h2, _⟩ := Rh b h
      exact .inr (h1.imp (fun h1 => ⟨h1, Nat.lt_of_lt_of_le h2 hk.size⟩) id)
  · refine hr.aN.trans hk (fun b cQ hM => ?_)
    obtain ⟨y, hy, qT⟩ := hM
    obtain ⟨x, _, hd, GU⟩ := ji b y hy qT
    by_cases C8 : aS Γ.sin x ∧ ¬ gv x
    · exact ⟨x, C8.1, by rw [← hr.par x hd C8.1 C8.2]; exact GU⟩
    · exact (hr.new x b hd (by by_cases h : aS Γ.sin x; · exact .inr (Classical.byContradiction fun h2 => C8 ⟨h, h2⟩)
                               · exact .inl h) GU).m cQ
theorem yS(nx:Bool)(hr:cq Γ s a w β I){σ:List (Nat×Nat)}(mK:lV s.sto σ=true):∀(xs:List Operand) (es:List EV),A5 nx s.env (assoc σ) xs=some es→xs.length=es.length ∧
  ∀(j:Nat) e x,es[j]? = some e→xs[j]? = some x→RE (βX β σ) (aS (kV s.sto σ)) I w e (a.eval x)
 |[],es,h=>by injection h with h;subst h;exact⟨rfl,fun j p x hp=>by simp at hp⟩
 |x::r,es,h=>by
  unfold A5 at h
  split at h
  ·rename_i e Kd he FN
   split at h
   ·rename_i e' fj
    injection h with h;subst h
    obtain⟨h1,h2⟩:=yS nx hr mK r Kd FN
    refine⟨by simp[h1],fun j q y hj hy => ?_⟩
    cases j with
    |zero =>
     simp at hj hy;subst hj hy
     have hx:=hr.U5 nx x _ he
     cases e with
     |pv p=>injection fj with fj;subst fj;exact hx
     |mL c=>injection fj with fj;subst fj;exact hx
     |dead=>cases fj
     |cv _ _ _=>cases fj
     |kf _ _=>cases fj
     |dV _=>cases fj
     |ptr z off =>
      simp only[sW] at fj
      split at fj
      ·rename_i y hy
       injection fj with fj;subst fj
       have hm:=fD hy
       obtain⟨_,hR,_⟩:=er mK hm
       obtain⟨_,b,hb,hv⟩:=hx
       exact⟨iw mK σ (fun p hp=>hp) z y hm,b,by unfold βX;rw[hR];exact hb,hv⟩
      ·cases fj
     |mM g z =>
      simp only[sW] at fj
      split at fj
      ·rename_i y hy
       injection fj with fj;subst fj
       have hm:=fD hy
       obtain⟨_,hR,_⟩:=er mK hm
       obtain⟨_,b,hb,hv⟩:=hx
       exact⟨iw mK σ (fun p hp=>hp) z y hm,b,by unfold βX;rw[hR];exact hb,hv⟩
      ·cases fj
     |row z off len sz =>
      simp only[sW] at fj
      split at fj
      ·rename_i y hy
       injection fj with fj;subst fj
       have hm:=fD hy
       obtain⟨_,hR,_⟩:=er mK hm
       have Ke:βX β σ y=β z:=by unfold βX;rw[hR];rfl
       obtain⟨_,hx⟩:=hx
       exact⟨iw mK σ (fun p hp=>hp) z y hm,by rw[Ke];exact hx⟩
      ·cases fj
     |kN z off len sz ps =>
      simp only[sW] at fj
      split at fj
      ·rename_i y hy
       injection fj with fj;subst fj
       have hm:=fD hy
       obtain⟨_,hR,_⟩:=er mK hm
       have Ke:βX β σ y=β z:=by unfold βX;rw[hR];rfl
       obtain⟨us,g1,g2,⟨u,g3,_,g4⟩,g5⟩:=hx
       exact⟨us,g1,g2,⟨u,g3,iw mK σ (fun p hp=>hp) z y hm,by rw[Ke];exact g4⟩,g5⟩
      ·cases fj
    |succ j=>exact h2 j q y (by simpa using hj) (by simpa using hy)
   ·cases h
  ·cases h
theorem GW(hr:cq Γ s a w β I){σ:List (Nat×Nat)}(mK:lV s.sto σ=true){g:Operand}{f:FuncId}{ex:List EV}(h:KA (assoc σ) s.env g=some (f,ex)) :
  ∃cap:Array Value,a.eval g = .func (.func f) #[] cap∧ex.length=cap.size∧∀(j:Nat) e v,ex[j]? = some e→cap[j]? = some v→RE (βX β σ) (aS (kV s.sto σ)) I w e v:=by
 unfold KA at h
 split at h
 ·rename_i f'
  injection h with h;injection h with h1 h2
  subst h1;subst h2
  exact⟨#[],by simp[Act.eval],rfl,fun j e v he=>by simp at he⟩
 ·split at h
  ·rename_i f' r he
   split at h
   ·rename_i y hy
    injection h with h;injection h with h1 h2
    subst h1;subst h2
    obtain⟨_,b,hb,hv⟩:=hr.uD g _ he
    have hm:=fD hy
    obtain⟨_,hR,_⟩:=er mK hm
    refine⟨#[.pointer (some ⟨b,0,none⟩)],hv,rfl,fun j e v he hv => ?_⟩
    cases j with
    |zero =>
     simp at he hv;subst he;subst hv
     exact⟨iw mK σ (fun p hp=>hp) r y hm,b,by unfold βX;rw[hR];exact hb,rfl⟩
    |succ j=>simp at he
   ·cases h
  ·rename_i f' he
   injection h with h;injection h with h1 h2
   subst h1;subst h2
   have hv:Rd I w (.fn f') (a.eval g):=hr.uD g _ he
   refine⟨#[],?_,rfl,fun j e v he=>by simp at he⟩
   generalize a.eval g=v at hv
   cases hv;rfl
  ·cases h
theorem ES {f : FuncId} (hc : mj P f) {g : Operand} {cap : Array Value} (hv : a.eval g = .func (.func f) #[] cap) {args : Array Operand} {CY : Array TypeId} (ml : o.op = .call ⟨.value g, args, CY⟩) :
    (execOp a.eval o).run P w = .ok (.enter f (args.map a.eval ++ cap)) w := by
  obtain ⟨fn, h1, h2, h3⟩ := hc
  have hb : fn.body ≠ none := by intro e; rw [e] at h2; cases h2
  have GJ : fn.name ≠ "runtime.NumGoroutine" := by simpa using h3
  simp [execOp, ml, resolve, hv, Deferred.ofValue, invoke, callFunc, h1, GJ, hb]
theorem qW (hs : ∀ r, aS Γ.sin r → Γ.n ≤ r) (hr : Rel Γ s a w) (aD : pO P Γ.n o h s = some (s', ob)) (bK : cW ob) {K : Act → World → Prop} {Q : Exit → Act → World → Prop}
    (hk : ∀ a' w', Rel Γ s' a' w' → K a' w') : o.wp P a w K Q := by
  obtain ⟨β, I, hr⟩ := hr
  unfold pO at aD
  split at aD
  · rename_i c σ nw r sout ml
    split at aD
    case h_2 => cases aD
    rename_i g jb
    split at aD
    · rename_i f ex es hg FN
      cases hd : (gp Γ.n o.dst && lV s.sto σ && σ.all (fun p => bif pN p.2 then Nat.blt p.1 Γ.n else (aG.get sout p.2).isSome) && sout.all (fun p => Nat.blt p.1 999999 && eT p.2 && (((et σ p.1).isSome && !pN p.1) || tG (nw.map (·.1)) p.1))) with
      | false => simp [hd] at aD
      | true =>
        simp only [hd, cond_true] at aD
        simp only [Bool.and_eq_true] at hd
        obtain ⟨⟨⟨d1, d2⟩, d3⟩, d4⟩ := hd
        rw [List.all_eq_true] at d3 d4
        obtain ⟨cl, args, CY⟩ := c
        have jb : cl = .value g := jb
        subst jb
        obtain ⟨cap, U8, Rj, U9⟩ := GW hr d2 hg
        obtain ⟨hl, q8⟩ := yS _ hr d2 args.toList es FN
        have O4 : tg (βX β σ) I w (kV s.sto σ) := by
          refine ⟨fun y sc hy => ?_, fun y y' b hy yT h1 h2 => ?_⟩
          · obtain ⟨x, g1, g2, g3⟩ := mo d2 σ (fun p hp => hp) y sc hy
            obtain ⟨_, _, O5, g4, g5⟩ := er d2 (dY g1)
            rw [g3] at g4; injection g4 with g4; subst g4
            have Ke : βX β σ y = β x := by unfold βX; rw [g1]; rfl
            obtain ⟨k1, k2⟩ := hr.sto.1 x sc g3
            exact ⟨k1.closed g5 Ke (fun _ h => h), fun b hb => k2 b (Ke.symm.trans hb)⟩
          · obtain ⟨sc, gD⟩ := Option.isSome_iff_exists.1 hy
            obtain ⟨sc', GV⟩ := Option.isSome_iff_exists.1 yT
            obtain ⟨x, g1, g2, g3⟩ := mo d2 σ (fun p hp => hp) y sc gD
            obtain ⟨x', LH, FQ, QD⟩ := mo d2 σ (fun p hp => hp) y' sc' GV
            have e1 : β x = some b := by unfold βX at h1; rw [g1] at h1; exact h1
            have e2 : β x' = some b := by unfold βX at h2; rw [LH] at h2; exact h2
            have := hr.sto.2 x x' b (by unfold aS; rw [g3]; rfl) (by unfold aS; rw [QD]; rfl) e1 e2
            subst this
            rw [g2] at FQ; injection FQ with FQ
        have Rk : ra (kV s.sto σ) (βX β σ) w := hr.lay.sub (fun y b hy hb => by
          obtain ⟨sc, gD⟩ := Option.isSome_iff_exists.1 hy
          obtain ⟨x, g1, g2, g3⟩ := mo d2 σ (fun p hp => hp) y sc gD
          exact ⟨x, by unfold aS; rw [g3]; rfl, by unfold βX at hb; rw [g1] at hb; exact hb⟩)
        have fin : ∀ (hc : av P f (es ++ ex) (kV s.sto σ) r sout) {s2 : St}, (∀ v w' β', gS (fun b => ∃ y, aS (kV s.sto σ) y ∧ βX β σ y = some b) w w' → (∀ y, aS (kV s.sto σ) y → ¬ gv y → β' y = βX β σ y) →
              tg β' (fun b => I b ∨ ((fresh w w' b ∨ xy (kV s.sto σ) (βX β σ) b) ∧ ∀ x, aS sout x → β' x ≠ some b)) w' sout → RE β' (aS sout) (fun b => I b ∨ ((fresh w w' b ∨ xy (kV s.sto σ) (βX β σ) b) ∧ ∀ x, aS sout x → β' x ≠ some b)) w' r v →
              (∀ x b, aS sout x → ¬ aS (kV s.sto σ) x → β' x = some b → fresh w w' b ∨ xy (kV s.sto σ) (βX β σ) b) → Rel Γ s2 (a.put o.dst v) w') → (∀ a' w', Rel Γ s2 a' w' → K a' w') → o.wp P a w K Q := by
          intro hc s2 ET hk
          unfold Oper.wp
          rw [ES hc.1 U8 ml]
          rw [Oper.upon_enter]
          have GO : args.size = es.length := by simpa using hl
          refine (hc.2 I w (βX β σ) (args.map a.eval ++ cap) hr.ib O4 (by rw [List.length_append, Array.size_append, Array.size_map, GO, Rj]) (fun j e v he hv => ?_) Rk).mono fun e w' hp => ?_
          · by_cases hj : j < es.length
            · rw [List.getElem?_append_left hj] at he
              rw [Array.getElem?_append_left (by rw [Array.size_map]; omega), Array.getElem?_map] at hv
              cases hx : args[j]? with
              | none => simp [hx] at hv
              | some x =>
                simp [hx] at hv
                subst hv
                exact q8 j e x he (by simpa using hx)
            · rw [List.getElem?_append_right (by omega)] at he
              rw [Array.getElem?_append_right (by rw [Array.size_map]; omega), Array.size_map, GO] at hv
              exact U9 _ e v he hv
          · obtain ⟨v, β', rfl, p1, p2, p3, p4, p5⟩ := hp
            exact hk _ _ (ET v w' β' p2 p1 p3 p4 p5)
        have yQ : ∀ p ∈ sout, p.1 < 999999 := fun p hp => by
          have := d4 p hp
          simp only [Bool.and_eq_true] at this
          exact Nat.le_of_ble_eq_true this.1.1
        have Ia : ∀ y sc, aG.get sout y = some sc → eT sc = true := by
          intro y sc hy
          obtain ⟨p, hp, h1⟩ : ∃ p ∈ sout, p.2 = sc := by
            exact ⟨(y, sc), aG.uN yQ hy, rfl⟩
          have := d4 p hp
          simp only [Bool.and_eq_true] at this
          rw [← h1]; exact this.1.2
        have O6 : ∀ y, pN y = true ↔ gv y := fun y => ⟨Nat.le_of_ble_eq_true, Nat.ble_eq_true_of_le⟩
        have LI : ∀ p ∈ σ, ¬ gv p.2 → aS sout p.2 := fun p hp hg => by
          have := d3 p hp
          rw [Bool.eq_false_iff.2 (fun h => hg ((O6 _).1 h)), cond_false] at this
          exact this
        have sP := hr.fc (givenBy σ)
        have rf : ∀ x, aS (fc (givenBy σ) s).sto x → aS s.sto x := fun x hx => ((oD _).1 hx).1
        have FT : ∀ x y, aS (fc (givenBy σ) s).sto x → assoc σ x = some y → ¬ gv y := fun x y hx ha hg => ((oD _).1 hx).2 (List.mem_map.2 ⟨(x, y), List.mem_filter.2 ⟨fD ha, (O6 y).2 hg⟩, rfl⟩)
        have Ej : ∀ x y b, assoc σ x = some y → gv y → aS s.sto x → β x = some b → Γ.Nw b := fun x y b ha hg ru hb => by
          have := d3 _ (fD ha)
          rw [(O6 y).2 hg, cond_true] at this
          exact hr.new x b ru (.inl (fun h => absurd (hs x h) (Nat.not_le_of_lt (Nat.le_of_ble_eq_true this)))) hb
        have nP : ∀ x y, et σ y = some x → aS sout y → ¬ tG (nw.map (·.1)) y = true → aS (fc (givenBy σ) s).sto x ∧ ¬ gv y := by
          intro x y hx hy iO
          obtain ⟨sc, gD⟩ := Option.isSome_iff_exists.1 hy
          have := d4 _ (aG.uN yQ gD)
          simp only [Bool.and_eq_true, Bool.or_eq_true, Bool.not_eq_true'] at this
          have LF : ¬ gv y := fun hg => by
            rcases this.2 with h | h
            · rw [(O6 y).2 hg] at h; exact absurd h.2 (by simp)
            · exact iO h
          obtain ⟨e1, _, sc2, e2, _⟩ := er d2 (dY hx)
          refine ⟨(oD _).2 ⟨by unfold aS; rw [e2]; rfl, fun hm => ?_⟩, LF⟩
          obtain ⟨⟨x', y'⟩, Va, Rl⟩ := List.mem_map.1 hm
          obtain ⟨Vb, Vc⟩ := List.mem_filter.1 Va
          have Rl : x' = x := Rl
          subst Rl
          obtain ⟨e3, _⟩ := er d2 Vb
          rw [e1] at e3; injection e3 with e3; subst e3
          exact LF ((O6 _).1 Vc)
        split at aD
        · split at aD
          · rename_i r' dy
            injection aD with aD; injection aD with h1 h2
            subst h1; subst h2
            refine fin bK (fun v w' β' p2 p1 p3 p4 p5 => ?_) hk
            have hh := hr.H9 sP rf FT Ej (sout := sout) d2 LI p1 p2 (fun y sc hy => ⟨Ia y sc hy, (p3.1 y sc hy).1, fun b hb => ((p3.1 y sc hy).2 b hb).2⟩) (fun b hb => .inl hb) (fun b hb => hb.imp id (fun h => h.1))
            refine ⟨β, _, hh.put (c9 d1) ?_⟩
            cases r with
            | pv p => injection dy with dy; subst dy; exact p4
            | mL c => injection dy with dy; subst dy; exact p4
            | dead => cases dy
            | cv _ _ _ => cases dy
            | kf _ _ => cases dy
            | dV _ => cases dy
            | ptr y off =>
              simp only [sW] at dy
              split at dy
              · rename_i x hx
                injection dy with dy; subst dy
                have hm := dY hx
                obtain ⟨Hv, b, hb, hv⟩ := p4
                obtain ⟨k1, k2⟩ := nP x y hx Hv (by simp [tG])
                exact ⟨jG.2 k1, b, by rw [p1 y (iw d2 σ (fun p hp => hp) x y hm) k2] at hb; unfold βX at hb; rw [hx] at hb; exact hb, hv⟩
              · cases dy
            | mM g y =>
              simp only [sW] at dy
              split at dy
              · rename_i x hx
                injection dy with dy; subst dy
                have hm := dY hx
                obtain ⟨Hv, b, hb, hv⟩ := p4
                obtain ⟨k1, k2⟩ := nP x y hx Hv (by simp [tG])
                exact ⟨jG.2 k1, b, by rw [p1 y (iw d2 σ (fun p hp => hp) x y hm) k2] at hb; unfold βX at hb; rw [hx] at hb; exact hb, hv⟩
              · cases dy
            | row y off len sz =>
              simp only [sW] at dy
              split at dy
              · rename_i x hx
                injection dy with dy; subst dy
                have hm := dY hx
                obtain ⟨Hv, p4⟩ := p4
                obtain ⟨k1, k2⟩ := nP x y hx Hv (by simp [tG])
                have Ke : β' y = β x := by rw [p1 y (iw d2 σ (fun p hp => hp) x y hm) k2]; unfold βX; rw [hx]; rfl
                exact ⟨jG.2 k1, by rw [← Ke]; exact p4⟩
              · cases dy
            | kN y off len sz ps =>
              simp only [sW] at dy
              split at dy
              · rename_i x hx
                injection dy with dy; subst dy
                have hm := dY hx
                obtain ⟨us, q1, q2, ⟨u, q3, Hv, q4⟩, q5⟩ := p4
                obtain ⟨k1, k2⟩ := nP x y hx Hv (by simp [tG])
                have Ke : β' y = β x := by rw [p1 y (iw d2 σ (fun p hp => hp) x y hm) k2]; unfold βX; rw [hx]; rfl
                exact ⟨us, q1, q2, ⟨u, q3, jG.2 k1, by rw [← Ke]; exact q4⟩, q5⟩
              · cases dy
          · cases aD
        · rename_i y d
          split at aD
          · rename_i sc r' gD oB Vd dy
            cases j0 : Nat.blt d Γ.n with
            | false => simp [j0] at aD
            | true =>
              simp only [j0, cond_true] at aD
              have O7 : d < Γ.n := Nat.le_of_ble_eq_true j0
              injection aD with aD; injection aD with h1 h2
              subst h1; subst h2
              refine fin bK (fun v w' β' p2 p1 p3 p4 p5 => ?_) hk
              have hh := hr.H9 sP rf FT Ej (sout := sout) d2 LI p1 p2 (fun y sc hy => ⟨Ia y sc hy, (p3.1 y sc hy).1, fun b hb => ((p3.1 y sc hy).2 b hb).2⟩) (fun b hb => .inl hb) (fun b hb => hb.imp id (fun h => h.1))
              have Rm : ¬ aS (kW σ sout (fc (givenBy σ) s).sto) d := fun h => by
                have := rf _ (jG.1 h)
                unfold aS at this; rw [oB] at this; cases this
              have Ve : ¬ aS (kV s.sto σ) y := fun h => by
                obtain ⟨sc2, KB⟩ := Option.isSome_iff_exists.1 h
                obtain ⟨x, g1, _⟩ := mo d2 σ (fun p hp => hp) y sc2 KB
                rw [Vd] at g1; cases g1
              have O8 : aS sout y := by unfold aS; rw [gD]; rfl
              have mh : d < 999999 := Nat.lt_of_lt_of_le O7 Γ.small
              have ji := hh.site (d := d) (sc := sc) mh Rm (fun h => absurd (hs d h) (Nat.not_le_of_lt O7)) (β' := fun z => if z = d then β' y else β z) (fun r iO => by simp [iO]) (fun b hb => by
                have hb : β' y = some b := by simpa using hb
                rcases p5 y b O8 Ve hb with hf | hf
                · refine ⟨hf.2, ((p3.1 y sc gD).2 b hb).2, .inl (Nat.le_trans hr.aN.size hf.1), fun x hx GU => ?_⟩
                  have := hr.lb x b (rf _ (jG.1 hx)) GU
                  have := hf.1; omega
                · obtain ⟨q1, q2, q3⟩ := hr.given rf FT Ej d2 hf
                  exact ⟨Nat.lt_of_lt_of_le q2 p2.size, ((p3.1 y sc gD).2 b hb).2, q1, fun x hx GU => q3 x (jG.1 hx) GU⟩) ((p3.1 y sc gD).1.closed (Ia y sc gD) (by simp) (fun _ h => h))
              refine ⟨_, _, ji.put (c9 d1) ?_⟩
              have key : ∀ z x, (bif Nat.beq y z then some d else et σ z) = some x → aS sout z → aS ((d, sc) :: kW σ sout (fc (givenBy σ) s).sto) x ∧ (fun z => if z = d then β' y else β z) x = β' z := by
                intro z x LJ KC
                cases hb : Nat.beq y z with
                | true =>
                  have : y = z := Nat.eq_of_beq_eq_true hb
                  subst this
                  simp only [hb, cond_true] at LJ
                  injection LJ with LJ; subst LJ
                  exact ⟨(cZ mh).2 (.inl rfl), by simp⟩
                | false =>
                  simp only [hb, cond_false] at LJ
                  have hm := dY LJ
                  obtain ⟨_, _, sc2, KB, _⟩ := er d2 hm
                  obtain ⟨k1, k2⟩ := nP x z LJ KC (by intro h; have : y = z := Nat.eq_of_beq_eq_true h; subst this; simp at hb)
                  have iO : x ≠ d := fun e => by subst e; rw [oB] at KB; cases KB
                  refine ⟨(cZ mh).2 (.inr (jG.2 k1)), ?_⟩
                  simp only [if_neg iO]
                  rw [p1 z (iw d2 σ (fun p hp => hp) x z hm) k2]; unfold βX; rw [LJ]; rfl
              cases r with
              | pv p => injection dy with dy; subst dy; exact p4
              | mL c => injection dy with dy; subst dy; exact p4
              | dead => cases dy
              | cv _ _ _ => cases dy
              | kf _ _ => cases dy
              | dV _ => cases dy
              | ptr z off =>
                simp only [sW] at dy
                split at dy
                · rename_i x hx
                  injection dy with dy; subst dy
                  obtain ⟨KC, p4⟩ := p4
                  obtain ⟨k1, k2⟩ := key z x hx KC
                  exact ⟨k1, by rw [k2]; exact p4⟩
                · cases dy
              | mM g z =>
                simp only [sW] at dy
                split at dy
                · rename_i x hx
                  injection dy with dy; subst dy
                  obtain ⟨KC, p4⟩ := p4
                  obtain ⟨k1, k2⟩ := key z x hx KC
                  exact ⟨k1, by rw [k2]; exact p4⟩
                · cases dy
              | row z off len sz =>
                simp only [sW] at dy
                split at dy
                · rename_i x hx
                  injection dy with dy; subst dy
                  obtain ⟨KC, p4⟩ := p4
                  obtain ⟨k1, k2⟩ := key z x hx KC
                  exact ⟨k1, by rw [k2]; exact p4⟩
                · cases dy
              | kN z off len sz ps =>
                simp only [sW] at dy
                split at dy
                · rename_i x hx
                  injection dy with dy; subst dy
                  obtain ⟨us, q1, q2, ⟨u, q3, KC, q4⟩, q5⟩ := p4
                  obtain ⟨k1, k2⟩ := key z x hx KC
                  exact ⟨us, q1, q2, ⟨u, q3, k1, by rw [k2]; exact q4⟩, q5⟩
                · cases dy
          · cases aD
    · cases aD
  · cases aD
end
end Go.Proofs.YtfjfekodeplcoaaGreat.Sym
