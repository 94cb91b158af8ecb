/- Lemmas for the statements of this seat. -/
import Derived.Test.YtfjfekodeplcoaaGreatWSymLz
namespace Go.Proofs.YtfjfekodeplcoaaGreat.Sym
open Go Go.RowKit
section
variable {P:Program} {T:jZ} {Γ:Ctx} {s s':St} {a:Act} {w:World} {β:Nat→Option Nat} {I:Nat→Prop} {o:Oper} {h:Hint} {ob:List Prop}
theorem Ab {f : FuncId} (hc : mu P f) {args : Array Operand} {GC : Array TypeId} (rh : o.op = .call ⟨.value (.func f), args, GC⟩) : (execOp a.eval o).run P w = .ok (.enter f (args.map a.eval)) w := by
  obtain ⟨fn, h1, h2, h3⟩ := hc
  have hb : fn.body ≠ none := by intro e; rw [e] at h2; cases h2
  have FU : fn.name ≠ "runtime.NumGoroutine" := by simpa using h3
  simp [execOp, rh, resolve, Act.eval, Deferred.ofValue, invoke, callFunc, h1, FU, hb]
def l3(env:Env):List Operand→Option (List PV)
 |[]=>some []
 |x::r=>match c9 env x,l3 env r with
  |some (.pv p),some ps=>some (p::ps)
  |_,_=>none
theorem rq(hr:cO Γ s a w β I):∀(xs:List Operand) (ps:List PV),l3 s.env xs=some ps→xs.length=ps.length∧∀(j:Nat) p x,ps[j]? = some p→xs[j]? = some x→Rd I w p (a.eval x)
 |[],ps,h=>by injection h with h;subst h;exact⟨rfl,fun j p x hp=>by simp at hp⟩
 |x::r,ps,h=>by
  unfold l3 at h
  split at h
  ·rename_i p qs hx hq
   injection h with h;subst h
   obtain⟨h1,h2⟩:=rq hr r qs hq
   refine⟨by simp[h1],fun j q y hj hy => ?_⟩
   cases j with
   |zero=>simp at hj hy;subst hj hy;exact hr.BW x _ hx
   |succ j=>exact h2 j q y (by simpa using hj) (by simpa using hy)
  ·cases h
def rr(P:Program)(n:Nat)(o:Oper)(h:Hint)(s:St):Option (St×List Prop) :=
 match o.op,h with
 |.call c,.pv r=>match c.callee,l3 s.env c.args.toList with
  |.value (.func f),some ps=>bif jH n o.dst then some (⟨nj s.env o.dst (.pv r),s.sto⟩,[fK P f ps r]) else none
  |_,_=>none
 |_,_=>none
theorem iw(β:Nat→Option Nat)(I:Nat→Prop)(w:World):tZ β I w [] :=
 ⟨fun r sc h=>(by rw[aN.get_nil] at h;cases h),fun r r' b h=>absurd h fY⟩
theorem FY(hr:cO Γ s a w β I){f:FuncId}{ps:List PV}{r:PV}{vs:Array Value}(hc:fK P f ps r)(hl:vs.size=ps.length)(hv:∀(j:Nat) p v,ps[j]? = some p→vs[j]? = some v→Rd I w p v) :
  Calls P f vs w fun e w'=>∃v,e = .returned v∧wx w.heap.size w w'∧Rd (fun b=>I b∨fresh w w' b) w' r v:=by
 refine(hc.2 I w β vs hr.ib (iw _ _ _) (by simp[hl]) (fun j e v he zn => ?_)).mono fun e w' hp => ?_
 ·rw[List.getElem?_map] at he
  cases hj:ps[j]? with
  |none=>simp[hj] at he
  |some p =>
   simp[hj] at he
   subst he
   exact hv j p v hj zn
 ·obtain⟨v,β',rfl,_,hk,_,z7,_⟩:=hp
  have sN:∀x,¬bk [] x:=fun x h=>by exact fY h
  refine⟨v,rfl,⟨⟨hk.os,hk.tape,hk.output,hk.size,fun k wZ=>hk.block k wZ (fun ⟨x,hx,_⟩=>sN x hx)⟩,hk.drawn⟩,?_⟩
  exact Rd.mono (I:=fun b=>I b∨((fresh w w' b∨BV [] β b)∧∀x,bk [] x→β' x≠some b)) z7 (fun b hb=>hb.imp id (fun h=>h.1.elim id (fun ⟨x,_,hx,_⟩=>absurd hx (sN x)))) (fun _ _ _=>rfl)
theorem ru(hr:Rel Γ s a w)(aP:rr P Γ.n o h s=some (s',ob))(cd:dw ob){K:Act→World→Prop}{Q:Exit→Act→World→Prop}
  (hk:∀a' w',Rel Γ s' a' w'→K a' w'):o.wp P a w K Q:=by
 obtain⟨β,I,hr⟩:=hr
 unfold rr at aP
 split at aP
 ·rename_i c r rh
  split at aP
  ·rename_i f ps oz mP
   cases hd:jH Γ.n o.dst with
   |false=>simp[hd] at aP
   |true =>
    simp only[hd,cond_true] at aP
    injection aP with aP;injection aP with h1 h2
    subst h1;subst h2
    have hc:fK P f ps r:=cd
    obtain⟨cl,args,GC⟩:=c
    have oz:cl = .value (.func f):=oz
    subst oz
    obtain⟨hl,tc⟩:=rq hr args.toList ps mP
    unfold Oper.wp
    rw[Ab hc.1 rh]
    rw[Oper.upon_enter]
    refine(FY hr hc (vs:=args.map a.eval) (by simpa using hl) (fun j p v hp hv => ?_)).mono fun e w' xD => ?_
    ·simp only[Array.getElem?_map] at hv
     cases hx:args[j]? with
     |none=>simp[hx] at hv
     |some x =>
      simp[hx] at hv
      subst hv
      exact tc j p x hp (by simpa using hx)
    ·obtain⟨v,rfl,hb,z7⟩:=xD
     exact hk _ _ ⟨β,_,(hr.grow hb (fun b h => .inl h) (fun b h=>h)).put (eb hd) z7⟩
  ·cases aP
 ·cases aP
theorem cO.LW(h:cO Γ s a w β I){t:Nat}{e:EV}(he:RE β (bk s.sto) I w e (a.tmps.getD t undef)):cO Γ ⟨(t,e)::s.env,s.sto⟩ a w β I:=by
 refine⟨fun t' e' gr => ?_,h.sto,h.par,h.new,h.ib,h.ii,h.aH,h.size,h.defers⟩
 have gr:Env.get ((t,e)::s.env) t'=some e':=gr
 simp only[Env.get] at gr
 cases hb:Nat.beq t t' with
 |true =>
  have:t=t':=Nat.eq_of_beq_eq_true hb
  subst this
  simp only[hb,cond_true] at gr
  injection gr with gr;subst gr
  exact he
 |false =>
  simp only[hb,cond_false] at gr
  exact h.env t' e' gr
theorem cO.NX(h:cO Γ s a w β I){b:Nat}(hb:b<w.heap.size)(hw:Γ.Nw b)(hs:∀x,bk s.sto x→β x≠some b):cO Γ s a w β (fun x=>I x∨x=b):=by
 refine⟨fun t e he=>(h.env t e he).mono (fun _ _=>rfl) (fun _ h=>h) (fun _ h => .inl h) (fun _ _ _=>rfl) (fun _ _ _ _=>rfl),⟨fun r sc hr => ?_,h.sto.2⟩,h.par,h.new,fun x hx => ?_,fun x hx => ?_,h.aH,h.size,h.defers⟩
 ·obtain⟨g1,g2⟩:=h.sto.1 r sc hr
  have u7:bk s.sto r:=by unfold bk;rw[hr];rfl
  refine⟨g1.mono rfl (fun _ _=>rfl) (fun _ _=>rfl) (fun _ h=>h) (fun _ h => .inl h) (fun _ _ _=>rfl) (fun _ _ _ _=>rfl),fun b' cX=>⟨(g2 b' cX).1,fun hx => ?_⟩⟩
  rcases hx with hx|hx
  ·exact(g2 b' cX).2 hx
  ·subst hx;exact hs r u7 cX
 ·rcases hx with hx|hx
  ·exact h.ib x hx
  ·subst hx;exact hb
 ·rcases hx with hx|hx
  ·exact h.ii x hx
  ·subst hx;exact .inr (hw.imp (fun h=>⟨h,hb⟩) id)
theorem xQ{L:Nat→Prop}{r len sz:Nat}{v:Value}{ps:List PV}{xs:List (List PV)}(hv:RE β L I w (.row r 0 len sz) v)(BX:RB β L I w r (ps.map EV.pv))(h1:len=xs.length)(h2:ps=xs.flatten)
  (h3:∀row∈xs,row.length=sz) {I':Nat→Prop} (hI:∀b,I b→I' b) (GJ:∀b,β r=some b→I' b):Rd I' w (.list xs) v:=by
 obtain⟨_,⟨_,rfl,rfl⟩|⟨b,c,hb,rfl,hc,_⟩⟩:=hv
 ·have:xs=[]:=List.eq_nil_of_length_eq_zero h1.symm
  subst this
  exact .nil _ _
 ·obtain⟨arr,el,hg,_,tQ⟩:=qq BX hb
  subst h1;subst h2
  have key:∀(i j:Nat) row x,xs[i]? = some row→row[j]? = some x→∃u,arr[i*sz+j]? = some u∧u.oneCell'=true∧Rd I w x u:=fun i j row x hi hj=>tQ _ x (pG h3 hi hj)
  refine .list xs b 0 c sz (fun i j=>arr.getD (i*sz+j) undef) hc (GJ b hb) (fun i row hi=>h3 row (List.mem_of_getElem? hi)) (fun i j row x hi hj => ?_) (fun i j row x hi hj => ?_)
  ·obtain⟨u,g1,g2,g3⟩:=key i j row x hi hj
   refine⟨PV.iS g3 g2,?_⟩
   rw[Nat.zero_add,cell_of_row w b _ arr el (0,0) hg,g1]
   simp[Array.getD_eq_getD_getElem?,g1]
  ·obtain⟨u,g1,g2,g3⟩:=key i j row x hi hj
   simp only[Array.getD_eq_getD_getElem?,g1,Option.getD_some]
   exact g3.mono hI (fun _ _ _=>rfl)
def w5(n t:Nat)(xs:List (List PV))(s:St):Option (St×List Prop) :=
 match s.env.get t with
 |some (.row r 0 len sz)=>match s.sto.get r with
  |some (.pure ps)=>bif Nat.blt r n&&Nat.blt t n then some (⟨(t,.pv (.list xs))::(kill r s).env,(kill r s).sto⟩,[len=xs.length,ps=xs.flatten,∀row∈xs,row.length=sz]) else none
  |_=>none
 |_=>none
theorem sP(hs:∀r,bk Γ.sin r→Γ.n≤r){t:Nat}{xs:List (List PV)}(hr:Rel Γ s a w)(aP:w5 Γ.n t xs s=some (s',ob))(cd:dw ob):Rel Γ s' a w:=by
 obtain⟨β,I,hr⟩:=hr
 unfold w5 at aP
 split at aP
 ·rename_i r len sz he
  split at aP
  ·rename_i ps mP
   cases hb:(Nat.blt r Γ.n&&Nat.blt t Γ.n) with
   |false=>simp[hb] at aP
   |true =>
    simp only[hb,cond_true] at aP
    simp only[Bool.and_eq_true] at hb
    have JL:r<Γ.n:=Nat.le_of_ble_eq_true hb.1
    injection aP with aP;injection aP with h1 h2
    subst h1;subst h2
    obtain⟨g1,cd⟩:=cd.cons
    obtain⟨g2,g3⟩:=cd.cons
    have hv:=hr.env t _ he
    have BX:=(hr.sto.1 r _ mP).1
    have u7:bk s.sto r:=by unfold bk;rw[mP];rfl
    have Ce:¬bk Γ.sin r:=fun h=>absurd (hs r h) (Nat.not_le_of_lt JL)
    cases mX:β r with
    |none=>exact⟨β,I,(hr.kill r).LW (xQ hv BX g1 g2 g3 (fun _ h=>h) (fun b cX=>by rw[mX] at cX;cases cX))⟩
    |some b =>
     have hk:=(hr.kill r).NX (b:=b) ((hr.sto.1 r _ mP).2 b mX).1 (hr.new r b u7 (.inl Ce) mX) (fun x hx e=>(ew.1 hx).2 (hr.sto.2 x r b (ew.1 hx).1 u7 e mX))
     exact⟨β,_,hk.LW (xQ hv BX g1 g2 g3 (fun _ h => .inl h) (fun b' cX=>by rw[mX] at cX;injection cX with cX;exact .inr cX.symm))⟩
  ·cases aP
 ·cases aP
def Ho(s:St)(o:Oper):Option St :=
 match o.op with
 |.call c=>match c.args.toList with
  |x::_=>match c9 s.env x with
   |some (.row r _ len sz)=>match s.sto.get r with
    |some (.pure ps)=>some ⟨s.env,aN.set s.sto r (.pure (ps.take (len*sz)))⟩
    |_=>none
   |_=>none
  |_=>none
 |_=>none
theorem Cl{s1:St}(hr:Rel Γ s a w)(h:Ho s o=some s1):Rel Γ s1 a w:=by
 unfold Ho at h
 split at h
 ·split at h
  ·split at h
   ·split at h
    ·rename_i mP
     injection h with h;subst h
     exact hr.cut mP
    ·cases h
   ·cases h
  ·cases h
 ·cases h
def xR(T:jZ)(n:Nat)(o:Oper)(h:Hint)(s:St):Option (St×List Prop) :=
 match h with
 |.q8 l _ xs=>match ui T n o (.app l xs.flatten) s,o.dst with
  |some (s1,GK),some d=>match w5 n d xs s1 with
   |some (s2,ob2)=>some (s2,GK++ob2)
   |none=>none
  |_,_=>none
 |.row l out=>match Ho s o with
  |some s1=>ue D1 T n o (.app l out) s1
  |none=>none
 |_=>ui T n o h s
theorem xS(hT:mN P T)(hs:∀r,bk Γ.sin r→Γ.n≤r)(hr:Rel Γ s a w)(aP:xR T Γ.n o h s=some (s',ob))(cd:dw ob){K:Act→World→Prop}{Q:Exit→Act→World→Prop}
  (hk:∀a' w',Rel Γ s' a' w'→K a' w'):o.wp P a w K Q:=by
 unfold xR at aP
 split at aP
 ·rename_i l u xs
  split at aP
  ·rename_i s1 GK d h1 hd
   split at aP
   ·rename_i s2 ob2 h2
    injection aP with aP;injection aP with e1 e2
    subst e1;subst e2
    obtain⟨g1,g2⟩:=cd.app
    exact rn hT hs hr h1 g1 (fun a' w' dx=>hk a' w' (sP hs dx h2 g2))
   ·cases aP
  ·cases aP
 ·rename_i l out
  split at aP
  ·rename_i s1 h1
   exact rm (fun hr=>JP hr) hT hs (Cl hr h1) aP cd hk
  ·cases aP
 ·exact rn hT hs hr aP cd hk
def assoc:List (Nat×Nat)→Nat→Option Nat
 |[],_=>none
 |(x',y)::r,x=>bif Nat.beq x' x then some y else assoc r x
def fe:List (Nat×Nat)→Nat→Option Nat
 |[],_=>none
 |(x,y')::r,y=>bif Nat.beq y' y then some x else fe r y
def ti:Option Nat→Nat→Bool
 |some x,y=>Nat.beq x y
 |none,_=>false
def fL:SC→Bool
 |.pure _=>true
 |.lit cs=>cs.all fun | .pv _=>true|_=>false
 |_=>false
def l4(sto:aN)(σ:List (Nat×Nat)):Bool :=
 σ.all fun p=>(Nat.blt p.1 999999&&Nat.blt p.2 999999)&&ti (assoc σ p.1) p.2&&ti (fe σ p.2) p.1&&(match sto.get p.1 with
  |some sc=>fL sc
  |none=>false)
def lP(sto:aN):List (Nat×Nat)→aN
 |[]=>[]
 |(x,y)::σ=>match sto.get x with
  |some sc=>(y,sc)::lP sto σ
  |none=>lP sto σ
def kX(σ:List (Nat×Nat))(sout:aN):aN→aN
 |[]=>[]
 |(x,sc)::sto=>(x,bif Nat.blt x 999999 then (match assoc σ x with
  |some y=>match aN.get sout y with
   |some sc'=>sc'
   |none=>sc
  |none=>sc) else sc)::kX σ sout sto
def sF(σ:Nat→Option Nat):EV→Option EV
 |.pv p=>some (.pv p)
 |.ptr x o=>match σ x with
  |some y=>some (.ptr y o)
  |none=>none
 |.row x o l z=>match σ x with
  |some y=>some (.row y o l z)
  |none=>none
 |.nh c=>some (.nh c)
 |.ni x o l z ps=>match σ x with
  |some y=>some (.ni y o l z ps)
  |none=>none
 |.lX f x=>match σ x with
  |some y=>some (.lX f y)
  |none=>none
 |.dead=>none
 |.ox .. => none
 |.mM .. => none
 |.gj .. => none
def Cm(nx:Bool)(env:Env)(x:Operand):Option EV :=
 match nx,x with
 |true,.const (.slice none 0 0)=>some (.pv .fu)
 |_,x=>c9 env x
def NY:EV→Bool
 |.ni .. => true
 |.row .. => true
 |_=>false
theorem cO.Tu(hr:cO Γ s a w β I)(nx:Bool)(x:Operand)(e:EV)(h:Cm nx s.env x=some e):RE β (bk s.sto) I w e (a.eval x):=by
 unfold Cm at h
 split at h
 ·injection h with h;subst h;exact Rd.fu
 ·exact hr.BW x e h
def Ac(nx:Bool)(env:Env)(σ:Nat→Option Nat):List Operand→Option (List EV)
 |[]=>some []
 |x::r=>match Cm nx env x,Ac nx env σ r with
  |some e,some es=>match sF σ e with
   |some e'=>some (e'::es)
   |none=>none
  |_,_=>none
def JR(σ:Nat→Option Nat)(env:Env):Operand→Option (FuncId×List EV)
 |.func f=>some (f,[])
 |x=>match c9 env x with
  |some (.lX f r)=>match σ r with
   |some y=>some (f,[.ptr y 0])
   |none=>none
  |some (.pv (.fn f))=>some (f,[])
  |_=>none
def eZ:List Nat→St→St
 |[],s=>s
 |r::rs,s=>eZ rs (kill r s)
theorem cO.eZ:∀(rs:List Nat) {s:St},cO Γ s a w β I→cO Γ (eZ rs s) a w β I
 |[],_,h=>h
 |r::rs,_,h=>cO.eZ rs (h.kill r)
theorem oE:∀(rs:List Nat) {s:St} {x:Nat},bk (eZ rs s).sto x↔bk s.sto x∧x ∉ rs
 |[],s,x=>by simp[eZ]
 |r::rs,s,x=>by
  show bk (eZ rs (kill r s)).sto x↔_
  rw[oE rs]
  show bk (dh r s.sto) x∧_↔_
  rw[ew]
  simp only[List.mem_cons,not_or,and_assoc]
def pB(x:Nat):Bool:=Nat.ble 200000 x
def givenBy(σ:List (Nat×Nat)):List Nat:=(σ.filter fun p=>pB p.2).map (·.1)
def pO (P : Program) (n : Nat) (o : Oper) (h : Hint) (s : St) : Option (St × List Prop) :=
  match o.op, h with
  | .call c, .bz σ nw r sout => match c.callee with
    | .value g => match JR (assoc σ) s.env g, Ac (NY r) s.env (assoc σ) c.args.toList with
     | some (f, ex), some es => bif jH n o.dst && l4 s.sto σ && σ.all (fun p => bif pB p.2 then Nat.blt p.1 n else (aN.get sout p.2).isSome) && sout.all (fun p => Nat.blt p.1 999999 && fL p.2 && (((fe σ p.1).isSome && !pB p.1) || ti (nw.map (·.1)) p.1)) then
        match nw with
        | none => match sF (fe σ) r with
          | some r' => some (⟨nj (eZ (givenBy σ) s).env o.dst r', kX σ sout (eZ (givenBy σ) s).sto⟩, [aw P f (es ++ ex) (lP s.sto σ) r sout])
          | none => none
        | some (y, d) => match aN.get sout y, s.sto.get d, fe σ y, sF (fun z => bif Nat.beq y z then some d else fe σ z) r with
          | some sc, none, none, some r' => bif Nat.blt d n then some (⟨nj (eZ (givenBy σ) s).env o.dst r', (d, sc) :: kX σ sout (eZ (givenBy σ) s).sto⟩, [aw P f (es ++ ex) (lP s.sto σ) r sout]) else none
          | _, _, _, _ => none
      else none
     | _, _ => none
    | _ => none
  | _, _ => none
theorem gf:∀{σ:List (Nat×Nat)} {x y:Nat},assoc σ x=some y→(x,y)∈σ
 |[],x,y,h=>by cases h
 |(x',y')::r,x,y,h=>by
  simp only[assoc] at h
  cases hb:Nat.beq x' x with
  |true =>
   have:x'=x:=Nat.eq_of_beq_eq_true hb
   subst this
   simp only[hb,cond_true] at h
   injection h with h;subst h;simp
  |false =>
   simp only[hb,cond_false] at h
   exact List.mem_cons_of_mem _ (gf h)
theorem fM:∀{σ:List (Nat×Nat)} {x y:Nat},fe σ y=some x→(x,y)∈σ
 |[],x,y,h=>by cases h
 |(x',y')::r,x,y,h=>by
  simp only[fe] at h
  cases hb:Nat.beq y' y with
  |true =>
   have:y'=y:=Nat.eq_of_beq_eq_true hb
   subst this
   simp only[hb,cond_true] at h
   injection h with h;subst h;simp
  |false =>
   simp only[hb,cond_false] at h
   exact List.mem_cons_of_mem _ (fM h)
theorem aN.uj:∀{sto:aN} {y:Nat} {sc:SC},aN.dX sto y=some sc→(y,sc)∈sto
 |[],y,sc,h=>by cases h
 |(y',sc')::r,y,sc,h=>by
  simp only[aN.dX] at h
  cases hb:Nat.beq y' y with
  |true =>
   have:y'=y:=Nat.eq_of_beq_eq_true hb
   subst this
   simp only[hb,cond_true] at h
   injection h with h;subst h;simp
  |false =>
   simp only[hb,cond_false] at h
   exact List.mem_cons_of_mem _ (aN.uj h)
theorem aN.get_mem{sto:aN}{y:Nat}{sc:SC}(h:aN.get sto y=some sc):(y,sc)∈sto∨(1000000≤y∧∃xs,(999999,SC.heap xs)∈sto):=by
 rcases B1 y with hy|rfl|⟨j,rfl⟩
 ·rw[aN.kf hy] at h;exact .inl (aN.uj h)
 ·rw[aN.eY] at h;cases h
 ·right
  refine⟨by unfold hc;omega,?_⟩
  rw[aN.kS] at h
  unfold aN.hp at h
  split at h
  ·rename_i xs hg;exact⟨xs,aN.uj hg⟩
  ·simp[qi] at h
theorem aN.xT{sto:aN}(JS:∀p∈sto,p.1<999999){y:Nat}{sc:SC}(h:aN.get sto y=some sc):(y,sc)∈sto:=by
 rcases aN.get_mem h with h|⟨_,xs,h⟩
 ·exact h
 ·have:=JS _ h;simp at this
theorem pS{o:Option Nat}{y:Nat}(h:ti o y=true):o=some y:=by
 cases o with
 |none=>cases h
 |some x=>rw[Nat.eq_of_beq_eq_true h]
theorem ve{sto:aN}{σ:List (Nat×Nat)}(h:l4 sto σ=true){x y:Nat}(hm:(x,y)∈σ):x<999999∧y<999999:=by
 unfold l4 at h
 rw[List.all_eq_true] at h
 have:=h (x,y) hm
 simp only[Bool.and_eq_true] at this
 exact⟨Nat.le_of_ble_eq_true this.1.1.1.1,Nat.le_of_ble_eq_true this.1.1.1.2⟩
theorem et{sto:aN}{σ:List (Nat×Nat)}(h:l4 sto σ=true){x y:Nat}(hm:(x,y)∈σ) :
  assoc σ x=some y∧fe σ y=some x∧∃sc,sto.get x=some sc∧fL sc=true:=by
 unfold l4 at h
 rw[List.all_eq_true] at h
 have:=h (x,y) hm
 simp only[Bool.and_eq_true] at this
 obtain⟨⟨⟨_,h1⟩,h2⟩,h3⟩:=this
 refine⟨pS h1,pS h2,?_⟩
 split at h3
 ·rename_i sc lO;exact⟨sc,lO,h3⟩
 ·cases h3
theorem nT{sto:aN}{σ0:List (Nat×Nat)}(mL:l4 sto σ0=true):∀(σ:List (Nat×Nat)),(∀p∈σ,p∈σ0)→∀(y:Nat) sc,(lP sto σ).get y=some sc→∃x,fe σ0 y=some x∧assoc σ0 x=some y∧sto.get x=some sc
 |[],_,y,sc,h=>by rw[lP,aN.get_nil] at h;cases h
 |(x,y')::σ,hm,y,sc,h=>by
  obtain⟨g1,g2,EX,g3,_⟩:=et mL (hm (x,y') (by simp))
  simp only[lP,g3] at h
  rw[aN.bW (ve mL (hm (x,y') (by simp))).2] at h
  cases hb:Nat.beq y' y with
  |true =>
   have:y'=y:=Nat.eq_of_beq_eq_true hb
   subst this
   simp only[hb,cond_true] at h
   injection h with h;subst h
   exact⟨x,g2,g1,g3⟩
  |false =>
   simp only[hb,cond_false] at h
   exact nT mL σ (fun p hp=>hm p (by simp[hp])) y sc h
theorem im{sto:aN}{σ0:List (Nat×Nat)}(mL:l4 sto σ0=true):∀(σ:List (Nat×Nat)),(∀p∈σ,p∈σ0)→∀x y,(x,y)∈σ→bk (lP sto σ) y
 |[],_,x,y,h=>by cases h
 |(x',y')::σ,hm,x,y,h=>by
  obtain⟨g1,g2,EX,g3,_⟩:=et mL (hm (x',y') (by simp))
  have Nr:=(ve mL (hm (x',y') (by simp))).2
  simp only[lP,g3]
  rcases List.mem_cons.1 h with h|h
  ·injection h with h1 h2;subst h2
   exact(dy Nr).2 (.inl rfl)
  ·exact(dy Nr).2 (.inr (im mL σ (fun p hp=>hm p (by simp[hp])) x y h))
theorem rz(σ:List (Nat×Nat))(sout:aN):∀(sto:aN) (x:Nat),(kX σ sout sto).dX x=(sto.dX x).map (fun sc=>bif Nat.blt x 999999 then (match assoc σ x with
  |some y=>match aN.get sout y with
   |some sc'=>sc'
   |none=>sc
  |none=>sc) else sc)
 |[],x=>rfl
 |(x',sc)::sto,x=>by
  simp only[kX,aN.dX]
  cases hb:Nat.beq x' x with
  |true =>
   have:x'=x:=Nat.eq_of_beq_eq_true hb
   subst this
   rfl
  |false=>exact rz σ sout sto x
theorem xU(σ:List (Nat×Nat))(sout sto:aN)(x:Nat):(kX σ sout sto).get x=(sto.get x).map (fun sc=>bif Nat.blt x 999999 then (match assoc σ x with
  |some y=>match aN.get sout y with
   |some sc'=>sc'
   |none=>sc
  |none=>sc) else sc):=by
 rcases B1 x with h|rfl|⟨j,rfl⟩
 ·rw[aN.kf h,aN.kf h,rz]
 ·rw[aN.eY,aN.eY];rfl
 ·rw[aN.kS,aN.kS,show Nat.blt (hc j) 999999=false from Bool.eq_false_iff.2 (fun h=>by have:=Nat.le_of_ble_eq_true h;unfold hc at this;omega)]
  unfold aN.hp
  rw[rz]
  cases sto.dX 999999 with
  |none=>simp[qi]
  |some sc =>
   simp only[Option.map_some,show Nat.blt 999999 999999=false from rfl,cond_false]
   cases qi (match some sc with
    |some (SC.heap xs)=>xs
    |_=>[]) j<;>rfl
theorem jq{σ:List (Nat×Nat)}{sout sto:aN}{x:Nat} : bk (kX σ sout sto) x↔bk sto x:=by
 unfold bk
 rw[xU]
 simp
theorem zB{sc:SC}(h:fL sc=true):∀e∈sc.pE,∃p,e = .pv p:=by
 intro e he
 cases sc with
 |pure ps =>
  obtain⟨p,_,rfl⟩:=List.mem_map.1 he
  exact⟨p,rfl⟩
 |lit cs =>
  unfold fL at h
  rw[List.all_eq_true] at h
  have:=h e he
  cases e<;>first|exact⟨_,rfl⟩|cases this
 |heap _=>cases h
 |DI _ _=>cases h
theorem RB.closed{β β':Nat→Option Nat}{L L' I I':Nat→Prop}{w:World}{r r':Nat}{sc:SC}(hc:fL sc=true)(h:RB β L I w r sc.pE)(hb:β' r'=β r)(hI:∀b,I b→I' b):RB β' L' I' w r' sc.pE:=by
 rcases h with ⟨h1,h2⟩|⟨b,arr,el,h1,h2,h3⟩
 ·exact .inl ⟨hb.trans h1,h2⟩
 ·refine .inr ⟨b,arr,el,hb.trans h1,h2,fun j e he => ?_⟩
  obtain⟨u,g1,g2,g3⟩:=h3 j e he
  obtain⟨p,rfl⟩:=zB hc e (List.mem_of_getElem? he)
  exact⟨u,g1,g2,Rd.mono g3 hI (fun _ _ _=>rfl)⟩
def βX(β:Nat→Option Nat)(σ:List (Nat×Nat))(y:Nat):Option Nat:=(fe σ y).bind β
theorem cO.given(hr:cO Γ s a w β I){σ:List (Nat×Nat)}{s1:St}(ri:∀x,bk s1.sto x→bk s.sto x)(GL:∀x y,bk s1.sto x→assoc σ x=some y→¬gv y)
  (Hp:∀x y b,assoc σ x=some y→gv y→bk s.sto x→β x=some b→Γ.Nw b) (mL:l4 s.sto σ=true) {b:Nat} (h:BV (lP s.sto σ) (βX β σ) b):Γ.Nw b∧b<w.heap.size∧∀x,bk s1.sto x→β x≠some b:=by
 obtain⟨y,hg,hy,Cn⟩:=h
 obtain⟨sc,lO⟩:=Option.isSome_iff_exists.1 hy
 obtain⟨x,g1,g2,g3⟩:=nT mL σ (fun p hp=>hp) y sc lO
 unfold βX at Cn
 rw[g1] at Cn
 have h2:bk s.sto x:=by unfold bk;rw[g3];rfl
 refine⟨Hp x y b g2 hg h2 Cn,hr.lb x b h2 Cn,fun x' uk e => ?_⟩
 have:=hr.sto.2 x x' b h2 (ri x' uk) Cn e
 subst this
 exact GL x y uk g2 hg
theorem cO.Hq (hr : cO Γ s a w β I) {σ : List (Nat × Nat)} {s1 : St} (AI : cO Γ s1 a w β I) (ri : ∀ x, bk s1.sto x → bk s.sto x) (GL : ∀ x y, bk s1.sto x → assoc σ x = some y → ¬ gv y)
    (Hp : ∀ x y b, assoc σ x = some y → gv y → bk s.sto x → β x = some b → Γ.Nw b) {sout : aN} {β' : Nat → Option Nat} {w' : World} {I' : Nat → Prop} (mL : l4 s.sto σ = true) (G4 : ∀ p ∈ σ, ¬ gv p.2 → bk sout p.2)
    (hb : ∀ y, bk (lP s.sto σ) y → ¬ gv y → β' y = βX β σ y) (hk : gD (fun b => ∃ y, bk (lP s.sto σ) y ∧ βX β σ y = some b) w w')
    (Co : ∀ y sc, aN.get sout y = some sc → fL sc = true ∧ RB β' (bk sout) I' w' y sc.pE ∧ ∀ b, β' y = some b → ¬ I' b) (NZ : ∀ b, I b → I' b) (Ji : ∀ b, I' b → I b ∨ fresh w w' b ∨ BV (lP s.sto σ) (βX β σ) b) :
    cO Γ ⟨s1.env, kX σ sout s1.sto⟩ a w' β I' := by
  have oD : ∀ b y, bk (lP s.sto σ) y → βX β σ y = some b → ∃ x, assoc σ x = some y ∧ bk s.sto x ∧ β x = some b := by
    intro b y hy Cn
    obtain ⟨sc, lO⟩ := Option.isSome_iff_exists.1 hy
    obtain ⟨x, g1, g2, g3⟩ := nT mL σ (fun p hp => hp) y sc lO
    unfold βX at Cn
    rw [g1] at Cn
    exact ⟨x, g2, by unfold bk; rw [g3]; rfl, Cn⟩
  have Tv : ∀ b, I b → ¬ ∃ y, bk (lP s.sto σ) y ∧ βX β σ y = some b := by
    intro b hI ⟨y, hy, Cn⟩
    obtain ⟨x, _, hd, FZ⟩ := oD b y hy Cn
    obtain ⟨sc, lO⟩ := Option.isSome_iff_exists.1 hd
    exact ((hr.sto.1 x sc lO).2 b FZ).2 hI
  have Qb : ∀ b, BV (lP s.sto σ) (βX β σ) b → Γ.Nw b ∧ b < w.heap.size ∧ ∀ x, bk s1.sto x → β x ≠ some b := fun b h => hr.given ri GL Hp mL h
  have hw : ∀ b o, I b → w'.cell? ⟨b, o, none⟩ = w.cell? ⟨b, o, none⟩ := fun b o hI => eX (hk.block b (hr.ib b hI) (Tv b hI)) o
  have hL : ∀ x, bk s1.sto x → bk (kX σ sout s1.sto) x := fun x hx => jq.2 hx
  have xF : ∀ r b, bk s1.sto r → β r = some b → w'.shape? b = w.shape? b := fun r b hd cX => hk.shape b (AI.lb r b hd cX)
  refine ⟨fun t e he => (AI.env t e he).mono (fun _ _ => rfl) hL NZ hw xF, ⟨fun x sc hx => ?_, fun x y b hx hy => AI.sto.2 x y b (jq.1 hx) (jq.1 hy)⟩,
    fun x hx => AI.par x (jq.1 hx), fun x b hx => AI.new x b (jq.1 hx), fun b hI => ?_, fun b hI => ?_, ?_, AI.size, AI.defers⟩
  · have hx : (kX σ sout s1.sto).get x = some sc := hx
    rw [xU] at hx
    cases hg : s1.sto.get x with
    | none => rw [hg] at hx; cases hx
    | some EX =>
      rw [hg] at hx
      simp only [Option.map_some, Option.some.injEq] at hx
      obtain ⟨k1, k2⟩ := AI.sto.1 x EX hg
      have wY : bk s1.sto x := by unfold bk; rw [hg]; rfl
      have Pk : Nat.blt x 999999 = false → assoc σ x = none := fun hb => by
        cases ha : assoc σ x with
        | none => rfl
        | some y => rw [show Nat.blt x 999999 = true from Nat.ble_eq_true_of_le (ve mL (gf ha)).1] at hb; cases hb
      have hx : (match assoc σ x with
        | some y => match aN.get sout y with
          | some sc' => sc'
          | none => EX
        | none => EX) = sc := by
        cases hb : Nat.blt x 999999 with
        | true => rw [hb] at hx; exact hx
        | false => rw [hb] at hx; rw [Pk hb]; exact hx
      cases ha : assoc σ x with
      | some y =>
        have hm := gf ha
        have KV := GL x y wY ha
        obtain ⟨_, Tw, _⟩ := et mL hm
        obtain ⟨sc', F0⟩ := Option.isSome_iff_exists.1 (G4 (x, y) hm KV)
        simp only [ha, F0] at hx
        subst hx
        obtain ⟨c1, c2, c3⟩ := Co y sc' F0
        have Jh : β' y = β x := by
          rw [hb y (im mL σ (fun p hp => hp) x y hm) KV]
          unfold βX; rw [Tw]; rfl
        exact ⟨c2.closed c1 Jh.symm (fun _ h => h), fun b cX => ⟨Nat.lt_of_lt_of_le (k2 b cX).1 hk.size, c3 b (Jh.trans cX)⟩⟩
      | none =>
        simp only [ha] at hx
        subst hx
        refine ⟨k1.mono rfl (fun b cX => hk.block b (AI.lb x b wY cX) (fun hM => ?_)) (fun _ _ => rfl) hL NZ hw xF, fun b cX => ⟨Nat.lt_of_lt_of_le (k2 b cX).1 hk.size, fun hI => ?_⟩⟩
        · obtain ⟨y2, Ns, Qc⟩ := hM
          obtain ⟨x2, h1, h2, h3⟩ := oD b y2 Ns Qc
          have := hr.sto.2 x x2 b (ri x wY) h2 cX h3
          subst this
          rw [ha] at h1; cases h1
        · rcases Ji b hI with h | h | h
          · exact (k2 b cX).2 h
          · have := (k2 b cX).1; have := h.1; omega
          · exact (Qb b h).2.2 x wY cX
  · rcases Ji b hI with h | h | h
    · exact Nat.lt_of_lt_of_le (hr.ib b h) hk.size
    · exact h.2
    · exact Nat.lt_of_lt_of_le (Qb b h).2.1 hk.size
  · rcases Ji b hI with h | h | h
    · rcases hr.ii b h with h3 | h3
      · exact .inl h3
      · exact .inr (h3.imp (fun h3 => ⟨h3.1, Nat.lt_of_lt_of_le h3.2 hk.size⟩) id)
    · exact .inr (.inl ⟨Nat.le_trans hr.aH.size h.1, h.2⟩)
    · obtain ⟨h1, h2, _⟩ := Qb b h
      exact .inr (h1.imp (fun h1 => ⟨h1, Nat.lt_of_lt_of_le h2 hk.size⟩) id)
  · refine hr.aH.trans hk (fun b cN hM => ?_)
    obtain ⟨y, hy, Cn⟩ := hM
    obtain ⟨x, _, hd, FZ⟩ := oD b y hy Cn
    by_cases Cq : bk Γ.sin x ∧ ¬ gv x
    · exact ⟨x, Cq.1, by rw [← hr.par x hd Cq.1 Cq.2]; exact FZ⟩
    · exact (hr.new x b hd (by by_cases h : bk Γ.sin x; · exact .inr (Classical.byContradiction fun h2 => Cq ⟨h, h2⟩)
                               · exact .inl h) FZ).m cN
theorem xV(nx:Bool)(hr:cO Γ s a w β I){σ:List (Nat×Nat)}(mL:l4 s.sto σ=true):∀(xs:List Operand) (es:List EV),Ac nx s.env (assoc σ) xs=some es→xs.length=es.length ∧
  ∀(j:Nat) e x,es[j]? = some e→xs[j]? = some x→RE (βX β σ) (bk (lP s.sto σ)) I w e (a.eval x)
 |[],es,h=>by injection h with h;subst h;exact⟨rfl,fun j p x hp=>by simp at hp⟩
 |x::r,es,h=>by
  unfold Ac at h
  split at h
  ·rename_i e Nt he GA
   split at h
   ·rename_i e' gr
    injection h with h;subst h
    obtain⟨h1,h2⟩:=xV nx hr mL r Nt GA
    refine⟨by simp[h1],fun j q y hj hy => ?_⟩
    cases j with
    |zero =>
     simp at hj hy;subst hj hy
     have hx:=hr.Tu nx x _ he
     cases e with
     |pv p=>injection gr with gr;subst gr;exact hx
     |nh c=>injection gr with gr;subst gr;exact hx
     |dead=>cases gr
     |ox _ _ _=>cases gr
     |mM _ _=>cases gr
     |gj _=>cases gr
     |ptr z off =>
      simp only[sF] at gr
      split at gr
      ·rename_i y hy
       injection gr with gr;subst gr
       have hm:=gf hy
       obtain⟨_,hR,_⟩:=et mL hm
       obtain⟨_,b,hb,hv⟩:=hx
       exact⟨im mL σ (fun p hp=>hp) z y hm,b,by unfold βX;rw[hR];exact hb,hv⟩
      ·cases gr
     |lX g z =>
      simp only[sF] at gr
      split at gr
      ·rename_i y hy
       injection gr with gr;subst gr
       have hm:=gf hy
       obtain⟨_,hR,_⟩:=et mL hm
       obtain⟨_,b,hb,hv⟩:=hx
       exact⟨im mL σ (fun p hp=>hp) z y hm,b,by unfold βX;rw[hR];exact hb,hv⟩
      ·cases gr
     |row z off len sz =>
      simp only[sF] at gr
      split at gr
      ·rename_i y hy
       injection gr with gr;subst gr
       have hm:=gf hy
       obtain⟨_,hR,_⟩:=et mL hm
       have Jj:βX β σ y=β z:=by unfold βX;rw[hR];rfl
       obtain⟨_,hx⟩:=hx
       exact⟨im mL σ (fun p hp=>hp) z y hm,by rw[Jj];exact hx⟩
      ·cases gr
     |ni z off len sz ps =>
      simp only[sF] at gr
      split at gr
      ·rename_i y hy
       injection gr with gr;subst gr
       have hm:=gf hy
       obtain⟨_,hR,_⟩:=et mL hm
       have Jj:βX β σ y=β z:=by unfold βX;rw[hR];rfl
       obtain⟨us,g1,g2,⟨u,g3,_,g4⟩,g5⟩:=hx
       exact⟨us,g1,g2,⟨u,g3,im mL σ (fun p hp=>hp) z y hm,by rw[Jj];exact g4⟩,g5⟩
      ·cases gr
    |succ j=>exact h2 j q y (by simpa using hj) (by simpa using hy)
   ·cases h
  ·cases h
theorem F1(hr:cO Γ s a w β I){σ:List (Nat×Nat)}(mL:l4 s.sto σ=true){g:Operand}{f:FuncId}{ex:List EV}(h:JR (assoc σ) s.env g=some (f,ex)) :
  ∃cap:Array Value,a.eval g = .func (.func f) #[] cap∧ex.length=cap.size∧∀(j:Nat) e v,ex[j]? = some e→cap[j]? = some v→RE (βX β σ) (bk (lP s.sto σ)) I w e v:=by
 unfold JR at h
 split at h
 ·rename_i f'
  injection h with h;injection h with h1 h2
  subst h1;subst h2
  exact⟨#[],by simp[Act.eval],rfl,fun j e v he=>by simp at he⟩
 ·split at h
  ·rename_i f' r he
   split at h
   ·rename_i y hy
    injection h with h;injection h with h1 h2
    subst h1;subst h2
    obtain⟨_,b,hb,hv⟩:=hr.BW g _ he
    have hm:=gf hy
    obtain⟨_,hR,_⟩:=et mL hm
    refine⟨#[.pointer (some ⟨b,0,none⟩)],hv,rfl,fun j e v he hv => ?_⟩
    cases j with
    |zero =>
     simp at he hv;subst he;subst hv
     exact⟨im mL σ (fun p hp=>hp) r y hm,b,by unfold βX;rw[hR];exact hb,rfl⟩
    |succ j=>simp at he
   ·cases h
  ·rename_i f' he
   injection h with h;injection h with h1 h2
   subst h1;subst h2
   have hv:Rd I w (.fn f') (a.eval g):=hr.BW g _ he
   refine⟨#[],?_,rfl,fun j e v he=>by simp at he⟩
   generalize a.eval g=v at hv
   cases hv;rfl
  ·cases h
theorem D2 {f : FuncId} (hc : mu P f) {g : Operand} {cap : Array Value} (hv : a.eval g = .func (.func f) #[] cap) {args : Array Operand} {GC : Array TypeId} (rh : o.op = .call ⟨.value g, args, GC⟩) :
    (execOp a.eval o).run P w = .ok (.enter f (args.map a.eval ++ cap)) w := by
  obtain ⟨fn, h1, h2, h3⟩ := hc
  have hb : fn.body ≠ none := by intro e; rw [e] at h2; cases h2
  have FU : fn.name ≠ "runtime.NumGoroutine" := by simpa using h3
  simp [execOp, rh, resolve, hv, Deferred.ofValue, invoke, callFunc, h1, FU, hb]
theorem qV (hs : ∀ r, bk Γ.sin r → Γ.n ≤ r) (hr : Rel Γ s a w) (aP : pO P Γ.n o h s = some (s', ob)) (cd : dw ob) {K : Act → World → Prop} {Q : Exit → Act → World → Prop}
    (hk : ∀ a' w', Rel Γ s' a' w' → K a' w') : o.wp P a w K Q := by
  obtain ⟨β, I, hr⟩ := hr
  unfold pO at aP
  split at aP
  · rename_i c σ nw r sout rh
    split at aP
    case h_2 => cases aP
    rename_i g oz
    split at aP
    · rename_i f ex es hg GA
      cases hd : (jH Γ.n o.dst && l4 s.sto σ && σ.all (fun p => bif pB p.2 then Nat.blt p.1 Γ.n else (aN.get sout p.2).isSome) && sout.all (fun p => Nat.blt p.1 999999 && fL p.2 && (((fe σ p.1).isSome && !pB p.1) || ti (nw.map (·.1)) p.1))) with
      | false => simp [hd] at aP
      | true =>
        simp only [hd, cond_true] at aP
        simp only [Bool.and_eq_true] at hd
        obtain ⟨⟨⟨d1, d2⟩, d3⟩, d4⟩ := hd
        rw [List.all_eq_true] at d3 d4
        obtain ⟨cl, args, GC⟩ := c
        have oz : cl = .value g := oz
        subst oz
        obtain ⟨cap, Tx, Qd, Ty⟩ := F1 hr d2 hg
        obtain ⟨hl, tc⟩ := xV _ hr d2 args.toList es GA
        have N0 : tZ (βX β σ) I w (lP s.sto σ) := by
          refine ⟨fun y sc hy => ?_, fun y y' b hy Cr h1 h2 => ?_⟩
          · obtain ⟨x, g1, g2, g3⟩ := nT d2 σ (fun p hp => hp) y sc hy
            obtain ⟨_, _, Vt, g4, g5⟩ := et d2 (fM g1)
            rw [g3] at g4; injection g4 with g4; subst g4
            have Jj : βX β σ y = β x := by unfold βX; rw [g1]; rfl
            obtain ⟨k1, k2⟩ := hr.sto.1 x sc g3
            exact ⟨k1.closed g5 Jj (fun _ h => h), fun b hb => k2 b (Jj.symm.trans hb)⟩
          · obtain ⟨sc, lO⟩ := Option.isSome_iff_exists.1 hy
            obtain ⟨sc', F0⟩ := Option.isSome_iff_exists.1 Cr
            obtain ⟨x, g1, g2, g3⟩ := nT d2 σ (fun p hp => hp) y sc lO
            obtain ⟨x', Pm, GH, Pn⟩ := nT d2 σ (fun p hp => hp) y' sc' F0
            have e1 : β x = some b := by unfold βX at h1; rw [g1] at h1; exact h1
            have e2 : β x' = some b := by unfold βX at h2; rw [Pm] at h2; exact h2
            have := hr.sto.2 x x' b (by unfold bk; rw [g3]; rfl) (by unfold bk; rw [Pn]; rfl) e1 e2
            subst this
            rw [g2] at GH; injection GH with GH
        have fin : ∀ (hc : aw P f (es ++ ex) (lP s.sto σ) r sout) {s2 : St}, (∀ v w' β', gD (fun b => ∃ y, bk (lP s.sto σ) y ∧ βX β σ y = some b) w w' → (∀ y, bk (lP s.sto σ) y → ¬ gv y → β' y = βX β σ y) →
              tZ β' (fun b => I b ∨ ((fresh w w' b ∨ BV (lP s.sto σ) (βX β σ) b) ∧ ∀ x, bk sout x → β' x ≠ some b)) w' sout → RE β' (bk sout) (fun b => I b ∨ ((fresh w w' b ∨ BV (lP s.sto σ) (βX β σ) b) ∧ ∀ x, bk sout x → β' x ≠ some b)) w' r v →
              (∀ x b, bk sout x → ¬ bk (lP s.sto σ) x → β' x = some b → fresh w w' b ∨ BV (lP s.sto σ) (βX β σ) b) → Rel Γ s2 (a.put o.dst v) w') → (∀ a' w', Rel Γ s2 a' w' → K a' w') → o.wp P a w K Q := by
          intro hc s2 D3 hk
          unfold Oper.wp
          rw [D2 hc.1 Tx rh]
          rw [Oper.upon_enter]
          have GD : args.size = es.length := by simpa using hl
          refine (hc.2 I w (βX β σ) (args.map a.eval ++ cap) hr.ib N0 (by rw [List.length_append, Array.size_append, Array.size_map, GD, Qd]) (fun j e v he hv => ?_)).mono fun e w' hp => ?_
          · by_cases hj : j < es.length
            · rw [List.getElem?_append_left hj] at he
              rw [Array.getElem?_append_left (by rw [Array.size_map]; omega), Array.getElem?_map] at hv
              cases hx : args[j]? with
              | none => simp [hx] at hv
              | some x =>
                simp [hx] at hv
                subst hv
                exact tc j e x he (by simpa using hx)
            · rw [List.getElem?_append_right (by omega)] at he
              rw [Array.getElem?_append_right (by rw [Array.size_map]; omega), Array.size_map, GD] at hv
              exact Ty _ e v he hv
          · obtain ⟨v, β', rfl, p1, p2, p3, p4, p5⟩ := hp
            exact hk _ _ (D3 v w' β' p2 p1 p3 p4 p5)
        have JS : ∀ p ∈ sout, p.1 < 999999 := fun p hp => by
          have := d4 p hp
          simp only [Bool.and_eq_true] at this
          exact Nat.le_of_ble_eq_true this.1.1
        have Hr : ∀ y sc, aN.get sout y = some sc → fL sc = true := by
          intro y sc hy
          obtain ⟨p, hp, h1⟩ : ∃ p ∈ sout, p.2 = sc := by
            exact ⟨(y, sc), aN.xT JS hy, rfl⟩
          have := d4 p hp
          simp only [Bool.and_eq_true] at this
          rw [← h1]; exact this.1.2
        have N1 : ∀ y, pB y = true ↔ gv y := fun y => ⟨Nat.le_of_ble_eq_true, Nat.ble_eq_true_of_le⟩
        have KW : ∀ p ∈ σ, ¬ gv p.2 → bk sout p.2 := fun p hp hg => by
          have := d3 p hp
          rw [Bool.eq_false_iff.2 (fun h => hg ((N1 _).1 h)), cond_false] at this
          exact this
        have AI := hr.eZ (givenBy σ)
        have ri : ∀ x, bk (eZ (givenBy σ) s).sto x → bk s.sto x := fun x hx => ((oE _).1 hx).1
        have GL : ∀ x y, bk (eZ (givenBy σ) s).sto x → assoc σ x = some y → ¬ gv y := fun x y hx ha hg => ((oE _).1 hx).2 (List.mem_map.2 ⟨(x, y), List.mem_filter.2 ⟨gf ha, (N1 y).2 hg⟩, rfl⟩)
        have Hp : ∀ x y b, assoc σ x = some y → gv y → bk s.sto x → β x = some b → Γ.Nw b := fun x y b ha hg wY hb => by
          have := d3 _ (gf ha)
          rw [(N1 y).2 hg, cond_true] at this
          exact hr.new x b wY (.inl (fun h => absurd (hs x h) (Nat.not_le_of_lt (Nat.le_of_ble_eq_true this)))) hb
        have nQ : ∀ x y, fe σ y = some x → bk sout y → ¬ ti (nw.map (·.1)) y = true → bk (eZ (givenBy σ) s).sto x ∧ ¬ gv y := by
          intro x y hx hy iN
          obtain ⟨sc, lO⟩ := Option.isSome_iff_exists.1 hy
          have := d4 _ (aN.xT JS lO)
          simp only [Bool.and_eq_true, Bool.or_eq_true, Bool.not_eq_true'] at this
          have KV : ¬ gv y := fun hg => by
            rcases this.2 with h | h
            · rw [(N1 y).2 hg] at h; exact absurd h.2 (by simp)
            · exact iN h
          obtain ⟨e1, _, Qe, e2, _⟩ := et d2 (fM hx)
          refine ⟨(oE _).2 ⟨by unfold bk; rw [e2]; rfl, fun hm => ?_⟩, KV⟩
          obtain ⟨⟨x', y'⟩, Tz, Qf⟩ := List.mem_map.1 hm
          obtain ⟨TA, TB⟩ := List.mem_filter.1 Tz
          have Qf : x' = x := Qf
          subst Qf
          obtain ⟨e3, _⟩ := et d2 TA
          rw [e1] at e3; injection e3 with e3; subst e3
          exact KV ((N1 _).1 TB)
        split at aP
        · split at aP
          · rename_i r' dx
            injection aP with aP; injection aP with h1 h2
            subst h1; subst h2
            refine fin cd (fun v w' β' p2 p1 p3 p4 p5 => ?_) hk
            have hh := hr.Hq AI ri GL Hp (sout := sout) d2 KW p1 p2 (fun y sc hy => ⟨Hr y sc hy, (p3.1 y sc hy).1, fun b hb => ((p3.1 y sc hy).2 b hb).2⟩) (fun b hb => .inl hb) (fun b hb => hb.imp id (fun h => h.1))
            refine ⟨β, _, hh.put (eb d1) ?_⟩
            cases r with
            | pv p => injection dx with dx; subst dx; exact p4
            | nh c => injection dx with dx; subst dx; exact p4
            | dead => cases dx
            | ox _ _ _ => cases dx
            | mM _ _ => cases dx
            | gj _ => cases dx
            | ptr y off =>
              simp only [sF] at dx
              split at dx
              · rename_i x hx
                injection dx with dx; subst dx
                have hm := fM hx
                obtain ⟨Jk, b, hb, hv⟩ := p4
                obtain ⟨k1, k2⟩ := nQ x y hx Jk (by simp [ti])
                exact ⟨jq.2 k1, b, by rw [p1 y (im d2 σ (fun p hp => hp) x y hm) k2] at hb; unfold βX at hb; rw [hx] at hb; exact hb, hv⟩
              · cases dx
            | lX g y =>
              simp only [sF] at dx
              split at dx
              · rename_i x hx
                injection dx with dx; subst dx
                have hm := fM hx
                obtain ⟨Jk, b, hb, hv⟩ := p4
                obtain ⟨k1, k2⟩ := nQ x y hx Jk (by simp [ti])
                exact ⟨jq.2 k1, b, by rw [p1 y (im d2 σ (fun p hp => hp) x y hm) k2] at hb; unfold βX at hb; rw [hx] at hb; exact hb, hv⟩
              · cases dx
            | row y off len sz =>
              simp only [sF] at dx
              split at dx
              · rename_i x hx
                injection dx with dx; subst dx
                have hm := fM hx
                obtain ⟨Jk, p4⟩ := p4
                obtain ⟨k1, k2⟩ := nQ x y hx Jk (by simp [ti])
                have Jj : β' y = β x := by rw [p1 y (im d2 σ (fun p hp => hp) x y hm) k2]; unfold βX; rw [hx]; rfl
                exact ⟨jq.2 k1, by rw [← Jj]; exact p4⟩
              · cases dx
            | ni y off len sz ps =>
              simp only [sF] at dx
              split at dx
              · rename_i x hx
                injection dx with dx; subst dx
                have hm := fM hx
                obtain ⟨us, q1, q2, ⟨u, q3, Jk, q4⟩, q5⟩ := p4
                obtain ⟨k1, k2⟩ := nQ x y hx Jk (by simp [ti])
                have Jj : β' y = β x := by rw [p1 y (im d2 σ (fun p hp => hp) x y hm) k2]; unfold βX; rw [hx]; rfl
                exact ⟨us, q1, q2, ⟨u, q3, jq.2 k1, by rw [← Jj]; exact q4⟩, q5⟩
              · cases dx
          · cases aP
        · rename_i y d
          split at aP
          · rename_i sc r' lO sM TC dx
            cases sC : Nat.blt d Γ.n with
            | false => simp [sC] at aP
            | true =>
              simp only [sC, cond_true] at aP
              have N2 : d < Γ.n := Nat.le_of_ble_eq_true sC
              injection aP with aP; injection aP with h1 h2
              subst h1; subst h2
              refine fin cd (fun v w' β' p2 p1 p3 p4 p5 => ?_) hk
              have hh := hr.Hq AI ri GL Hp (sout := sout) d2 KW p1 p2 (fun y sc hy => ⟨Hr y sc hy, (p3.1 y sc hy).1, fun b hb => ((p3.1 y sc hy).2 b hb).2⟩) (fun b hb => .inl hb) (fun b hb => hb.imp id (fun h => h.1))
              have Qg : ¬ bk (kX σ sout (eZ (givenBy σ) s).sto) d := fun h => by
                have := ri _ (jq.1 h)
                unfold bk at this; rw [sM] at this; cases this
              have TF : ¬ bk (lP s.sto σ) y := fun h => by
                obtain ⟨Qe, JT⟩ := Option.isSome_iff_exists.1 h
                obtain ⟨x, g1, _⟩ := nT d2 σ (fun p hp => hp) y Qe JT
                rw [TC] at g1; cases g1
              have Qh : bk sout y := by unfold bk; rw [lO]; rfl
              have q6 : d < 999999 := Nat.lt_of_lt_of_le N2 Γ.small
              have oD := hh.site (d := d) (sc := sc) q6 Qg (fun h => absurd (hs d h) (Nat.not_le_of_lt N2)) (β' := fun z => if z = d then β' y else β z) (fun r iN => by simp [iN]) (fun b hb => by
                have hb : β' y = some b := by simpa using hb
                rcases p5 y b Qh TF hb with hf | hf
                · refine ⟨hf.2, ((p3.1 y sc lO).2 b hb).2, .inl (Nat.le_trans hr.aH.size hf.1), fun x hx FZ => ?_⟩
                  have := hr.lb x b (ri _ (jq.1 hx)) FZ
                  have := hf.1; omega
                · obtain ⟨q1, q2, q3⟩ := hr.given ri GL Hp d2 hf
                  exact ⟨Nat.lt_of_lt_of_le q2 p2.size, ((p3.1 y sc lO).2 b hb).2, q1, fun x hx FZ => q3 x (jq.1 hx) FZ⟩) ((p3.1 y sc lO).1.closed (Hr y sc lO) (by simp) (fun _ h => h))
              refine ⟨_, _, oD.put (eb d1) ?_⟩
              have key : ∀ z x, (bif Nat.beq y z then some d else fe σ z) = some x → bk sout z → bk ((d, sc) :: kX σ sout (eZ (givenBy σ) s).sto) x ∧ (fun z => if z = d then β' y else β z) x = β' z := by
                intro z x KX JU
                cases hb : Nat.beq y z with
                | true =>
                  have : y = z := Nat.eq_of_beq_eq_true hb
                  subst this
                  simp only [hb, cond_true] at KX
                  injection KX with KX; subst KX
                  exact ⟨(dy q6).2 (.inl rfl), by simp⟩
                | false =>
                  simp only [hb, cond_false] at KX
                  have hm := fM KX
                  obtain ⟨_, _, Qe, JT, _⟩ := et d2 hm
                  obtain ⟨k1, k2⟩ := nQ x z KX JU (by intro h; have : y = z := Nat.eq_of_beq_eq_true h; subst this; simp at hb)
                  have iN : x ≠ d := fun e => by subst e; rw [sM] at JT; cases JT
                  refine ⟨(dy q6).2 (.inr (jq.2 k1)), ?_⟩
                  simp only [if_neg iN]
                  rw [p1 z (im d2 σ (fun p hp => hp) x z hm) k2]; unfold βX; rw [KX]; rfl
              cases r with
              | pv p => injection dx with dx; subst dx; exact p4
              | nh c => injection dx with dx; subst dx; exact p4
              | dead => cases dx
              | ox _ _ _ => cases dx
              | mM _ _ => cases dx
              | gj _ => cases dx
              | ptr z off =>
                simp only [sF] at dx
                split at dx
                · rename_i x hx
                  injection dx with dx; subst dx
                  obtain ⟨JU, p4⟩ := p4
                  obtain ⟨k1, k2⟩ := key z x hx JU
                  exact ⟨k1, by rw [k2]; exact p4⟩
                · cases dx
              | lX g z =>
                simp only [sF] at dx
                split at dx
                · rename_i x hx
                  injection dx with dx; subst dx
                  obtain ⟨JU, p4⟩ := p4
                  obtain ⟨k1, k2⟩ := key z x hx JU
                  exact ⟨k1, by rw [k2]; exact p4⟩
                · cases dx
              | row z off len sz =>
                simp only [sF] at dx
                split at dx
                · rename_i x hx
                  injection dx with dx; subst dx
                  obtain ⟨JU, p4⟩ := p4
                  obtain ⟨k1, k2⟩ := key z x hx JU
                  exact ⟨k1, by rw [k2]; exact p4⟩
                · cases dx
              | ni z off len sz ps =>
                simp only [sF] at dx
                split at dx
                · rename_i x hx
                  injection dx with dx; subst dx
                  obtain ⟨us, q1, q2, ⟨u, q3, JU, q4⟩, q5⟩ := p4
                  obtain ⟨k1, k2⟩ := key z x hx JU
                  exact ⟨us, q1, q2, ⟨u, q3, k1, by rw [k2]; exact q4⟩, q5⟩
                · cases dx
          · cases aP
    · cases aP
  · cases aP
end
end Go.Proofs.YtfjfekodeplcoaaGreat.Sym
