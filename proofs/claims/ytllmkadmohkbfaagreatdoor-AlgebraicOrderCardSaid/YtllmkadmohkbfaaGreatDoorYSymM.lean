/- The comparison of algebraic numbers is a total order that agrees with the comparison with fractions. The law AlgebraicOrder returns true for every input, with the tables of numerals of the Go library that the row lists as they are laid. -/
import Derived.Test.YtllmkadmohkbfaaGreatDoorYSymLz
namespace Go.Proofs.YtllmkadmohkbfaaGreatDoor.Sym
open Go Go.RowKit
section
variable {P:Program} {T:j0} {Γ:Ctx} {s s':St} {a:Act} {w:World} {β:Nat→Option Nat} {I:Nat→Prop} {o:Oper} {h:Hint} {ob:List Prop}
theorem Iv {f : FuncId} (hc : me P f) {args : Array Operand} {JA : Array TypeId} (s6 : o.op = .call ⟨.value (.func f), args, JA⟩) : (execOp a.eval o).run P w = .ok (.enter f (args.map a.eval)) w := by
  obtain ⟨fn, h1, h2, h3⟩ := hc
  have hb : fn.body ≠ none := by intro e; rw [e] at h2; cases h2
  have Jw : fn.name ≠ "runtime.NumGoroutine" := by simpa using h3
  simp [execOp, s6, resolve, Act.eval, Deferred.ofValue, invoke, callFunc, h1, Jw, hb]
def mH(env:Env):List Operand→Option (List PV)
 |[]=>some []
 |x::r=>match cZ env x,mH env r with
  |some (.pv p),some ps=>some (p::ps)
  |_,_=>none
theorem xf(hr:dh Γ s a w β I):∀(xs:List Operand) (ps:List PV),mH s.env xs=some ps→xs.length=ps.length∧∀(j:Nat) p x,ps[j]? = some p→xs[j]? = some x→Rd I w p (a.eval x)
 |[],ps,h=>by injection h with h;subst h;exact⟨rfl,fun j p x hp=>by simp at hp⟩
 |x::r,ps,h=>by
  unfold mH at h
  split at h
  ·rename_i p qs hx hq
   injection h with h;subst h
   obtain⟨h1,h2⟩:=xf hr r qs hq
   refine⟨by simp[h1],fun j q y hj hy => ?_⟩
   cases j with
   |zero=>simp at hj hy;subst hj hy;exact hr.DN x _ hx
   |succ j=>exact h2 j q y (by simpa using hj) (by simpa using hy)
  ·cases h
def rn(P:Program)(n:Nat)(o:Oper)(h:Hint)(s:St):Option (St×List Prop) :=
 match o.op,h with
 |.call c,.pv r=>match c.callee,mH s.env c.args.toList with
  |.value (.func f),some ps=>bif ky n o.dst then some (⟨nm s.env o.dst (.pv r),s.aG⟩,[eV P f ps r]) else none
  |_,_=>none
 |_,_=>none
theorem sq(β:Nat→Option Nat)(I:Nat→Prop)(w:World):uI β I w [] :=
 ⟨fun r sc h=>(by rw[aS.get_nil] at h;cases h),fun r r' b h=>absurd h pZ⟩
theorem Iw(hr:dh Γ s a w β I){f:FuncId}{ps:List PV}{r:PV}{vs:Array Value}(hc:eV P f ps r)(hl:vs.size=ps.length)(hv:∀(j:Nat) p v,ps[j]? = some p→vs[j]? = some v→Rd I w p v) :
  Calls P f vs w fun e w'=>∃v,e = .returned v∧AY w.heap.size w w'∧Rd (fun b=>I b∨fresh w w' b) w' r v:=by
 refine(hc.2 I w β vs hr.ib (sq _ _ _) (by simp[hl]) (fun j e v he DO => ?_)).mono fun e w' hp => ?_
 ·rw[List.getElem?_map] at he
  cases hj:ps[j]? with
  |none=>simp[hj] at he
  |some p =>
   simp[hj] at he
   subst he
   exact hv j p v hj DO
 ·obtain⟨v,β',rfl,_,hk,_,NQ,_⟩:=hp
  have ye:∀x,¬bM [] x:=fun x h=>by exact pZ h
  refine⟨v,rfl,⟨⟨hk.os,hk.tape,hk.output,hk.size,fun k It=>hk.block k It (fun ⟨x,hx,_⟩=>ye x hx)⟩,hk.drawn⟩,?_⟩
  exact Rd.mono (I:=fun b=>I b∨((fresh w w' b∨Ir [] β b)∧∀x,bM [] x→β' x≠some b)) NQ (fun b hb=>hb.imp id (fun h=>h.1.elim id (fun ⟨x,_,hx,_⟩=>absurd hx (ye x)))) (fun _ _ _=>rfl)
theorem rp(hr:Rel Γ s a w)(aI:rn P Γ.n o h s=some (s',ob))(cb:dA ob){K:Act→World→Prop}{Q:Exit→Act→World→Prop}
  (hk:∀a' w',Rel Γ s' a' w'→K a' w'):o.wp P a w K Q:=by
 obtain⟨β,I,hr⟩:=hr
 unfold rn at aI
 split at aI
 ·rename_i c r s6
  split at aI
  ·rename_i f ps qQ na
   cases hd:ky Γ.n o.dst with
   |false=>simp[hd] at aI
   |true =>
    simp only[hd,cond_true] at aI
    injection aI with aI;injection aI with h1 h2
    subst h1;subst h2
    have hc:eV P f ps r:=cb
    obtain⟨cl,args,JA⟩:=c
    have qQ:cl = .value (.func f):=qQ
    subst qQ
    obtain⟨hl,sZ⟩:=xf hr args.toList ps na
    unfold Oper.wp
    rw[Iv hc.1 s6]
    rw[Oper.upon_enter]
    refine(Iw hr hc (vs:=args.map a.eval) (by simpa using hl) (fun j p v hp hv => ?_)).mono fun e w' yM => ?_
    ·simp only[Array.getElem?_map] at hv
     cases hx:args[j]? with
     |none=>simp[hx] at hv
     |some x =>
      simp[hx] at hv
      subst hv
      exact sZ j p x hp (by simpa using hx)
    ·obtain⟨v,rfl,hb,NQ⟩:=yM
     exact hk _ _ ⟨β,_,(hr.grow hb (fun b h => .inl h) (fun b h=>h)).put (ej hd) NQ⟩
  ·cases aI
 ·cases aI
theorem dh.OW(h:dh Γ s a w β I){t:Nat}{e:EV}(he:RE β (bM s.aG) I w e (a.tmps.getD t undef)):dh Γ ⟨(t,e)::s.env,s.aG⟩ a w β I:=by
 refine⟨fun t' e' gn => ?_,h.aG,h.par,h.new,h.ib,h.ii,h.aH,h.size,h.defers⟩
 have gn:Env.get ((t,e)::s.env) t'=some e':=gn
 simp only[Env.get] at gn
 cases hb:Nat.beq t t' with
 |true =>
  have:t=t':=Nat.eq_of_beq_eq_true hb
  subst this
  simp only[hb,cond_true] at gn
  injection gn with gn;subst gn
  exact he
 |false =>
  simp only[hb,cond_false] at gn
  exact h.env t' e' gn
theorem dh.Re(h:dh Γ s a w β I){b:Nat}(hb:b<w.heap.size)(hw:Γ.Nw b)(hs:∀x,bM s.aG x→β x≠some b):dh Γ s a w β (fun x=>I x∨x=b):=by
 refine⟨fun t e he=>(h.env t e he).mono (fun _ _=>rfl) (fun _ h=>h) (fun _ h => .inl h) (fun _ _ _=>rfl) (fun _ _ _ _=>rfl),⟨fun r sc hr => ?_,h.aG.2⟩,h.par,h.new,fun x hx => ?_,fun x hx => ?_,h.aH,h.size,h.defers⟩
 ·obtain⟨g1,g2⟩:=h.aG.1 r sc hr
  have vY:bM s.aG r:=by unfold bM;rw[hr];rfl
  refine⟨g1.mono rfl (fun _ _=>rfl) (fun _ _=>rfl) (fun _ h=>h) (fun _ h => .inl h) (fun _ _ _=>rfl) (fun _ _ _ _=>rfl),fun b' eN=>⟨(g2 b' eN).1,fun hx => ?_⟩⟩
  rcases hx with hx|hx
  ·exact(g2 b' eN).2 hx
  ·subst hx;exact hs r vY eN
 ·rcases hx with hx|hx
  ·exact h.ib x hx
  ·subst hx;exact hb
 ·rcases hx with hx|hx
  ·exact h.ii x hx
  ·subst hx;exact .inr (hw.imp (fun h=>⟨h,hb⟩) id)
theorem y0{L:Nat→Prop}{r len sz:Nat}{v:Value}{ps:List PV}{xs:List (List PV)}(hv:RE β L I w (.row r 0 len sz) v)(G7:RB β L I w r (ps.map EV.pv))(h1:len=xs.length)(h2:ps=xs.flatten)
  (h3:∀row∈xs,row.length=sz) {I':Nat→Prop} (hI:∀b,I b→I' b) (TF:∀b,β r=some b→I' b):Rd I' w (.list xs) v:=by
 obtain⟨_,⟨_,rfl,rfl⟩|⟨b,c,hb,rfl,hc,_⟩⟩:=hv
 ·have:xs=[]:=List.eq_nil_of_length_eq_zero h1.symm
  subst this
  exact .nil _ _
 ·obtain⟨arr,el,hg,_,yK⟩:=tK G7 hb
  subst h1;subst h2
  have key:∀(i j:Nat) row x,xs[i]? = some row→row[j]? = some x→∃u,arr[i*sz+j]? = some u∧u.oneCell'=true∧Rd I w x u:=fun i j row x hi hj=>yK _ x (vR h3 hi hj)
  refine .list xs b 0 c sz (fun i j=>arr.getD (i*sz+j) undef) hc (TF b hb) (fun i row hi=>h3 row (List.mem_of_getElem? hi)) (fun i j row x hi hj => ?_) (fun i j row x hi hj => ?_)
  ·obtain⟨u,g1,g2,g3⟩:=key i j row x hi hj
   refine⟨PV.oa g3 g2,?_⟩
   rw[Nat.zero_add,cell_of_row w b _ arr el (0,0) hg,g1]
   simp[Array.getD_eq_getD_getElem?,g1]
  ·obtain⟨u,g1,g2,g3⟩:=key i j row x hi hj
   simp only[Array.getD_eq_getD_getElem?,g1,Option.getD_some]
   exact g3.mono hI (fun _ _ _=>rfl)
def yf(n t:Nat)(xs:List (List PV))(s:St):Option (St×List Prop) :=
 match s.env.get t with
 |some (.row r 0 len sz)=>match s.aG.get r with
  |some (.pure ps)=>bif Nat.blt r n&&Nat.blt t n then some (⟨(t,.pv (.list xs))::(kill r s).env,(kill r s).aG⟩,[len=xs.length,ps=xs.flatten,∀row∈xs,row.length=sz]) else none
  |_=>none
 |_=>none
theorem tm(hs:∀r,bM Γ.sin r→Γ.n≤r){t:Nat}{xs:List (List PV)}(hr:Rel Γ s a w)(aI:yf Γ.n t xs s=some (s',ob))(cb:dA ob):Rel Γ s' a w:=by
 obtain⟨β,I,hr⟩:=hr
 unfold yf at aI
 split at aI
 ·rename_i r len sz he
  split at aI
  ·rename_i ps na
   cases hb:(Nat.blt r Γ.n&&Nat.blt t Γ.n) with
   |false=>simp[hb] at aI
   |true =>
    simp only[hb,cond_true] at aI
    simp only[Bool.and_eq_true] at hb
    have My:r<Γ.n:=Nat.le_of_ble_eq_true hb.1
    injection aI with aI;injection aI with h1 h2
    subst h1;subst h2
    obtain⟨g1,cb⟩:=cb.cons
    obtain⟨g2,g3⟩:=cb.cons
    have hv:=hr.env t _ he
    have G7:=(hr.aG.1 r _ na).1
    have vY:bM s.aG r:=by unfold bM;rw[na];rfl
    have D6:¬bM Γ.sin r:=fun h=>absurd (hs r h) (Nat.not_le_of_lt My)
    cases mS:β r with
    |none=>exact⟨β,I,(hr.kill r).OW (y0 hv G7 g1 g2 g3 (fun _ h=>h) (fun b eN=>by rw[mS] at eN;cases eN))⟩
    |some b =>
     have hk:=(hr.kill r).Re (b:=b) ((hr.aG.1 r _ na).2 b mS).1 (hr.new r b vY (.inl D6) mS) (fun x hx e=>(ei.1 hx).2 (hr.aG.2 x r b (ei.1 hx).1 vY e mS))
     exact⟨β,_,hk.OW (y0 hv G7 g1 g2 g3 (fun _ h => .inl h) (fun b' eN=>by rw[mS] at eN;injection eN with eN;exact .inr eN.symm))⟩
  ·cases aI
 ·cases aI
def JP(s:St)(o:Oper):Option St :=
 match o.op with
 |.call c=>match c.args.toList with
  |x::_=>match cZ s.env x with
   |some (.row r _ len sz)=>match s.aG.get r with
    |some (.pure ps)=>some ⟨s.env,aS.set s.aG r (.pure (ps.take (len*sz)))⟩
    |_=>none
   |_=>none
  |_=>none
 |_=>none
theorem Ed{s1:St}(hr:Rel Γ s a w)(h:JP s o=some s1):Rel Γ s1 a w:=by
 unfold JP at h
 split at h
 ·split at h
  ·split at h
   ·split at h
    ·rename_i na
     injection h with h;subst h
     exact hr.cut na
    ·cases h
   ·cases h
  ·cases h
 ·cases h
def zc(T:j0)(n:Nat)(o:Oper)(h:Hint)(s:St):Option (St×List Prop) :=
 match h with
 |.iL l _ xs=>match uQ T n o (.app l xs.flatten) s,o.dst with
  |some (s1,Jc),some d=>match yf n d xs s1 with
   |some (s2,ob2)=>some (s2,Jc++ob2)
   |none=>none
  |_,_=>none
 |.row l out=>match JP s o with
  |some s1=>uO F4 T n o (.app l out) s1
  |none=>none
 |_=>uQ T n o h s
theorem zd(hT:mC P T)(hs:∀r,bM Γ.sin r→Γ.n≤r)(hr:Rel Γ s a w)(aI:zc T Γ.n o h s=some (s',ob))(cb:dA ob){K:Act→World→Prop}{Q:Exit→Act→World→Prop}
  (hk:∀a' w',Rel Γ s' a' w'→K a' w'):o.wp P a w K Q:=by
 unfold zc at aI
 split at aI
 ·rename_i l u xs
  split at aI
  ·rename_i s1 Jc d h1 hd
   split at aI
   ·rename_i s2 ob2 h2
    injection aI with aI;injection aI with e1 e2
    subst e1;subst e2
    obtain⟨g1,g2⟩:=cb.app
    exact rm hT hs hr h1 g1 (fun a' w' dG=>hk a' w' (tm hs dG h2 g2))
   ·cases aI
  ·cases aI
 ·rename_i l out
  split at aI
  ·rename_i s1 h1
   exact rl (fun hr=>MA hr) hT hs (Ed hr h1) aI cb hk
  ·cases aI
 ·exact rm hT hs hr aI cb hk
def assoc:List (Nat×Nat)→Nat→Option Nat
 |[],_=>none
 |(x',y)::r,x=>bif Nat.beq x' x then some y else assoc r x
def kg:List (Nat×Nat)→Nat→Option Nat
 |[],_=>none
 |(x,y')::r,y=>bif Nat.beq y' y then some x else kg r y
def we:Option Nat→Nat→Bool
 |some x,y=>Nat.beq x y
 |none,_=>false
def iM:SC→Bool
 |.pure _=>true
 |.lit cs=>cs.all fun | .pv _=>true|_=>false
 |_=>false
def lP(aG:aS)(σ:List (Nat×Nat)):Bool :=
 σ.all fun p=>(Nat.blt p.1 999999&&Nat.blt p.2 999999)&&we (assoc σ p.1) p.2&&we (kg σ p.2) p.1&&(match aG.get p.1 with
  |some sc=>iM sc
  |none=>false)
def lE(aG:aS):List (Nat×Nat)→aS
 |[]=>[]
 |(x,y)::σ=>match aG.get x with
  |some sc=>(y,sc)::lE aG σ
  |none=>lE aG σ
def kO(σ:List (Nat×Nat))(sout:aS):aS→aS
 |[]=>[]
 |(x,sc)::aG=>(x,bif Nat.blt x 999999 then (match assoc σ x with
  |some y=>match aS.get sout y with
   |some sc'=>sc'
   |none=>sc
  |none=>sc) else sc)::kO σ sout aG
def s9(σ:Nat→Option Nat):EV→Option EV
 |.pv p=>some (.pv p)
 |.ptr x o=>match σ x with
  |some y=>some (.ptr y o)
  |none=>none
 |.row x o l z=>match σ x with
  |some y=>some (.row y o l z)
  |none=>none
 |.n6 c=>some (.n6 c)
 |.n7 x o l z ps=>match σ x with
  |some y=>some (.n7 y o l z ps)
  |none=>none
 |.AT f x=>match σ x with
  |some y=>some (.AT f y)
  |none=>none
 |.dead=>none
 |.pg .. => none
 |.nj .. => none
def Ee(nx:Bool)(env:Env)(x:Operand):Option EV :=
 match nx,x with
 |true,.const (.slice none 0 0)=>some (.pv .dF)
 |_,x=>cZ env x
def Rf:EV→Bool
 |.n7 .. => true
 |.row .. => true
 |_=>false
theorem dh.Xi(hr:dh Γ s a w β I)(nx:Bool)(x:Operand)(e:EV)(h:Ee nx s.env x=some e):RE β (bM s.aG) I w e (a.eval x):=by
 unfold Ee at h
 split at h
 ·injection h with h;subst h;exact Rd.dF
 ·exact hr.DN x e h
def BA(nx:Bool)(env:Env)(σ:Nat→Option Nat):List Operand→Option (List EV)
 |[]=>some []
 |x::r=>match Ee nx env x,BA nx env σ r with
  |some e,some es=>match s9 σ e with
   |some e'=>some (e'::es)
   |none=>none
  |_,_=>none
def MC(σ:Nat→Option Nat)(env:Env):Operand→Option (FuncId×List EV)
 |.func f=>some (f,[])
 |x=>match cZ env x with
  |some (.AT f r)=>match σ r with
   |some y=>some (f,[.ptr y 0])
   |none=>none
  |some (.pv (.fn f))=>some (f,[])
  |_=>none
def eO:List Nat→St→St
 |[],s=>s
 |r::rs,s=>eO rs (kill r s)
theorem dh.eO:∀(rs:List Nat) {s:St},dh Γ s a w β I→dh Γ (eO rs s) a w β I
 |[],_,h=>h
 |r::rs,_,h=>dh.eO rs (h.kill r)
theorem od:∀(rs:List Nat) {s:St} {x:Nat},bM (eO rs s).aG x↔bM s.aG x∧x ∉ rs
 |[],s,x=>by simp[eO]
 |r::rs,s,x=>by
  show bM (eO rs (kill r s)).aG x↔_
  rw[od rs]
  show bM (di r s.aG) x∧_↔_
  rw[ei]
  simp only[List.mem_cons,not_or,and_assoc]
def uC(x:Nat):Bool:=Nat.ble 200000 x
def givenBy(σ:List (Nat×Nat)):List Nat:=(σ.filter fun p=>uC p.2).map (·.1)
def py (P : Program) (n : Nat) (o : Oper) (h : Hint) (s : St) : Option (St × List Prop) :=
  match o.op, h with
  | .call c, .bG σ nw r sout => match c.callee with
    | .value g => match MC (assoc σ) s.env g, BA (Rf r) s.env (assoc σ) c.args.toList with
     | some (f, ex), some es => bif ky n o.dst && lP s.aG σ && σ.all (fun p => bif uC p.2 then Nat.blt p.1 n else (aS.get sout p.2).isSome) && sout.all (fun p => Nat.blt p.1 999999 && iM p.2 && (((kg σ p.1).isSome && !uC p.1) || we (nw.map (·.1)) p.1)) then
        match nw with
        | none => match s9 (kg σ) r with
          | some r' => some (⟨nm (eO (givenBy σ) s).env o.dst r', kO σ sout (eO (givenBy σ) s).aG⟩, [av P f (es ++ ex) (lE s.aG σ) r sout])
          | none => none
        | some (y, d) => match aS.get sout y, s.aG.get d, kg σ y, s9 (fun z => bif Nat.beq y z then some d else kg σ z) r with
          | some sc, none, none, some r' => bif Nat.blt d n then some (⟨nm (eO (givenBy σ) s).env o.dst r', (d, sc) :: kO σ sout (eO (givenBy σ) s).aG⟩, [av P f (es ++ ex) (lE s.aG σ) r sout]) else none
          | _, _, _, _ => none
      else none
     | _, _ => none
    | _ => none
  | _, _ => none
theorem ix:∀{σ:List (Nat×Nat)} {x y:Nat},assoc σ x=some y→(x,y)∈σ
 |[],x,y,h=>by cases h
 |(x',y')::r,x,y,h=>by
  simp only[assoc] at h
  cases hb:Nat.beq x' x with
  |true =>
   have:x'=x:=Nat.eq_of_beq_eq_true hb
   subst this
   simp only[hb,cond_true] at h
   injection h with h;subst h;simp
  |false =>
   simp only[hb,cond_false] at h
   exact List.mem_cons_of_mem _ (ix h)
theorem iN:∀{σ:List (Nat×Nat)} {x y:Nat},kg σ y=some x→(x,y)∈σ
 |[],x,y,h=>by cases h
 |(x',y')::r,x,y,h=>by
  simp only[kg] at h
  cases hb:Nat.beq y' y with
  |true =>
   have:y'=y:=Nat.eq_of_beq_eq_true hb
   subst this
   simp only[hb,cond_true] at h
   injection h with h;subst h;simp
  |false =>
   simp only[hb,cond_false] at h
   exact List.mem_cons_of_mem _ (iN h)
theorem aS.uR:∀{aG:aS} {y:Nat} {sc:SC},aS.dR aG y=some sc→(y,sc)∈aG
 |[],y,sc,h=>by cases h
 |(y',sc')::r,y,sc,h=>by
  simp only[aS.dR] at h
  cases hb:Nat.beq y' y with
  |true =>
   have:y'=y:=Nat.eq_of_beq_eq_true hb
   subst this
   simp only[hb,cond_true] at h
   injection h with h;subst h;simp
  |false =>
   simp only[hb,cond_false] at h
   exact List.mem_cons_of_mem _ (aS.uR h)
theorem aS.get_mem{aG:aS}{y:Nat}{sc:SC}(h:aS.get aG y=some sc):(y,sc)∈aG∨(1000000≤y∧∃xs,(999999,SC.heap xs)∈aG):=by
 rcases DT y with hy|rfl|⟨j,rfl⟩
 ·rw[aS.ke hy] at h;exact .inl (aS.uR h)
 ·rw[aS.gr] at h;cases h
 ·right
  refine⟨by unfold hc;omega,?_⟩
  rw[aS.kK] at h
  unfold aS.hp at h
  split at h
  ·rename_i xs hg;exact⟨xs,aS.uR hg⟩
  ·simp[pV] at h
theorem aS.Ef{aG:aS}(Eg:∀p∈aG,p.1<999999){y:Nat}{sc:SC}(h:aS.get aG y=some sc):(y,sc)∈aG:=by
 rcases aS.get_mem h with h|⟨_,xs,h⟩
 ·exact h
 ·have:=Eg _ h;simp at this
theorem wg{o:Option Nat}{y:Nat}(h:we o y=true):o=some y:=by
 cases o with
 |none=>cases h
 |some x=>rw[Nat.eq_of_beq_eq_true h]
theorem wh{aG:aS}{σ:List (Nat×Nat)}(h:lP aG σ=true){x y:Nat}(hm:(x,y)∈σ):x<999999∧y<999999:=by
 unfold lP at h
 rw[List.all_eq_true] at h
 have:=h (x,y) hm
 simp only[Bool.and_eq_true] at this
 exact⟨Nat.le_of_ble_eq_true this.1.1.1.1,Nat.le_of_ble_eq_true this.1.1.1.2⟩
theorem eb{aG:aS}{σ:List (Nat×Nat)}(h:lP aG σ=true){x y:Nat}(hm:(x,y)∈σ) :
  assoc σ x=some y∧kg σ y=some x∧∃sc,aG.get x=some sc∧iM sc=true:=by
 unfold lP at h
 rw[List.all_eq_true] at h
 have:=h (x,y) hm
 simp only[Bool.and_eq_true] at this
 obtain⟨⟨⟨_,h1⟩,h2⟩,h3⟩:=this
 refine⟨wg h1,wg h2,?_⟩
 split at h3
 ·rename_i sc nY;exact⟨sc,nY,h3⟩
 ·cases h3
theorem nr{aG:aS}{σ0:List (Nat×Nat)}(nt:lP aG σ0=true):∀(σ:List (Nat×Nat)),(∀p∈σ,p∈σ0)→∀(y:Nat) sc,(lE aG σ).get y=some sc→∃x,kg σ0 y=some x∧assoc σ0 x=some y∧aG.get x=some sc
 |[],_,y,sc,h=>by rw[lE,aS.get_nil] at h;cases h
 |(x,y')::σ,hm,y,sc,h=>by
  obtain⟨g1,g2,Hb,g3,_⟩:=eb nt (hm (x,y') (by simp))
  simp only[lE,g3] at h
  rw[aS.jL (wh nt (hm (x,y') (by simp))).2] at h
  cases hb:Nat.beq y' y with
  |true =>
   have:y'=y:=Nat.eq_of_beq_eq_true hb
   subst this
   simp only[hb,cond_true] at h
   injection h with h;subst h
   exact⟨x,g2,g1,g3⟩
  |false =>
   simp only[hb,cond_false] at h
   exact nr nt σ (fun p hp=>hm p (by simp[hp])) y sc h
theorem ie{aG:aS}{σ0:List (Nat×Nat)}(nt:lP aG σ0=true):∀(σ:List (Nat×Nat)),(∀p∈σ,p∈σ0)→∀x y,(x,y)∈σ→bM (lE aG σ) y
 |[],_,x,y,h=>by cases h
 |(x',y')::σ,hm,x,y,h=>by
  obtain⟨g1,g2,Hb,g3,_⟩:=eb nt (hm (x',y') (by simp))
  have VW:=(wh nt (hm (x',y') (by simp))).2
  simp only[lE,g3]
  rcases List.mem_cons.1 h with h|h
  ·injection h with h1 h2;subst h2
   exact(dB VW).2 (.inl rfl)
  ·exact(dB VW).2 (.inr (ie nt σ (fun p hp=>hm p (by simp[hp])) x y h))
theorem rq(σ:List (Nat×Nat))(sout:aS):∀(aG:aS) (x:Nat),(kO σ sout aG).dR x=(aG.dR x).map (fun sc=>bif Nat.blt x 999999 then (match assoc σ x with
  |some y=>match aS.get sout y with
   |some sc'=>sc'
   |none=>sc
  |none=>sc) else sc)
 |[],x=>rfl
 |(x',sc)::aG,x=>by
  simp only[kO,aS.dR]
  cases hb:Nat.beq x' x with
  |true =>
   have:x'=x:=Nat.eq_of_beq_eq_true hb
   subst this
   rfl
  |false=>exact rq σ sout aG x
theorem ze(σ:List (Nat×Nat))(sout aG:aS)(x:Nat):(kO σ sout aG).get x=(aG.get x).map (fun sc=>bif Nat.blt x 999999 then (match assoc σ x with
  |some y=>match aS.get sout y with
   |some sc'=>sc'
   |none=>sc
  |none=>sc) else sc):=by
 rcases DT x with h|rfl|⟨j,rfl⟩
 ·rw[aS.ke h,aS.ke h,rq]
 ·rw[aS.gr,aS.gr];rfl
 ·rw[aS.kK,aS.kK,show Nat.blt (hc j) 999999=false from Bool.eq_false_iff.2 (fun h=>by have:=Nat.le_of_ble_eq_true h;unfold hc at this;omega)]
  unfold aS.hp
  rw[rq]
  cases aG.dR 999999 with
  |none=>simp[pV]
  |some sc =>
   simp only[Option.map_some,show Nat.blt 999999 999999=false from rfl,cond_false]
   cases pV (match some sc with
    |some (SC.heap xs)=>xs
    |_=>[]) j<;>rfl
theorem jf{σ:List (Nat×Nat)}{sout aG:aS}{x:Nat} : bM (kO σ sout aG) x↔bM aG x:=by
 unfold bM
 rw[ze]
 simp
theorem A7{sc:SC}(h:iM sc=true):∀e∈sc.qR,∃p,e = .pv p:=by
 intro e he
 cases sc with
 |pure ps =>
  obtain⟨p,_,rfl⟩:=List.mem_map.1 he
  exact⟨p,rfl⟩
 |lit cs =>
  unfold iM at h
  rw[List.all_eq_true] at h
  have:=h e he
  cases e<;>first|exact⟨_,rfl⟩|cases this
 |heap _=>cases h
 |FL _ _=>cases h
theorem RB.closed{β β':Nat→Option Nat}{L L' I I':Nat→Prop}{w:World}{r r':Nat}{sc:SC}(hc:iM sc=true)(h:RB β L I w r sc.qR)(hb:β' r'=β r)(hI:∀b,I b→I' b):RB β' L' I' w r' sc.qR:=by
 rcases h with ⟨h1,h2⟩|⟨b,arr,el,h1,h2,h3⟩
 ·exact .inl ⟨hb.trans h1,h2⟩
 ·refine .inr ⟨b,arr,el,hb.trans h1,h2,fun j e he => ?_⟩
  obtain⟨u,g1,g2,g3⟩:=h3 j e he
  obtain⟨p,rfl⟩:=A7 hc e (List.mem_of_getElem? he)
  exact⟨u,g1,g2,Rd.mono g3 hI (fun _ _ _=>rfl)⟩
def βX(β:Nat→Option Nat)(σ:List (Nat×Nat))(y:Nat):Option Nat:=(kg σ y).bind β
theorem dh.given(hr:dh Γ s a w β I){σ:List (Nat×Nat)}{s1:St}(sl:∀x,bM s1.aG x→bM s.aG x)(Fz:∀x y,bM s1.aG x→assoc σ x=some y→¬gv y)
  (JQ:∀x y b,assoc σ x=some y→gv y→bM s.aG x→β x=some b→Γ.Nw b) (nt:lP s.aG σ=true) {b:Nat} (h:Ir (lE s.aG σ) (βX β σ) b):Γ.Nw b∧b<w.heap.size∧∀x,bM s1.aG x→β x≠some b:=by
 obtain⟨y,hg,hy,Ix⟩:=h
 obtain⟨sc,nY⟩:=Option.isSome_iff_exists.1 hy
 obtain⟨x,g1,g2,g3⟩:=nr nt σ (fun p hp=>hp) y sc nY
 unfold βX at Ix
 rw[g1] at Ix
 have h2:bM s.aG x:=by unfold bM;rw[g3];rfl
 refine⟨JQ x y b g2 hg h2 Ix,hr.lb x b h2 Ix,fun x' CB e => ?_⟩
 have:=hr.aG.2 x x' b h2 (sl x' CB) Ix e
 subst this
 exact Fz x y CB g2 hg
theorem dh.handed (hr : dh Γ s a w β I) {σ : List (Nat × Nat)} {s1 : St} (vN : dh Γ s1 a w β I) (sl : ∀ x, bM s1.aG x → bM s.aG x) (Fz : ∀ x y, bM s1.aG x → assoc σ x = some y → ¬ gv y)
    (JQ : ∀ x y b, assoc σ x = some y → gv y → bM s.aG x → β x = some b → Γ.Nw b) {sout : aS} {β' : Nat → Option Nat} {w' : World} {I' : Nat → Prop} (nt : lP s.aG σ = true) (yI : ∀ p ∈ σ, ¬ gv p.2 → bM sout p.2)
    (hb : ∀ y, bM (lE s.aG σ) y → ¬ gv y → β' y = βX β σ y) (hk : kx (fun b => ∃ y, bM (lE s.aG σ) y ∧ βX β σ y = some b) w w')
    (JR : ∀ y sc, aS.get sout y = some sc → iM sc = true ∧ RB β' (bM sout) I' w' y sc.qR ∧ ∀ b, β' y = some b → ¬ I' b) (VX : ∀ b, I b → I' b) (TG : ∀ b, I' b → I b ∨ fresh w w' b ∨ Ir (lE s.aG σ) (βX β σ) b) :
    dh Γ ⟨s1.env, kO σ sout s1.aG⟩ a w' β I' := by
  have oc : ∀ b y, bM (lE s.aG σ) y → βX β σ y = some b → ∃ x, assoc σ x = some y ∧ bM s.aG x ∧ β x = some b := by
    intro b y hy Ix
    obtain ⟨sc, nY⟩ := Option.isSome_iff_exists.1 hy
    obtain ⟨x, g1, g2, g3⟩ := nr nt σ (fun p hp => hp) y sc nY
    unfold βX at Ix
    rw [g1] at Ix
    exact ⟨x, g2, by unfold bM; rw [g3]; rfl, Ix⟩
  have Xj : ∀ b, I b → ¬ ∃ y, bM (lE s.aG σ) y ∧ βX β σ y = some b := by
    intro b hI ⟨y, hy, Ix⟩
    obtain ⟨x, _, hd, L6⟩ := oc b y hy Ix
    obtain ⟨sc, nY⟩ := Option.isSome_iff_exists.1 hd
    exact ((hr.aG.1 x sc nY).2 b L6).2 hI
  have TH : ∀ b, Ir (lE s.aG σ) (βX β σ) b → Γ.Nw b ∧ b < w.heap.size ∧ ∀ x, bM s1.aG x → β x ≠ some b := fun b h => hr.given sl Fz JQ nt h
  have hw : ∀ b o, I b → w'.cell? ⟨b, o, none⟩ = w.cell? ⟨b, o, none⟩ := fun b o hI => gy (hk.block b (hr.ib b hI) (Xj b hI)) o
  have hL : ∀ x, bM s1.aG x → bM (kO σ sout s1.aG) x := fun x hx => jf.2 hx
  have Bw : ∀ r b, bM s1.aG r → β r = some b → w'.shape? b = w.shape? b := fun r b hd eN => hk.shape b (vN.lb r b hd eN)
  refine ⟨fun t e he => (vN.env t e he).mono (fun _ _ => rfl) hL VX hw Bw, ⟨fun x sc hx => ?_, fun x y b hx hy => vN.aG.2 x y b (jf.1 hx) (jf.1 hy)⟩,
    fun x hx => vN.par x (jf.1 hx), fun x b hx => vN.new x b (jf.1 hx), fun b hI => ?_, fun b hI => ?_, ?_, vN.size, vN.defers⟩
  · have hx : (kO σ sout s1.aG).get x = some sc := hx
    rw [ze] at hx
    cases hg : s1.aG.get x with
    | none => rw [hg] at hx; cases hx
    | some Hb =>
      rw [hg] at hx
      simp only [Option.map_some, Option.some.injEq] at hx
      obtain ⟨k1, k2⟩ := vN.aG.1 x Hb hg
      have Fu : bM s1.aG x := by unfold bM; rw [hg]; rfl
      have SQ : Nat.blt x 999999 = false → assoc σ x = none := fun hb => by
        cases ha : assoc σ x with
        | none => rfl
        | some y => rw [show Nat.blt x 999999 = true from Nat.ble_eq_true_of_le (wh nt (ix ha)).1] at hb; cases hb
      have hx : (match assoc σ x with
        | some y => match aS.get sout y with
          | some sc' => sc'
          | none => Hb
        | none => Hb) = sc := by
        cases hb : Nat.blt x 999999 with
        | true => rw [hb] at hx; exact hx
        | false => rw [hb] at hx; rw [SQ hb]; exact hx
      cases ha : assoc σ x with
      | some y =>
        have hm := ix ha
        have Jd := Fz x y Fu ha
        obtain ⟨_, Xk, _⟩ := eb nt hm
        obtain ⟨sc', Iy⟩ := Option.isSome_iff_exists.1 (yI (x, y) hm Jd)
        simp only [ha, Iy] at hx
        subst hx
        obtain ⟨c1, c2, c3⟩ := JR y sc' Iy
        have NT : β' y = β x := by
          rw [hb y (ie nt σ (fun p hp => hp) x y hm) Jd]
          unfold βX; rw [Xk]; rfl
        exact ⟨c2.closed c1 NT.symm (fun _ h => h), fun b eN => ⟨Nat.lt_of_lt_of_le (k2 b eN).1 hk.size, c3 b (NT.trans eN)⟩⟩
      | none =>
        simp only [ha] at hx
        subst hx
        refine ⟨k1.mono rfl (fun b eN => hk.block b (vN.lb x b Fu eN) (fun hM => ?_)) (fun _ _ => rfl) hL VX hw Bw, fun b eN => ⟨Nat.lt_of_lt_of_le (k2 b eN).1 hk.size, fun hI => ?_⟩⟩
        · obtain ⟨y2, TI, TJ⟩ := hM
          obtain ⟨x2, h1, h2, h3⟩ := oc b y2 TI TJ
          have := hr.aG.2 x x2 b (sl x Fu) h2 eN h3
          subst this
          rw [ha] at h1; cases h1
        · rcases TG b hI with h | h | h
          · exact (k2 b eN).2 h
          · have := (k2 b eN).1; have := h.1; omega
          · exact (TH b h).2.2 x Fu eN
  · rcases TG b hI with h | h | h
    · exact Nat.lt_of_lt_of_le (hr.ib b h) hk.size
    · exact h.2
    · exact Nat.lt_of_lt_of_le (TH b h).2.1 hk.size
  · rcases TG b hI with h | h | h
    · rcases hr.ii b h with h3 | h3
      · exact .inl h3
      · exact .inr (h3.imp (fun h3 => ⟨h3.1, Nat.lt_of_lt_of_le h3.2 hk.size⟩) id)
    · exact .inr (.inl ⟨Nat.le_trans hr.aH.size h.1, h.2⟩)
    · obtain ⟨h1, h2, _⟩ := TH b h
      exact .inr (h1.imp (fun h1 => ⟨h1, Nat.lt_of_lt_of_le h2 hk.size⟩) id)
  · refine hr.aH.trans hk (fun b bh hM => ?_)
    obtain ⟨y, hy, Ix⟩ := hM
    obtain ⟨x, _, hd, L6⟩ := oc b y hy Ix
    by_cases Eh : bM Γ.sin x ∧ ¬ gv x
    · exact ⟨x, Eh.1, by rw [← hr.par x hd Eh.1 Eh.2]; exact L6⟩
    · exact (hr.new x b hd (by by_cases h : bM Γ.sin x; · exact .inr (Classical.byContradiction fun h2 => Eh ⟨h, h2⟩)
                               · exact .inl h) L6).m bh
theorem zh(nx:Bool)(hr:dh Γ s a w β I){σ:List (Nat×Nat)}(nt:lP s.aG σ=true):∀(xs:List Operand) (es:List EV),BA nx s.env (assoc σ) xs=some es→xs.length=es.length ∧
  ∀(j:Nat) e x,es[j]? = some e→xs[j]? = some x→RE (βX β σ) (bM (lE s.aG σ)) I w e (a.eval x)
 |[],es,h=>by injection h with h;subst h;exact⟨rfl,fun j p x hp=>by simp at hp⟩
 |x::r,es,h=>by
  unfold BA at h
  split at h
  ·rename_i e QK he MD
   split at h
   ·rename_i e' gn
    injection h with h;subst h
    obtain⟨h1,h2⟩:=zh nx hr nt r QK MD
    refine⟨by simp[h1],fun j q y hj hy => ?_⟩
    cases j with
    |zero =>
     simp at hj hy;subst hj hy
     have hx:=hr.Xi nx x _ he
     cases e with
     |pv p=>injection gn with gn;subst gn;exact hx
     |n6 c=>injection gn with gn;subst gn;exact hx
     |dead=>cases gn
     |pg _ _ _=>cases gn
     |nj _ _=>cases gn
     |ptr z off =>
      simp only[s9] at gn
      split at gn
      ·rename_i y hy
       injection gn with gn;subst gn
       have hm:=ix hy
       obtain⟨_,hR,_⟩:=eb nt hm
       obtain⟨_,b,hb,hv⟩:=hx
       exact⟨ie nt σ (fun p hp=>hp) z y hm,b,by unfold βX;rw[hR];exact hb,hv⟩
      ·cases gn
     |AT g z =>
      simp only[s9] at gn
      split at gn
      ·rename_i y hy
       injection gn with gn;subst gn
       have hm:=ix hy
       obtain⟨_,hR,_⟩:=eb nt hm
       obtain⟨_,b,hb,hv⟩:=hx
       exact⟨ie nt σ (fun p hp=>hp) z y hm,b,by unfold βX;rw[hR];exact hb,hv⟩
      ·cases gn
     |row z off len sz =>
      simp only[s9] at gn
      split at gn
      ·rename_i y hy
       injection gn with gn;subst gn
       have hm:=ix hy
       obtain⟨_,hR,_⟩:=eb nt hm
       have L7:βX β σ y=β z:=by unfold βX;rw[hR];rfl
       obtain⟨_,hx⟩:=hx
       exact⟨ie nt σ (fun p hp=>hp) z y hm,by rw[L7];exact hx⟩
      ·cases gn
     |n7 z off len sz ps =>
      simp only[s9] at gn
      split at gn
      ·rename_i y hy
       injection gn with gn;subst gn
       have hm:=ix hy
       obtain⟨_,hR,_⟩:=eb nt hm
       have L7:βX β σ y=β z:=by unfold βX;rw[hR];rfl
       obtain⟨us,g1,g2,⟨u,g3,_,g4⟩,g5⟩:=hx
       exact⟨us,g1,g2,⟨u,g3,ie nt σ (fun p hp=>hp) z y hm,by rw[L7];exact g4⟩,g5⟩
      ·cases gn
    |succ j=>exact h2 j q y (by simpa using hj) (by simpa using hy)
   ·cases h
  ·cases h
theorem Iz(hr:dh Γ s a w β I){σ:List (Nat×Nat)}(nt:lP s.aG σ=true){g:Operand}{f:FuncId}{ex:List EV}(h:MC (assoc σ) s.env g=some (f,ex)) :
  ∃cap:Array Value,a.eval g = .func (.func f) #[] cap∧ex.length=cap.size∧∀(j:Nat) e v,ex[j]? = some e→cap[j]? = some v→RE (βX β σ) (bM (lE s.aG σ)) I w e v:=by
 unfold MC at h
 split at h
 ·rename_i f'
  injection h with h;injection h with h1 h2
  subst h1;subst h2
  exact⟨#[],by simp[Act.eval],rfl,fun j e v he=>by simp at he⟩
 ·split at h
  ·rename_i f' r he
   split at h
   ·rename_i y hy
    injection h with h;injection h with h1 h2
    subst h1;subst h2
    obtain⟨_,b,hb,hv⟩:=hr.DN g _ he
    have hm:=ix hy
    obtain⟨_,hR,_⟩:=eb nt hm
    refine⟨#[.pointer (some ⟨b,0,none⟩)],hv,rfl,fun j e v he hv => ?_⟩
    cases j with
    |zero =>
     simp at he hv;subst he;subst hv
     exact⟨ie nt σ (fun p hp=>hp) r y hm,b,by unfold βX;rw[hR];exact hb,rfl⟩
    |succ j=>simp at he
   ·cases h
  ·rename_i f' he
   injection h with h;injection h with h1 h2
   subst h1;subst h2
   have hv:Rd I w (.fn f') (a.eval g):=hr.DN g _ he
   refine⟨#[],?_,rfl,fun j e v he=>by simp at he⟩
   generalize a.eval g=v at hv
   cases hv;rfl
  ·cases h
theorem F5 {f : FuncId} (hc : me P f) {g : Operand} {cap : Array Value} (hv : a.eval g = .func (.func f) #[] cap) {args : Array Operand} {JA : Array TypeId} (s6 : o.op = .call ⟨.value g, args, JA⟩) :
    (execOp a.eval o).run P w = .ok (.enter f (args.map a.eval ++ cap)) w := by
  obtain ⟨fn, h1, h2, h3⟩ := hc
  have hb : fn.body ≠ none := by intro e; rw [e] at h2; cases h2
  have Jw : fn.name ≠ "runtime.NumGoroutine" := by simpa using h3
  simp [execOp, s6, resolve, hv, Deferred.ofValue, invoke, callFunc, h1, Jw, hb]
theorem qU (hs : ∀ r, bM Γ.sin r → Γ.n ≤ r) (hr : Rel Γ s a w) (aI : py P Γ.n o h s = some (s', ob)) (cb : dA ob) {K : Act → World → Prop} {Q : Exit → Act → World → Prop}
    (hk : ∀ a' w', Rel Γ s' a' w' → K a' w') : o.wp P a w K Q := by
  obtain ⟨β, I, hr⟩ := hr
  unfold py at aI
  split at aI
  · rename_i c σ nw r sout s6
    split at aI
    case h_2 => cases aI
    rename_i g qQ
    split at aI
    · rename_i f ex es hg MD
      cases hd : (ky Γ.n o.dst && lP s.aG σ && σ.all (fun p => bif uC p.2 then Nat.blt p.1 Γ.n else (aS.get sout p.2).isSome) && sout.all (fun p => Nat.blt p.1 999999 && iM p.2 && (((kg σ p.1).isSome && !uC p.1) || we (nw.map (·.1)) p.1))) with
      | false => simp [hd] at aI
      | true =>
        simp only [hd, cond_true] at aI
        simp only [Bool.and_eq_true] at hd
        obtain ⟨⟨⟨d1, d2⟩, d3⟩, d4⟩ := hd
        rw [List.all_eq_true] at d3 d4
        obtain ⟨cl, args, JA⟩ := c
        have qQ : cl = .value g := qQ
        subst qQ
        obtain ⟨cap, TL, TM, L8⟩ := Iz hr d2 hg
        obtain ⟨hl, sZ⟩ := zh _ hr d2 args.toList es MD
        have Rg : uI (βX β σ) I w (lE s.aG σ) := by
          refine ⟨fun y sc hy => ?_, fun y y' b hy Je h1 h2 => ?_⟩
          · obtain ⟨x, g1, g2, g3⟩ := nr d2 σ (fun p hp => hp) y sc hy
            obtain ⟨_, _, YL, g4, g5⟩ := eb d2 (iN g1)
            rw [g3] at g4; injection g4 with g4; subst g4
            have L7 : βX β σ y = β x := by unfold βX; rw [g1]; rfl
            obtain ⟨k1, k2⟩ := hr.aG.1 x sc g3
            exact ⟨k1.closed g5 L7 (fun _ h => h), fun b hb => k2 b (L7.symm.trans hb)⟩
          · obtain ⟨sc, nY⟩ := Option.isSome_iff_exists.1 hy
            obtain ⟨sc', Iy⟩ := Option.isSome_iff_exists.1 Je
            obtain ⟨x, g1, g2, g3⟩ := nr d2 σ (fun p hp => hp) y sc nY
            obtain ⟨x', SR, Ja, SS⟩ := nr d2 σ (fun p hp => hp) y' sc' Iy
            have e1 : β x = some b := by unfold βX at h1; rw [g1] at h1; exact h1
            have e2 : β x' = some b := by unfold βX at h2; rw [SR] at h2; exact h2
            have := hr.aG.2 x x' b (by unfold bM; rw [g3]; rfl) (by unfold bM; rw [SS]; rfl) e1 e2
            subst this
            rw [g2] at Ja; injection Ja with Ja
        have fin : ∀ (hc : av P f (es ++ ex) (lE s.aG σ) r sout) {s2 : St}, (∀ v w' β', kx (fun b => ∃ y, bM (lE s.aG σ) y ∧ βX β σ y = some b) w w' → (∀ y, bM (lE s.aG σ) y → ¬ gv y → β' y = βX β σ y) →
              uI β' (fun b => I b ∨ ((fresh w w' b ∨ Ir (lE s.aG σ) (βX β σ) b) ∧ ∀ x, bM sout x → β' x ≠ some b)) w' sout → RE β' (bM sout) (fun b => I b ∨ ((fresh w w' b ∨ Ir (lE s.aG σ) (βX β σ) b) ∧ ∀ x, bM sout x → β' x ≠ some b)) w' r v →
              (∀ x b, bM sout x → ¬ bM (lE s.aG σ) x → β' x = some b → fresh w w' b ∨ Ir (lE s.aG σ) (βX β σ) b) → Rel Γ s2 (a.put o.dst v) w') → (∀ a' w', Rel Γ s2 a' w' → K a' w') → o.wp P a w K Q := by
          intro hc s2 F6 hk
          unfold Oper.wp
          rw [F5 hc.1 TL s6]
          rw [Oper.upon_enter]
          have Mu : args.size = es.length := by simpa using hl
          refine (hc.2 I w (βX β σ) (args.map a.eval ++ cap) hr.ib Rg (by rw [List.length_append, Array.size_append, Array.size_map, Mu, TM]) (fun j e v he hv => ?_)).mono fun e w' hp => ?_
          · by_cases hj : j < es.length
            · rw [List.getElem?_append_left hj] at he
              rw [Array.getElem?_append_left (by rw [Array.size_map]; omega), Array.getElem?_map] at hv
              cases hx : args[j]? with
              | none => simp [hx] at hv
              | some x =>
                simp [hx] at hv
                subst hv
                exact sZ j e x he (by simpa using hx)
            · rw [List.getElem?_append_right (by omega)] at he
              rw [Array.getElem?_append_right (by rw [Array.size_map]; omega), Array.size_map, Mu] at hv
              exact L8 _ e v he hv
          · obtain ⟨v, β', rfl, p1, p2, p3, p4, p5⟩ := hp
            exact hk _ _ (F6 v w' β' p2 p1 p3 p4 p5)
        have Eg : ∀ p ∈ sout, p.1 < 999999 := fun p hp => by
          have := d4 p hp
          simp only [Bool.and_eq_true] at this
          exact Nat.le_of_ble_eq_true this.1.1
        have OX : ∀ y sc, aS.get sout y = some sc → iM sc = true := by
          intro y sc hy
          obtain ⟨p, hp, h1⟩ : ∃ p ∈ sout, p.2 = sc := by
            exact ⟨(y, sc), aS.Ef Eg hy, rfl⟩
          have := d4 p hp
          simp only [Bool.and_eq_true] at this
          rw [← h1]; exact this.1.2
        have Rh : ∀ y, uC y = true ↔ gv y := fun y => ⟨Nat.le_of_ble_eq_true, Nat.ble_eq_true_of_le⟩
        have NU : ∀ p ∈ σ, ¬ gv p.2 → bM sout p.2 := fun p hp hg => by
          have := d3 p hp
          rw [Bool.eq_false_iff.2 (fun h => hg ((Rh _).1 h)), cond_false] at this
          exact this
        have vN := hr.eO (givenBy σ)
        have sl : ∀ x, bM (eO (givenBy σ) s).aG x → bM s.aG x := fun x hx => ((od _).1 hx).1
        have Fz : ∀ x y, bM (eO (givenBy σ) s).aG x → assoc σ x = some y → ¬ gv y := fun x y hx ha hg => ((od _).1 hx).2 (List.mem_map.2 ⟨(x, y), List.mem_filter.2 ⟨ix ha, (Rh y).2 hg⟩, rfl⟩)
        have JQ : ∀ x y b, assoc σ x = some y → gv y → bM s.aG x → β x = some b → Γ.Nw b := fun x y b ha hg Fu hb => by
          have := d3 _ (ix ha)
          rw [(Rh y).2 hg, cond_true] at this
          exact hr.new x b Fu (.inl (fun h => absurd (hs x h) (Nat.not_le_of_lt (Nat.le_of_ble_eq_true this)))) hb
        have np : ∀ x y, kg σ y = some x → bM sout y → ¬ we (nw.map (·.1)) y = true → bM (eO (givenBy σ) s).aG x ∧ ¬ gv y := by
          intro x y hx hy df
          obtain ⟨sc, nY⟩ := Option.isSome_iff_exists.1 hy
          have := d4 _ (aS.Ef Eg nY)
          simp only [Bool.and_eq_true, Bool.or_eq_true, Bool.not_eq_true'] at this
          have Jd : ¬ gv y := fun hg => by
            rcases this.2 with h | h
            · rw [(Rh y).2 hg] at h; exact absurd h.2 (by simp)
            · exact df h
          obtain ⟨e1, _, TN, e2, _⟩ := eb d2 (iN hx)
          refine ⟨(od _).2 ⟨by unfold bM; rw [e2]; rfl, fun hm => ?_⟩, Jd⟩
          obtain ⟨⟨x', y'⟩, SU, QL⟩ := List.mem_map.1 hm
          obtain ⟨Xl, Xm⟩ := List.mem_filter.1 SU
          have QL : x' = x := QL
          subst QL
          obtain ⟨e3, _⟩ := eb d2 Xl
          rw [e1] at e3; injection e3 with e3; subst e3
          exact Jd ((Rh _).1 Xm)
        split at aI
        · split at aI
          · rename_i r' dG
            injection aI with aI; injection aI with h1 h2
            subst h1; subst h2
            refine fin cb (fun v w' β' p2 p1 p3 p4 p5 => ?_) hk
            have hh := hr.handed vN sl Fz JQ (sout := sout) d2 NU p1 p2 (fun y sc hy => ⟨OX y sc hy, (p3.1 y sc hy).1, fun b hb => ((p3.1 y sc hy).2 b hb).2⟩) (fun b hb => .inl hb) (fun b hb => hb.imp id (fun h => h.1))
            refine ⟨β, _, hh.put (ej d1) ?_⟩
            cases r with
            | pv p => injection dG with dG; subst dG; exact p4
            | n6 c => injection dG with dG; subst dG; exact p4
            | dead => cases dG
            | pg _ _ _ => cases dG
            | nj _ _ => cases dG
            | ptr y off =>
              simp only [s9] at dG
              split at dG
              · rename_i x hx
                injection dG with dG; subst dG
                have hm := iN hx
                obtain ⟨OY, b, hb, hv⟩ := p4
                obtain ⟨k1, k2⟩ := np x y hx OY (by simp [we])
                exact ⟨jf.2 k1, b, by rw [p1 y (ie d2 σ (fun p hp => hp) x y hm) k2] at hb; unfold βX at hb; rw [hx] at hb; exact hb, hv⟩
              · cases dG
            | AT g y =>
              simp only [s9] at dG
              split at dG
              · rename_i x hx
                injection dG with dG; subst dG
                have hm := iN hx
                obtain ⟨OY, b, hb, hv⟩ := p4
                obtain ⟨k1, k2⟩ := np x y hx OY (by simp [we])
                exact ⟨jf.2 k1, b, by rw [p1 y (ie d2 σ (fun p hp => hp) x y hm) k2] at hb; unfold βX at hb; rw [hx] at hb; exact hb, hv⟩
              · cases dG
            | row y off len sz =>
              simp only [s9] at dG
              split at dG
              · rename_i x hx
                injection dG with dG; subst dG
                have hm := iN hx
                obtain ⟨OY, p4⟩ := p4
                obtain ⟨k1, k2⟩ := np x y hx OY (by simp [we])
                have L7 : β' y = β x := by rw [p1 y (ie d2 σ (fun p hp => hp) x y hm) k2]; unfold βX; rw [hx]; rfl
                exact ⟨jf.2 k1, by rw [← L7]; exact p4⟩
              · cases dG
            | n7 y off len sz ps =>
              simp only [s9] at dG
              split at dG
              · rename_i x hx
                injection dG with dG; subst dG
                have hm := iN hx
                obtain ⟨us, q1, q2, ⟨u, q3, OY, q4⟩, q5⟩ := p4
                obtain ⟨k1, k2⟩ := np x y hx OY (by simp [we])
                have L7 : β' y = β x := by rw [p1 y (ie d2 σ (fun p hp => hp) x y hm) k2]; unfold βX; rw [hx]; rfl
                exact ⟨us, q1, q2, ⟨u, q3, jf.2 k1, by rw [← L7]; exact q4⟩, q5⟩
              · cases dG
          · cases aI
        · rename_i y d
          split at aI
          · rename_i sc r' nY th Xn dG
            cases ti : Nat.blt d Γ.n with
            | false => simp [ti] at aI
            | true =>
              simp only [ti, cond_true] at aI
              have Ri : d < Γ.n := Nat.le_of_ble_eq_true ti
              injection aI with aI; injection aI with h1 h2
              subst h1; subst h2
              refine fin cb (fun v w' β' p2 p1 p3 p4 p5 => ?_) hk
              have hh := hr.handed vN sl Fz JQ (sout := sout) d2 NU p1 p2 (fun y sc hy => ⟨OX y sc hy, (p3.1 y sc hy).1, fun b hb => ((p3.1 y sc hy).2 b hb).2⟩) (fun b hb => .inl hb) (fun b hb => hb.imp id (fun h => h.1))
              have TO : ¬ bM (kO σ sout (eO (givenBy σ) s).aG) d := fun h => by
                have := sl _ (jf.1 h)
                unfold bM at this; rw [th] at this; cases this
              have Xo : ¬ bM (lE s.aG σ) y := fun h => by
                obtain ⟨TN, ME⟩ := Option.isSome_iff_exists.1 h
                obtain ⟨x, g1, _⟩ := nr d2 σ (fun p hp => hp) y TN ME
                rw [Xn] at g1; cases g1
              have Xp : bM sout y := by unfold bM; rw [nY]; rfl
              have q7 : d < 999999 := Nat.lt_of_lt_of_le Ri Γ.small
              have oc := hh.site (d := d) (sc := sc) q7 TO (fun h => absurd (hs d h) (Nat.not_le_of_lt Ri)) (β' := fun z => if z = d then β' y else β z) (fun r df => by simp [df]) (fun b hb => by
                have hb : β' y = some b := by simpa using hb
                rcases p5 y b Xp Xo hb with hf | hf
                · refine ⟨hf.2, ((p3.1 y sc nY).2 b hb).2, .inl (Nat.le_trans hr.aH.size hf.1), fun x hx L6 => ?_⟩
                  have := hr.lb x b (sl _ (jf.1 hx)) L6
                  have := hf.1; omega
                · obtain ⟨q1, q2, q3⟩ := hr.given sl Fz JQ d2 hf
                  exact ⟨Nat.lt_of_lt_of_le q2 p2.size, ((p3.1 y sc nY).2 b hb).2, q1, fun x hx L6 => q3 x (jf.1 hx) L6⟩) ((p3.1 y sc nY).1.closed (OX y sc nY) (by simp) (fun _ h => h))
              refine ⟨_, _, oc.put (ej d1) ?_⟩
              have key : ∀ z x, (bif Nat.beq y z then some d else kg σ z) = some x → bM sout z → bM ((d, sc) :: kO σ sout (eO (givenBy σ) s).aG) x ∧ (fun z => if z = d then β' y else β z) x = β' z := by
                intro z x NV Jf
                cases hb : Nat.beq y z with
                | true =>
                  have : y = z := Nat.eq_of_beq_eq_true hb
                  subst this
                  simp only [hb, cond_true] at NV
                  injection NV with NV; subst NV
                  exact ⟨(dB q7).2 (.inl rfl), by simp⟩
                | false =>
                  simp only [hb, cond_false] at NV
                  have hm := iN NV
                  obtain ⟨_, _, TN, ME, _⟩ := eb d2 hm
                  obtain ⟨k1, k2⟩ := np x z NV Jf (by intro h; have : y = z := Nat.eq_of_beq_eq_true h; subst this; simp at hb)
                  have df : x ≠ d := fun e => by subst e; rw [th] at ME; cases ME
                  refine ⟨(dB q7).2 (.inr (jf.2 k1)), ?_⟩
                  simp only [if_neg df]
                  rw [p1 z (ie d2 σ (fun p hp => hp) x z hm) k2]; unfold βX; rw [NV]; rfl
              cases r with
              | pv p => injection dG with dG; subst dG; exact p4
              | n6 c => injection dG with dG; subst dG; exact p4
              | dead => cases dG
              | pg _ _ _ => cases dG
              | nj _ _ => cases dG
              | ptr z off =>
                simp only [s9] at dG
                split at dG
                · rename_i x hx
                  injection dG with dG; subst dG
                  obtain ⟨Jf, p4⟩ := p4
                  obtain ⟨k1, k2⟩ := key z x hx Jf
                  exact ⟨k1, by rw [k2]; exact p4⟩
                · cases dG
              | AT g z =>
                simp only [s9] at dG
                split at dG
                · rename_i x hx
                  injection dG with dG; subst dG
                  obtain ⟨Jf, p4⟩ := p4
                  obtain ⟨k1, k2⟩ := key z x hx Jf
                  exact ⟨k1, by rw [k2]; exact p4⟩
                · cases dG
              | row z off len sz =>
                simp only [s9] at dG
                split at dG
                · rename_i x hx
                  injection dG with dG; subst dG
                  obtain ⟨Jf, p4⟩ := p4
                  obtain ⟨k1, k2⟩ := key z x hx Jf
                  exact ⟨k1, by rw [k2]; exact p4⟩
                · cases dG
              | n7 z off len sz ps =>
                simp only [s9] at dG
                split at dG
                · rename_i x hx
                  injection dG with dG; subst dG
                  obtain ⟨us, q1, q2, ⟨u, q3, Jf, q4⟩, q5⟩ := p4
                  obtain ⟨k1, k2⟩ := key z x hx Jf
                  exact ⟨us, q1, q2, ⟨u, q3, k1, by rw [k2]; exact q4⟩, q5⟩
                · cases dG
          · cases aI
    · cases aI
  · cases aI
end
end Go.Proofs.YtllmkadmohkbfaaGreatDoor.Sym
