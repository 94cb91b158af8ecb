/- Lemmas for the statements of this seat. -/
import Derived.Test.YtllmkadmohkbfaaGreatDoorVSymLz
namespace Go.Proofs.YtllmkadmohkbfaaGreatDoor.Sym
open Go Go.RowKit
section
variable {P:Program} {T:kL} {Γ:Ctx} {s s':St} {a:Act} {w:World} {β:Nat→Option Nat} {I:Nat→Prop} {o:Oper} {h:Hint} {ob:List Prop}
theorem Ks {f : FuncId} (hc : nm P f) {args : Array Operand} {LA : Array TypeId} (uH : o.op = .call ⟨.value (.func f), args, LA⟩) : (execOp a.eval o).run P w = .ok (.enter f (args.map a.eval)) w := by
  obtain ⟨fn, h1, h2, h3⟩ := hc
  have hb : fn.body ≠ none := by intro e; rw [e] at h2; cases h2
  have Lw : fn.name ≠ "runtime.NumGoroutine" := by simpa using h3
  simp [execOp, uH, resolve, Act.eval, Deferred.ofValue, invoke, callFunc, h1, Lw, hb]
def nQ(env:Env):List Operand→Option (List PV)
 |[]=>some []
 |x::r=>match dw env x,nQ env r with
  |some (.pv p),some ps=>some (p::ps)
  |_,_=>none
theorem yJ(hr:dD Γ s a w β I):∀(xs:List Operand) (ps:List PV),nQ s.env xs=some ps→xs.length=ps.length∧∀(j:Nat) p x,ps[j]? = some p→xs[j]? = some x→Rd I w p (a.eval x)
 |[],ps,h=>by injection h with h;subst h;exact⟨rfl,fun j p x hp=>by simp at hp⟩
 |x::r,ps,h=>by
  unfold nQ at h
  split at h
  ·rename_i p qs hx hq
   injection h with h;subst h
   obtain⟨h1,h2⟩:=yJ hr r qs hq
   refine⟨by simp[h1],fun j q y hj hy => ?_⟩
   cases j with
   |zero=>simp at hj hy;subst hj hy;exact hr.Fg x _ hx
   |succ j=>exact h2 j q y (by simpa using hj) (by simpa using hy)
  ·cases h
def ta(P:Program)(n:Nat)(o:Oper)(h:Hint)(s:St):Option (St×List Prop) :=
 match o.op,h with
 |.call c,.pv r=>match c.callee,nQ s.env c.args.toList with
  |.value (.func f),some ps=>bif lu n o.dst then some (⟨oC s.env o.dst (.pv r),s.aG⟩,[fH P f ps r]) else none
  |_,_=>none
 |_,_=>none
theorem tW(β:Nat→Option Nat)(I:Nat→Prop)(w:World):wi β I w [] :=
 ⟨fun r sc h=>(by rw[aS.get_nil] at h;cases h),fun r r' b h=>absurd h rG⟩
theorem Kt(hr:dD Γ s a w β I){f:FuncId}{ps:List PV}{r:PV}{vs:Array Value}(hc:fH P f ps r)(hl:vs.size=ps.length)(hv:∀(j:Nat) p v,ps[j]? = some p→vs[j]? = some v→Rd I w p v) :
  Calls P f vs w fun e w'=>∃v,e = .returned v∧Cy w.heap.size w w'∧Rd (fun b=>I b∨fresh w w' b) w' r v:=by
 refine(hc.2 I w β vs hr.ib (tW _ _ _) (by simp[hl]) (fun j e v he Fh => ?_)).mono fun e w' hp => ?_
 ·rw[List.getElem?_map] at he
  cases hj:ps[j]? with
  |none=>simp[hj] at he
  |some p =>
   simp[hj] at he
   subst he
   exact hv j p v hj Fh
 ·obtain⟨v,β',rfl,_,hk,_,PK,_⟩:=hp
  have zZ:∀x,¬bS [] x:=fun x h=>by exact rG h
  refine⟨v,rfl,⟨⟨hk.os,hk.tape,hk.output,hk.size,fun k Kq=>hk.block k Kq (fun ⟨x,hx,_⟩=>zZ x hx)⟩,hk.drawn⟩,?_⟩
  exact Rd.mono (I:=fun b=>I b∨((fresh w w' b∨Ko [] β b)∧∀x,bS [] x→β' x≠some b)) PK (fun b hb=>hb.imp id (fun h=>h.1.elim id (fun ⟨x,_,hx,_⟩=>absurd hx (zZ x)))) (fun _ _ _=>rfl)
theorem tc(hr:Rel Γ s a w)(aI:ta P Γ.n o h s=some (s',ob))(cr:dP ob){K:Act→World→Prop}{Q:Exit→Act→World→Prop}
  (hk:∀a' w',Rel Γ s' a' w'→K a' w'):o.wp P a w K Q:=by
 obtain⟨β,I,hr⟩:=hr
 unfold ta at aI
 split at aI
 ·rename_i c r uH
  split at aI
  ·rename_i f ps sD ov
   cases hd:lu Γ.n o.dst with
   |false=>simp[hd] at aI
   |true =>
    simp only[hd,cond_true] at aI
    injection aI with aI;injection aI with h1 h2
    subst h1;subst h2
    have hc:fH P f ps r:=cr
    obtain⟨cl,args,LA⟩:=c
    have sD:cl = .value (.func f):=sD
    subst sD
    obtain⟨hl,uE⟩:=yJ hr args.toList ps ov
    unfold Oper.wp
    rw[Ks hc.1 uH]
    rw[Oper.upon_enter]
    refine(Kt hr hc (vs:=args.map a.eval) (by simpa using hl) (fun j p v hp hv => ?_)).mono fun e w' AJ => ?_
    ·simp only[Array.getElem?_map] at hv
     cases hx:args[j]? with
     |none=>simp[hx] at hv
     |some x =>
      simp[hx] at hv
      subst hv
      exact uE j p x hp (by simpa using hx)
    ·obtain⟨v,rfl,hb,PK⟩:=AJ
     exact hk _ _ ⟨β,_,(hr.grow hb (fun b h => .inl h) (fun b h=>h)).put (eT hd) PK⟩
  ·cases aI
 ·cases aI
theorem dD.Q0(h:dD Γ s a w β I){t:Nat}{e:EV}(he:RE β (bS s.aG) I w e (a.tmps.getD t undef)):dD Γ ⟨(t,e)::s.env,s.aG⟩ a w β I:=by
 refine⟨fun t' e' hO => ?_,h.aG,h.par,h.new,h.ib,h.ii,h.aF,h.size,h.defers⟩
 have hO:Env.get ((t,e)::s.env) t'=some e':=hO
 simp only[Env.get] at hO
 cases hb:Nat.beq t t' with
 |true =>
  have:t=t':=Nat.eq_of_beq_eq_true hb
  subst this
  simp only[hb,cond_true] at hO
  injection hO with hO;subst hO
  exact he
 |false =>
  simp only[hb,cond_false] at hO
  exact h.env t' e' hO
theorem dD.Tj(h:dD Γ s a w β I){b:Nat}(hb:b<w.heap.size)(hw:Γ.Nw b)(hs:∀x,bS s.aG x→β x≠some b):dD Γ s a w β (fun x=>I x∨x=b):=by
 refine⟨fun t e he=>(h.env t e he).mono (fun _ _=>rfl) (fun _ h=>h) (fun _ h => .inl h) (fun _ _ _=>rfl) (fun _ _ _ _=>rfl),⟨fun r sc hr => ?_,h.aG.2⟩,h.par,h.new,fun x hx => ?_,fun x hx => ?_,h.aF,h.size,h.defers⟩
 ·obtain⟨g1,g2⟩:=h.aG.1 r sc hr
  have xG:bS s.aG r:=by unfold bS;rw[hr];rfl
  refine⟨g1.mono rfl (fun _ _=>rfl) (fun _ _=>rfl) (fun _ h=>h) (fun _ h => .inl h) (fun _ _ _=>rfl) (fun _ _ _ _=>rfl),fun b' fz=>⟨(g2 b' fz).1,fun hx => ?_⟩⟩
  rcases hx with hx|hx
  ·exact(g2 b' fz).2 hx
  ·subst hx;exact hs r xG fz
 ·rcases hx with hx|hx
  ·exact h.ib x hx
  ·subst hx;exact hb
 ·rcases hx with hx|hx
  ·exact h.ii x hx
  ·subst hx;exact .inr (hw.imp (fun h=>⟨h,hb⟩) id)
theorem AX{L:Nat→Prop}{r len sz:Nat}{v:Value}{ps:List PV}{xs:List (List PV)}(hv:RE β L I w (.row r 0 len sz) v)(I5:RB β L I w r (ps.map EV.pv))(h1:len=xs.length)(h2:ps=xs.flatten)
  (h3:∀row∈xs,row.length=sz) {I':Nat→Prop} (hI:∀b,I b→I' b) (VO:∀b,β r=some b→I' b):Rd I' w (.list xs) v:=by
 obtain⟨_,⟨_,rfl,rfl⟩|⟨b,c,hb,rfl,hc,_⟩⟩:=hv
 ·have:xs=[]:=List.eq_nil_of_length_eq_zero h1.symm
  subst this
  exact .nil _ _
 ·obtain⟨arr,el,hg,_,AH⟩:=vi I5 hb
  subst h1;subst h2
  have key:∀(i j:Nat) row x,xs[i]? = some row→row[j]? = some x→∃u,arr[i*sz+j]? = some u∧u.oneCell'=true∧Rd I w x u:=fun i j row x hi hj=>AH _ x (xA h3 hi hj)
  refine .list xs b 0 c sz (fun i j=>arr.getD (i*sz+j) undef) hc (VO b hb) (fun i row hi=>h3 row (List.mem_of_getElem? hi)) (fun i j row x hi hj => ?_) (fun i j row x hi hj => ?_)
  ·obtain⟨u,g1,g2,g3⟩:=key i j row x hi hj
   refine⟨PV.pE g3 g2,?_⟩
   rw[Nat.zero_add,cell_of_row w b _ arr el (0,0) hg,g1]
   simp[Array.getD_eq_getD_getElem?,g1]
  ·obtain⟨u,g1,g2,g3⟩:=key i j row x hi hj
   simp only[Array.getD_eq_getD_getElem?,g1,Option.getD_some]
   exact g3.mono hI (fun _ _ _=>rfl)
def z6(n t:Nat)(xs:List (List PV))(s:St):Option (St×List Prop) :=
 match s.env.get t with
 |some (.row r 0 len sz)=>match s.aG.get r with
  |some (.pure ps)=>bif Nat.blt r n&&Nat.blt t n then some (⟨(t,.pv (.list xs))::(kill r s).env,(kill r s).aG⟩,[len=xs.length,ps=xs.flatten,∀row∈xs,row.length=sz]) else none
  |_=>none
 |_=>none
theorem uT(hs:∀r,bS Γ.sin r→Γ.n≤r){t:Nat}{xs:List (List PV)}(hr:Rel Γ s a w)(aI:z6 Γ.n t xs s=some (s',ob))(cr:dP ob):Rel Γ s' a w:=by
 obtain⟨β,I,hr⟩:=hr
 unfold z6 at aI
 split at aI
 ·rename_i r len sz he
  split at aI
  ·rename_i ps ov
   cases hb:(Nat.blt r Γ.n&&Nat.blt t Γ.n) with
   |false=>simp[hb] at aI
   |true =>
    simp only[hb,cond_true] at aI
    simp only[Bool.and_eq_true] at hb
    have Oy:r<Γ.n:=Nat.le_of_ble_eq_true hb.1
    injection aI with aI;injection aI with h1 h2
    subst h1;subst h2
    obtain⟨g1,cr⟩:=cr.cons
    obtain⟨g2,g3⟩:=cr.cons
    have hv:=hr.env t _ he
    have I5:=(hr.aG.1 r _ ov).1
    have xG:bS s.aG r:=by unfold bS;rw[ov];rfl
    have FF:¬bS Γ.sin r:=fun h=>absurd (hs r h) (Nat.not_le_of_lt Oy)
    cases oe:β r with
    |none=>exact⟨β,I,(hr.kill r).Q0 (AX hv I5 g1 g2 g3 (fun _ h=>h) (fun b fz=>by rw[oe] at fz;cases fz))⟩
    |some b =>
     have hk:=(hr.kill r).Tj (b:=b) ((hr.aG.1 r _ ov).2 b oe).1 (hr.new r b xG (.inl FF) oe) (fun x hx e=>(eR.1 hx).2 (hr.aG.2 x r b (eR.1 hx).1 xG e oe))
     exact⟨β,_,hk.Q0 (AX hv I5 g1 g2 g3 (fun _ h => .inl h) (fun b' fz=>by rw[oe] at fz;injection fz with fz;exact .inr fz.symm))⟩
  ·cases aI
 ·cases aI
def LQ(s:St)(o:Oper):Option St :=
 match o.op with
 |.call c=>match c.args.toList with
  |x::_=>match dw s.env x with
   |some (.row r _ len sz)=>match s.aG.get r with
    |some (.pure ps)=>some ⟨s.env,aS.set s.aG r (.pure (ps.take (len*sz)))⟩
    |_=>none
   |_=>none
  |_=>none
 |_=>none
theorem FM{s1:St}(hr:Rel Γ s a w)(h:LQ s o=some s1):Rel Γ s1 a w:=by
 unfold LQ at h
 split at h
 ·split at h
  ·split at h
   ·split at h
    ·rename_i ov
     injection h with h;subst h
     exact hr.cut ov
    ·cases h
   ·cases h
  ·cases h
 ·cases h
def AY(T:kL)(n:Nat)(o:Oper)(h:Hint)(s:St):Option (St×List Prop) :=
 match h with
 |.js l _ xs=>match wz T n o (.app l xs.flatten) s,o.dst with
  |some (s1,Le),some d=>match z6 n d xs s1 with
   |some (s2,ob2)=>some (s2,Le++ob2)
   |none=>none
  |_,_=>none
 |.row l out=>match LQ s o with
  |some s1=>wv HO T n o (.app l out) s1
  |none=>none
 |_=>wz T n o h s
theorem AZ(hT:nM P T)(hs:∀r,bS Γ.sin r→Γ.n≤r)(hr:Rel Γ s a w)(aI:AY T Γ.n o h s=some (s',ob))(cr:dP ob){K:Act→World→Prop}{Q:Exit→Act→World→Prop}
  (hk:∀a' w',Rel Γ s' a' w'→K a' w'):o.wp P a w K Q:=by
 unfold AY at aI
 split at aI
 ·rename_i l u xs
  split at aI
  ·rename_i s1 Le d h1 hd
   split at aI
   ·rename_i s2 ob2 h2
    injection aI with aI;injection aI with e1 e2
    subst e1;subst e2
    obtain⟨g1,g2⟩:=cr.app
    exact s9 hT hs hr h1 g1 (fun a' w' eb=>hk a' w' (uT hs eb h2 g2))
   ·cases aI
  ·cases aI
 ·rename_i l out
  split at aI
  ·rename_i s1 h1
   exact s8 (fun hr=>OA hr) hT hs (FM hr h1) aI cr hk
  ·cases aI
 ·exact s9 hT hs hr aI cr hk
def assoc:List (Nat×Nat)→Nat→Option Nat
 |[],_=>none
 |(x',y)::r,x=>bif Nat.beq x' x then some y else assoc r x
def kT:List (Nat×Nat)→Nat→Option Nat
 |[],_=>none
 |(x,y')::r,y=>bif Nat.beq y' y then some x else kT r y
def xN:Option Nat→Nat→Bool
 |some x,y=>Nat.beq x y
 |none,_=>false
def jB:SC→Bool
 |.pure _=>true
 |.lit cs=>cs.all fun | .pv _=>true|_=>false
 |_=>false
def mH(aG:aS)(σ:List (Nat×Nat)):Bool :=
 σ.all fun p=>(Nat.blt p.1 999999&&Nat.blt p.2 999999)&&xN (assoc σ p.1) p.2&&xN (kT σ p.2) p.1&&(match aG.get p.1 with
  |some sc=>jB sc
  |none=>false)
def my(aG:aS):List (Nat×Nat)→aS
 |[]=>[]
 |(x,y)::σ=>match aG.get x with
  |some sc=>(y,sc)::my aG σ
  |none=>my aG σ
def lR(σ:List (Nat×Nat))(sout:aS):aS→aS
 |[]=>[]
 |(x,sc)::aG=>(x,bif Nat.blt x 999999 then (match assoc σ x with
  |some y=>match aS.get sout y with
   |some sc'=>sc'
   |none=>sc
  |none=>sc) else sc)::lR σ sout aG
def uK(σ:Nat→Option Nat):EV→Option EV
 |.pv p=>some (.pv p)
 |.ptr x o=>match σ x with
  |some y=>some (.ptr y o)
  |none=>none
 |.row x o l z=>match σ x with
  |some y=>some (.row y o l z)
  |none=>none
 |.pz c=>some (.pz c)
 |.pA x o l z ps=>match σ x with
  |some y=>some (.pA y o l z ps)
  |none=>none
 |.Cu f x=>match σ x with
  |some y=>some (.Cu f y)
  |none=>none
 |.dead=>none
 |.qM .. => none
 |.oA .. => none
def FN(nx:Bool)(env:Env)(x:Operand):Option EV :=
 match nx,x with
 |true,.const (.slice none 0 0)=>some (.pv .dZ)
 |_,x=>dw env x
def Tk:EV→Bool
 |.pA .. => true
 |.row .. => true
 |_=>false
theorem dD.Zt(hr:dD Γ s a w β I)(nx:Bool)(x:Operand)(e:EV)(h:FN nx s.env x=some e):RE β (bS s.aG) I w e (a.eval x):=by
 unfold FN at h
 split at h
 ·injection h with h;subst h;exact Rd.dZ
 ·exact hr.Fg x e h
def C8(nx:Bool)(env:Env)(σ:Nat→Option Nat):List Operand→Option (List EV)
 |[]=>some []
 |x::r=>match FN nx env x,C8 nx env σ r with
  |some e,some es=>match uK σ e with
   |some e'=>some (e'::es)
   |none=>none
  |_,_=>none
def OC(σ:Nat→Option Nat)(env:Env):Operand→Option (FuncId×List EV)
 |.func f=>some (f,[])
 |x=>match dw env x with
  |some (.Cu f r)=>match σ r with
   |some y=>some (f,[.ptr y 0])
   |none=>none
  |some (.pv (.fn f))=>some (f,[])
  |_=>none
def fC:List Nat→St→St
 |[],s=>s
 |r::rs,s=>fC rs (kill r s)
theorem dD.fC:∀(rs:List Nat) {s:St},dD Γ s a w β I→dD Γ (fC rs s) a w β I
 |[],_,h=>h
 |r::rs,_,h=>dD.fC rs (h.kill r)
theorem pG:∀(rs:List Nat) {s:St} {x:Nat},bS (fC rs s).aG x↔bS s.aG x∧x ∉ rs
 |[],s,x=>by simp[fC]
 |r::rs,s,x=>by
  show bS (fC rs (kill r s)).aG x↔_
  rw[pG rs]
  show bS (dE r s.aG) x∧_↔_
  rw[eR]
  simp only[List.mem_cons,not_or,and_assoc]
def v7(x:Nat):Bool:=Nat.ble 200000 x
def givenBy(σ:List (Nat×Nat)):List Nat:=(σ.filter fun p=>v7 p.2).map (·.1)
def qU (P : Program) (n : Nat) (o : Oper) (h : Hint) (s : St) : Option (St × List Prop) :=
  match o.op, h with
  | .call c, .bO σ nw r sout => match c.callee with
    | .value g => match OC (assoc σ) s.env g, C8 (Tk r) s.env (assoc σ) c.args.toList with
     | some (f, ex), some es => bif lu n o.dst && mH s.aG σ && σ.all (fun p => bif v7 p.2 then Nat.blt p.1 n else (aS.get sout p.2).isSome) && sout.all (fun p => Nat.blt p.1 999999 && jB p.2 && (((kT σ p.1).isSome && !v7 p.1) || xN (nw.map (·.1)) p.1)) then
        match nw with
        | none => match uK (kT σ) r with
          | some r' => some (⟨oC (fC (givenBy σ) s).env o.dst r', lR σ sout (fC (givenBy σ) s).aG⟩, [av P f (es ++ ex) (my s.aG σ) r sout])
          | none => none
        | some (y, d) => match aS.get sout y, s.aG.get d, kT σ y, uK (fun z => bif Nat.beq y z then some d else kT σ z) r with
          | some sc, none, none, some r' => bif Nat.blt d n then some (⟨oC (fC (givenBy σ) s).env o.dst r', (d, sc) :: lR σ sout (fC (givenBy σ) s).aG⟩, [av P f (es ++ ex) (my s.aG σ) r sout]) else none
          | _, _, _, _ => none
      else none
     | _, _ => none
    | _ => none
  | _, _ => none
theorem jk:∀{σ:List (Nat×Nat)} {x y:Nat},assoc σ x=some y→(x,y)∈σ
 |[],x,y,h=>by cases h
 |(x',y')::r,x,y,h=>by
  simp only[assoc] at h
  cases hb:Nat.beq x' x with
  |true =>
   have:x'=x:=Nat.eq_of_beq_eq_true hb
   subst this
   simp only[hb,cond_true] at h
   injection h with h;subst h;simp
  |false =>
   simp only[hb,cond_false] at h
   exact List.mem_cons_of_mem _ (jk h)
theorem jC:∀{σ:List (Nat×Nat)} {x y:Nat},kT σ y=some x→(x,y)∈σ
 |[],x,y,h=>by cases h
 |(x',y')::r,x,y,h=>by
  simp only[kT] at h
  cases hb:Nat.beq y' y with
  |true =>
   have:y'=y:=Nat.eq_of_beq_eq_true hb
   subst this
   simp only[hb,cond_true] at h
   injection h with h;subst h;simp
  |false =>
   simp only[hb,cond_false] at h
   exact List.mem_cons_of_mem _ (jC h)
theorem aS.wA:∀{aG:aS} {y:Nat} {sc:SC},aS.eE aG y=some sc→(y,sc)∈aG
 |[],y,sc,h=>by cases h
 |(y',sc')::r,y,sc,h=>by
  simp only[aS.eE] at h
  cases hb:Nat.beq y' y with
  |true =>
   have:y'=y:=Nat.eq_of_beq_eq_true hb
   subst this
   simp only[hb,cond_true] at h
   injection h with h;subst h;simp
  |false =>
   simp only[hb,cond_false] at h
   exact List.mem_cons_of_mem _ (aS.wA h)
theorem aS.get_mem{aG:aS}{y:Nat}{sc:SC}(h:aS.get aG y=some sc):(y,sc)∈aG∨(1000000≤y∧∃xs,(999999,SC.heap xs)∈aG):=by
 rcases Fq y with hy|rfl|⟨j,rfl⟩
 ·rw[aS.kR hy] at h;exact .inl (aS.wA h)
 ·rw[aS.hX] at h;cases h
 ·right
  refine⟨by unfold hc;omega,?_⟩
  rw[aS.lN] at h
  unfold aS.hp at h
  split at h
  ·rename_i xs hg;exact⟨xs,aS.wA hg⟩
  ·simp[rB] at h
theorem aS.FO{aG:aS}(CF:∀p∈aG,p.1<999999){y:Nat}{sc:SC}(h:aS.get aG y=some sc):(y,sc)∈aG:=by
 rcases aS.get_mem h with h|⟨_,xs,h⟩
 ·exact h
 ·have:=CF _ h;simp at this
theorem xO{o:Option Nat}{y:Nat}(h:xN o y=true):o=some y:=by
 cases o with
 |none=>cases h
 |some x=>rw[Nat.eq_of_beq_eq_true h]
theorem xP{aG:aS}{σ:List (Nat×Nat)}(h:mH aG σ=true){x y:Nat}(hm:(x,y)∈σ):x<999999∧y<999999:=by
 unfold mH at h
 rw[List.all_eq_true] at h
 have:=h (x,y) hm
 simp only[Bool.and_eq_true] at this
 exact⟨Nat.le_of_ble_eq_true this.1.1.1.1,Nat.le_of_ble_eq_true this.1.1.1.2⟩
theorem eO{aG:aS}{σ:List (Nat×Nat)}(h:mH aG σ=true){x y:Nat}(hm:(x,y)∈σ) :
  assoc σ x=some y∧kT σ y=some x∧∃sc,aG.get x=some sc∧jB sc=true:=by
 unfold mH at h
 rw[List.all_eq_true] at h
 have:=h (x,y) hm
 simp only[Bool.and_eq_true] at this
 obtain⟨⟨⟨_,h1⟩,h2⟩,h3⟩:=this
 refine⟨xO h1,xO h2,?_⟩
 split at h3
 ·rename_i sc pr;exact⟨sc,pr,h3⟩
 ·cases h3
theorem oF{aG:aS}{σ0:List (Nat×Nat)}(oG:mH aG σ0=true):∀(σ:List (Nat×Nat)),(∀p∈σ,p∈σ0)→∀(y:Nat) sc,(my aG σ).get y=some sc→∃x,kT σ0 y=some x∧assoc σ0 x=some y∧aG.get x=some sc
 |[],_,y,sc,h=>by rw[my,aS.get_nil] at h;cases h
 |(x,y')::σ,hm,y,sc,h=>by
  obtain⟨g1,g2,I9,g3,_⟩:=eO oG (hm (x,y') (by simp))
  simp only[my,g3] at h
  rw[aS.kv (xP oG (hm (x,y') (by simp))).2] at h
  cases hb:Nat.beq y' y with
  |true =>
   have:y'=y:=Nat.eq_of_beq_eq_true hb
   subst this
   simp only[hb,cond_true] at h
   injection h with h;subst h
   exact⟨x,g2,g1,g3⟩
  |false =>
   simp only[hb,cond_false] at h
   exact oF oG σ (fun p hp=>hm p (by simp[hp])) y sc h
theorem jb{aG:aS}{σ0:List (Nat×Nat)}(oG:mH aG σ0=true):∀(σ:List (Nat×Nat)),(∀p∈σ,p∈σ0)→∀x y,(x,y)∈σ→bS (my aG σ) y
 |[],_,x,y,h=>by cases h
 |(x',y')::σ,hm,x,y,h=>by
  obtain⟨g1,g2,I9,g3,_⟩:=eO oG (hm (x',y') (by simp))
  have X9:=(xP oG (hm (x',y') (by simp))).2
  simp only[my,g3]
  rcases List.mem_cons.1 h with h|h
  ·injection h with h1 h2;subst h2
   exact(dQ X9).2 (.inl rfl)
  ·exact(dQ X9).2 (.inr (jb oG σ (fun p hp=>hm p (by simp[hp])) x y h))
theorem td(σ:List (Nat×Nat))(sout:aS):∀(aG:aS) (x:Nat),(lR σ sout aG).eE x=(aG.eE x).map (fun sc=>bif Nat.blt x 999999 then (match assoc σ x with
  |some y=>match aS.get sout y with
   |some sc'=>sc'
   |none=>sc
  |none=>sc) else sc)
 |[],x=>rfl
 |(x',sc)::aG,x=>by
  simp only[lR,aS.eE]
  cases hb:Nat.beq x' x with
  |true =>
   have:x'=x:=Nat.eq_of_beq_eq_true hb
   subst this
   rfl
  |false=>exact td σ sout aG x
theorem A2(σ:List (Nat×Nat))(sout aG:aS)(x:Nat):(lR σ sout aG).get x=(aG.get x).map (fun sc=>bif Nat.blt x 999999 then (match assoc σ x with
  |some y=>match aS.get sout y with
   |some sc'=>sc'
   |none=>sc
  |none=>sc) else sc):=by
 rcases Fq x with h|rfl|⟨j,rfl⟩
 ·rw[aS.kR h,aS.kR h,td]
 ·rw[aS.hX,aS.hX];rfl
 ·rw[aS.lN,aS.lN,show Nat.blt (hc j) 999999=false from Bool.eq_false_iff.2 (fun h=>by have:=Nat.le_of_ble_eq_true h;unfold hc at this;omega)]
  unfold aS.hp
  rw[td]
  cases aG.eE 999999 with
  |none=>simp[rB]
  |some sc =>
   simp only[Option.map_some,show Nat.blt 999999 999999=false from rfl,cond_false]
   cases rB (match some sc with
    |some (SC.heap xs)=>xs
    |_=>[]) j<;>rfl
theorem jT{σ:List (Nat×Nat)}{sout aG:aS}{x:Nat} : bS (lR σ sout aG) x↔bS aG x:=by
 unfold bS
 rw[A2]
 simp
theorem CG{sc:SC}(h:jB sc=true):∀e∈sc.sE,∃p,e = .pv p:=by
 intro e he
 cases sc with
 |pure ps =>
  obtain⟨p,_,rfl⟩:=List.mem_map.1 he
  exact⟨p,rfl⟩
 |lit cs =>
  unfold jB at h
  rw[List.all_eq_true] at h
  have:=h e he
  cases e<;>first|exact⟨_,rfl⟩|cases this
 |heap _=>cases h
 |Hz _ _=>cases h
theorem RB.closed{β β':Nat→Option Nat}{L L' I I':Nat→Prop}{w:World}{r r':Nat}{sc:SC}(hc:jB sc=true)(h:RB β L I w r sc.sE)(hb:β' r'=β r)(hI:∀b,I b→I' b):RB β' L' I' w r' sc.sE:=by
 rcases h with ⟨h1,h2⟩|⟨b,arr,el,h1,h2,h3⟩
 ·exact .inl ⟨hb.trans h1,h2⟩
 ·refine .inr ⟨b,arr,el,hb.trans h1,h2,fun j e he => ?_⟩
  obtain⟨u,g1,g2,g3⟩:=h3 j e he
  obtain⟨p,rfl⟩:=CG hc e (List.mem_of_getElem? he)
  exact⟨u,g1,g2,Rd.mono g3 hI (fun _ _ _=>rfl)⟩
def βX(β:Nat→Option Nat)(σ:List (Nat×Nat))(y:Nat):Option Nat:=(kT σ y).bind β
theorem dD.given(hr:dD Γ s a w β I){σ:List (Nat×Nat)}{s1:St}(tV:∀x,bS s1.aG x→bS s.aG x)(Hp:∀x y,bS s1.aG x→assoc σ x=some y→¬gv y)
  (LR:∀x y b,assoc σ x=some y→gv y→bS s.aG x→β x=some b→Γ.Nw b) (oG:mH s.aG σ=true) {b:Nat} (h:Ko (my s.aG σ) (βX β σ) b):Γ.Nw b∧b<w.heap.size∧∀x,bS s1.aG x→β x≠some b:=by
 obtain⟨y,hg,hy,Ku⟩:=h
 obtain⟨sc,pr⟩:=Option.isSome_iff_exists.1 hy
 obtain⟨x,g1,g2,g3⟩:=oF oG σ (fun p hp=>hp) y sc pr
 unfold βX at Ku
 rw[g1] at Ku
 have h2:bS s.aG x:=by unfold bS;rw[g3];rfl
 refine⟨LR x y b g2 hg h2 Ku,hr.lb x b h2 Ku,fun x' D8 e => ?_⟩
 have:=hr.aG.2 x x' b h2 (tV x' D8) Ku e
 subst this
 exact Hp x y D8 g2 hg
theorem dD.handed (hr : dD Γ s a w β I) {σ : List (Nat × Nat)} {s1 : St} (xv : dD Γ s1 a w β I) (tV : ∀ x, bS s1.aG x → bS s.aG x) (Hp : ∀ x y, bS s1.aG x → assoc σ x = some y → ¬ gv y)
    (LR : ∀ x y b, assoc σ x = some y → gv y → bS s.aG x → β x = some b → Γ.Nw b) {sout : aS} {β' : Nat → Option Nat} {w' : World} {I' : Nat → Prop} (oG : mH s.aG σ = true) (AF : ∀ p ∈ σ, ¬ gv p.2 → bS sout p.2)
    (hb : ∀ y, bS (my s.aG σ) y → ¬ gv y → β' y = βX β σ y) (hk : ll (fun b => ∃ y, bS (my s.aG σ) y ∧ βX β σ y = some b) w w')
    (LS : ∀ y sc, aS.get sout y = some sc → jB sc = true ∧ RB β' (bS sout) I' w' y sc.sE ∧ ∀ b, β' y = some b → ¬ I' b) (Ya : ∀ b, I b → I' b) (VP : ∀ b, I' b → I b ∨ fresh w w' b ∨ Ko (my s.aG σ) (βX β σ) b) :
    dD Γ ⟨s1.env, lR σ sout s1.aG⟩ a w' β I' := by
  have pF : ∀ b y, bS (my s.aG σ) y → βX β σ y = some b → ∃ x, assoc σ x = some y ∧ bS s.aG x ∧ β x = some b := by
    intro b y hy Ku
    obtain ⟨sc, pr⟩ := Option.isSome_iff_exists.1 hy
    obtain ⟨x, g1, g2, g3⟩ := oF oG σ (fun p hp => hp) y sc pr
    unfold βX at Ku
    rw [g1] at Ku
    exact ⟨x, g2, by unfold bS; rw [g3]; rfl, Ku⟩
  have Zu : ∀ b, I b → ¬ ∃ y, bS (my s.aG σ) y ∧ βX β σ y = some b := by
    intro b hI ⟨y, hy, Ku⟩
    obtain ⟨x, _, hd, N1⟩ := pF b y hy Ku
    obtain ⟨sc, pr⟩ := Option.isSome_iff_exists.1 hd
    exact ((hr.aG.1 x sc pr).2 b N1).2 hI
  have VQ : ∀ b, Ko (my s.aG σ) (βX β σ) b → Γ.Nw b ∧ b < w.heap.size ∧ ∀ x, bS s1.aG x → β x ≠ some b := fun b h => hr.given tV Hp LR oG h
  have hw : ∀ b o, I b → w'.cell? ⟨b, o, none⟩ = w.cell? ⟨b, o, none⟩ := fun b o hI => ig (hk.block b (hr.ib b hI) (Zu b hI)) o
  have hL : ∀ x, bS s1.aG x → bS (lR σ sout s1.aG) x := fun x hx => jT.2 hx
  have C4 : ∀ r b, bS s1.aG r → β r = some b → w'.shape? b = w.shape? b := fun r b hd fz => hk.shape b (xv.lb r b hd fz)
  refine ⟨fun t e he => (xv.env t e he).mono (fun _ _ => rfl) hL Ya hw C4, ⟨fun x sc hx => ?_, fun x y b hx hy => xv.aG.2 x y b (jT.1 hx) (jT.1 hy)⟩,
    fun x hx => xv.par x (jT.1 hx), fun x b hx => xv.new x b (jT.1 hx), fun b hI => ?_, fun b hI => ?_, ?_, xv.size, xv.defers⟩
  · have hx : (lR σ sout s1.aG).get x = some sc := hx
    rw [A2] at hx
    cases hg : s1.aG.get x with
    | none => rw [hg] at hx; cases hx
    | some I9 =>
      rw [hg] at hx
      simp only [Option.map_some, Option.some.injEq] at hx
      obtain ⟨k1, k2⟩ := xv.aG.1 x I9 hg
      have Hk : bS s1.aG x := by unfold bS; rw [hg]; rfl
      have UX : Nat.blt x 999999 = false → assoc σ x = none := fun hb => by
        cases ha : assoc σ x with
        | none => rfl
        | some y => rw [show Nat.blt x 999999 = true from Nat.ble_eq_true_of_le (xP oG (jk ha)).1] at hb; cases hb
      have hx : (match assoc σ x with
        | some y => match aS.get sout y with
          | some sc' => sc'
          | none => I9
        | none => I9) = sc := by
        cases hb : Nat.blt x 999999 with
        | true => rw [hb] at hx; exact hx
        | false => rw [hb] at hx; rw [UX hb]; exact hx
      cases ha : assoc σ x with
      | some y =>
        have hm := jk ha
        have Lf := Hp x y Hk ha
        obtain ⟨_, Zv, _⟩ := eO oG hm
        obtain ⟨sc', Kv⟩ := Option.isSome_iff_exists.1 (AF (x, y) hm Lf)
        simp only [ha, Kv] at hx
        subst hx
        obtain ⟨c1, c2, c3⟩ := LS y sc' Kv
        have PN : β' y = β x := by
          rw [hb y (jb oG σ (fun p hp => hp) x y hm) Lf]
          unfold βX; rw [Zv]; rfl
        exact ⟨c2.closed c1 PN.symm (fun _ h => h), fun b fz => ⟨Nat.lt_of_lt_of_le (k2 b fz).1 hk.size, c3 b (PN.trans fz)⟩⟩
      | none =>
        simp only [ha] at hx
        subst hx
        refine ⟨k1.mono rfl (fun b fz => hk.block b (xv.lb x b Hk fz) (fun hM => ?_)) (fun _ _ => rfl) hL Ya hw C4, fun b fz => ⟨Nat.lt_of_lt_of_le (k2 b fz).1 hk.size, fun hI => ?_⟩⟩
        · obtain ⟨y2, VR, VS⟩ := hM
          obtain ⟨x2, h1, h2, h3⟩ := pF b y2 VR VS
          have := hr.aG.2 x x2 b (tV x Hk) h2 fz h3
          subst this
          rw [ha] at h1; cases h1
        · rcases VP b hI with h | h | h
          · exact (k2 b fz).2 h
          · have := (k2 b fz).1; have := h.1; omega
          · exact (VQ b h).2.2 x Hk fz
  · rcases VP b hI with h | h | h
    · exact Nat.lt_of_lt_of_le (hr.ib b h) hk.size
    · exact h.2
    · exact Nat.lt_of_lt_of_le (VQ b h).2.1 hk.size
  · rcases VP b hI with h | h | h
    · rcases hr.ii b h with h3 | h3
      · exact .inl h3
      · exact .inr (h3.imp (fun h3 => ⟨h3.1, Nat.lt_of_lt_of_le h3.2 hk.size⟩) id)
    · exact .inr (.inl ⟨Nat.le_trans hr.aF.size h.1, h.2⟩)
    · obtain ⟨h1, h2, _⟩ := VQ b h
      exact .inr (h1.imp (fun h1 => ⟨h1, Nat.lt_of_lt_of_le h2 hk.size⟩) id)
  · refine hr.aF.trans hk (fun b ba hM => ?_)
    obtain ⟨y, hy, Ku⟩ := hM
    obtain ⟨x, _, hd, N1⟩ := pF b y hy Ku
    by_cases FP : bS Γ.sin x ∧ ¬ gv x
    · exact ⟨x, FP.1, by rw [← hr.par x hd FP.1 FP.2]; exact N1⟩
    · exact (hr.new x b hd (by by_cases h : bS Γ.sin x; · exact .inr (Classical.byContradiction fun h2 => FP ⟨h, h2⟩)
                               · exact .inl h) N1).m ba
theorem A3(nx:Bool)(hr:dD Γ s a w β I){σ:List (Nat×Nat)}(oG:mH s.aG σ=true):∀(xs:List Operand) (es:List EV),C8 nx s.env (assoc σ) xs=some es→xs.length=es.length ∧
  ∀(j:Nat) e x,es[j]? = some e→xs[j]? = some x→RE (βX β σ) (bS (my s.aG σ)) I w e (a.eval x)
 |[],es,h=>by injection h with h;subst h;exact⟨rfl,fun j p x hp=>by simp at hp⟩
 |x::r,es,h=>by
  unfold C8 at h
  split at h
  ·rename_i e SK he OD
   split at h
   ·rename_i e' hO
    injection h with h;subst h
    obtain⟨h1,h2⟩:=A3 nx hr oG r SK OD
    refine⟨by simp[h1],fun j q y hj hy => ?_⟩
    cases j with
    |zero =>
     simp at hj hy;subst hj hy
     have hx:=hr.Zt nx x _ he
     cases e with
     |pv p=>injection hO with hO;subst hO;exact hx
     |pz c=>injection hO with hO;subst hO;exact hx
     |dead=>cases hO
     |qM _ _ _=>cases hO
     |oA _ _=>cases hO
     |ptr z off =>
      simp only[uK] at hO
      split at hO
      ·rename_i y hy
       injection hO with hO;subst hO
       have hm:=jk hy
       obtain⟨_,hR,_⟩:=eO oG hm
       obtain⟨_,b,hb,hv⟩:=hx
       exact⟨jb oG σ (fun p hp=>hp) z y hm,b,by unfold βX;rw[hR];exact hb,hv⟩
      ·cases hO
     |Cu g z =>
      simp only[uK] at hO
      split at hO
      ·rename_i y hy
       injection hO with hO;subst hO
       have hm:=jk hy
       obtain⟨_,hR,_⟩:=eO oG hm
       obtain⟨_,b,hb,hv⟩:=hx
       exact⟨jb oG σ (fun p hp=>hp) z y hm,b,by unfold βX;rw[hR];exact hb,hv⟩
      ·cases hO
     |row z off len sz =>
      simp only[uK] at hO
      split at hO
      ·rename_i y hy
       injection hO with hO;subst hO
       have hm:=jk hy
       obtain⟨_,hR,_⟩:=eO oG hm
       have N2:βX β σ y=β z:=by unfold βX;rw[hR];rfl
       obtain⟨_,hx⟩:=hx
       exact⟨jb oG σ (fun p hp=>hp) z y hm,by rw[N2];exact hx⟩
      ·cases hO
     |pA z off len sz ps =>
      simp only[uK] at hO
      split at hO
      ·rename_i y hy
       injection hO with hO;subst hO
       have hm:=jk hy
       obtain⟨_,hR,_⟩:=eO oG hm
       have N2:βX β σ y=β z:=by unfold βX;rw[hR];rfl
       obtain⟨us,g1,g2,⟨u,g3,_,g4⟩,g5⟩:=hx
       exact⟨us,g1,g2,⟨u,g3,jb oG σ (fun p hp=>hp) z y hm,by rw[N2];exact g4⟩,g5⟩
      ·cases hO
    |succ j=>exact h2 j q y (by simpa using hj) (by simpa using hy)
   ·cases h
  ·cases h
theorem Kw(hr:dD Γ s a w β I){σ:List (Nat×Nat)}(oG:mH s.aG σ=true){g:Operand}{f:FuncId}{ex:List EV}(h:OC (assoc σ) s.env g=some (f,ex)) :
  ∃cap:Array Value,a.eval g = .func (.func f) #[] cap∧ex.length=cap.size∧∀(j:Nat) e v,ex[j]? = some e→cap[j]? = some v→RE (βX β σ) (bS (my s.aG σ)) I w e v:=by
 unfold OC at h
 split at h
 ·rename_i f'
  injection h with h;injection h with h1 h2
  subst h1;subst h2
  exact⟨#[],by simp[Act.eval],rfl,fun j e v he=>by simp at he⟩
 ·split at h
  ·rename_i f' r he
   split at h
   ·rename_i y hy
    injection h with h;injection h with h1 h2
    subst h1;subst h2
    obtain⟨_,b,hb,hv⟩:=hr.Fg g _ he
    have hm:=jk hy
    obtain⟨_,hR,_⟩:=eO oG hm
    refine⟨#[.pointer (some ⟨b,0,none⟩)],hv,rfl,fun j e v he hv => ?_⟩
    cases j with
    |zero =>
     simp at he hv;subst he;subst hv
     exact⟨jb oG σ (fun p hp=>hp) r y hm,b,by unfold βX;rw[hR];exact hb,rfl⟩
    |succ j=>simp at he
   ·cases h
  ·rename_i f' he
   injection h with h;injection h with h1 h2
   subst h1;subst h2
   have hv:Rd I w (.fn f') (a.eval g):=hr.Fg g _ he
   refine⟨#[],?_,rfl,fun j e v he=>by simp at he⟩
   generalize a.eval g=v at hv
   cases hv;rfl
  ·cases h
theorem HQ {f : FuncId} (hc : nm P f) {g : Operand} {cap : Array Value} (hv : a.eval g = .func (.func f) #[] cap) {args : Array Operand} {LA : Array TypeId} (uH : o.op = .call ⟨.value g, args, LA⟩) :
    (execOp a.eval o).run P w = .ok (.enter f (args.map a.eval ++ cap)) w := by
  obtain ⟨fn, h1, h2, h3⟩ := hc
  have hb : fn.body ≠ none := by intro e; rw [e] at h2; cases h2
  have Lw : fn.name ≠ "runtime.NumGoroutine" := by simpa using h3
  simp [execOp, uH, resolve, hv, Deferred.ofValue, invoke, callFunc, h1, Lw, hb]
theorem sH (hs : ∀ r, bS Γ.sin r → Γ.n ≤ r) (hr : Rel Γ s a w) (aI : qU P Γ.n o h s = some (s', ob)) (cr : dP ob) {K : Act → World → Prop} {Q : Exit → Act → World → Prop}
    (hk : ∀ a' w', Rel Γ s' a' w' → K a' w') : o.wp P a w K Q := by
  obtain ⟨β, I, hr⟩ := hr
  unfold qU at aI
  split at aI
  · rename_i c σ nw r sout uH
    split at aI
    case h_2 => cases aI
    rename_i g sD
    split at aI
    · rename_i f ex es hg OD
      cases hd : (lu Γ.n o.dst && mH s.aG σ && σ.all (fun p => bif v7 p.2 then Nat.blt p.1 Γ.n else (aS.get sout p.2).isSome) && sout.all (fun p => Nat.blt p.1 999999 && jB p.2 && (((kT σ p.1).isSome && !v7 p.1) || xN (nw.map (·.1)) p.1))) with
      | false => simp [hd] at aI
      | true =>
        simp only [hd, cond_true] at aI
        simp only [Bool.and_eq_true] at hd
        obtain ⟨⟨⟨d1, d2⟩, d3⟩, d4⟩ := hd
        rw [List.all_eq_true] at d3 d4
        obtain ⟨cl, args, LA⟩ := c
        have sD : cl = .value g := sD
        subst sD
        obtain ⟨cap, VT, VU, Kx⟩ := Kw hr d2 hg
        obtain ⟨hl, uE⟩ := A3 _ hr d2 args.toList es OD
        have Tl : wi (βX β σ) I w (my s.aG σ) := by
          refine ⟨fun y sc hy => ?_, fun y y' b hy Lg h1 h2 => ?_⟩
          · obtain ⟨x, g1, g2, g3⟩ := oF d2 σ (fun p hp => hp) y sc hy
            obtain ⟨_, _, sc1, g4, g5⟩ := eO d2 (jC g1)
            rw [g3] at g4; injection g4 with g4; subst g4
            have N2 : βX β σ y = β x := by unfold βX; rw [g1]; rfl
            obtain ⟨k1, k2⟩ := hr.aG.1 x sc g3
            exact ⟨k1.closed g5 N2 (fun _ h => h), fun b hb => k2 b (N2.symm.trans hb)⟩
          · obtain ⟨sc, pr⟩ := Option.isSome_iff_exists.1 hy
            obtain ⟨sc', Kv⟩ := Option.isSome_iff_exists.1 Lg
            obtain ⟨x, g1, g2, g3⟩ := oF d2 σ (fun p hp => hp) y sc pr
            obtain ⟨x', UY, Ld, UZ⟩ := oF d2 σ (fun p hp => hp) y' sc' Kv
            have e1 : β x = some b := by unfold βX at h1; rw [g1] at h1; exact h1
            have e2 : β x' = some b := by unfold βX at h2; rw [UY] at h2; exact h2
            have := hr.aG.2 x x' b (by unfold bS; rw [g3]; rfl) (by unfold bS; rw [UZ]; rfl) e1 e2
            subst this
            rw [g2] at Ld; injection Ld with Ld
        have fin : ∀ (hc : av P f (es ++ ex) (my s.aG σ) r sout) {s2 : St}, (∀ v w' β', ll (fun b => ∃ y, bS (my s.aG σ) y ∧ βX β σ y = some b) w w' → (∀ y, bS (my s.aG σ) y → ¬ gv y → β' y = βX β σ y) →
              wi β' (fun b => I b ∨ ((fresh w w' b ∨ Ko (my s.aG σ) (βX β σ) b) ∧ ∀ x, bS sout x → β' x ≠ some b)) w' sout → RE β' (bS sout) (fun b => I b ∨ ((fresh w w' b ∨ Ko (my s.aG σ) (βX β σ) b) ∧ ∀ x, bS sout x → β' x ≠ some b)) w' r v →
              (∀ x b, bS sout x → ¬ bS (my s.aG σ) x → β' x = some b → fresh w w' b ∨ Ko (my s.aG σ) (βX β σ) b) → Rel Γ s2 (a.put o.dst v) w') → (∀ a' w', Rel Γ s2 a' w' → K a' w') → o.wp P a w K Q := by
          intro hc s2 HT hk
          unfold Oper.wp
          rw [HQ hc.1 VT uH]
          rw [Oper.upon_enter]
          have Ot : args.size = es.length := by simpa using hl
          refine (hc.2 I w (βX β σ) (args.map a.eval ++ cap) hr.ib Tl (by rw [List.length_append, Array.size_append, Array.size_map, Ot, VU]) (fun j e v he hv => ?_)).mono fun e w' hp => ?_
          · by_cases hj : j < es.length
            · rw [List.getElem?_append_left hj] at he
              rw [Array.getElem?_append_left (by rw [Array.size_map]; omega), Array.getElem?_map] at hv
              cases hx : args[j]? with
              | none => simp [hx] at hv
              | some x =>
                simp [hx] at hv
                subst hv
                exact uE j e x he (by simpa using hx)
            · rw [List.getElem?_append_right (by omega)] at he
              rw [Array.getElem?_append_right (by rw [Array.size_map]; omega), Array.size_map, Ot] at hv
              exact Kx _ e v he hv
          · obtain ⟨v, β', rfl, p1, p2, p3, p4, p5⟩ := hp
            exact hk _ _ (HT v w' β' p2 p1 p3 p4 p5)
        have CF : ∀ p ∈ sout, p.1 < 999999 := fun p hp => by
          have := d4 p hp
          simp only [Bool.and_eq_true] at this
          exact Nat.le_of_ble_eq_true this.1.1
        have Q1 : ∀ y sc, aS.get sout y = some sc → jB sc = true := by
          intro y sc hy
          obtain ⟨p, hp, h1⟩ : ∃ p ∈ sout, p.2 = sc := by
            exact ⟨(y, sc), aS.FO CF hy, rfl⟩
          have := d4 p hp
          simp only [Bool.and_eq_true] at this
          rw [← h1]; exact this.1.2
        have Tm : ∀ y, v7 y = true ↔ gv y := fun y => ⟨Nat.le_of_ble_eq_true, Nat.ble_eq_true_of_le⟩
        have PO : ∀ p ∈ σ, ¬ gv p.2 → bS sout p.2 := fun p hp hg => by
          have := d3 p hp
          rw [Bool.eq_false_iff.2 (fun h => hg ((Tm _).1 h)), cond_false] at this
          exact this
        have xv := hr.fC (givenBy σ)
        have tV : ∀ x, bS (fC (givenBy σ) s).aG x → bS s.aG x := fun x hx => ((pG _).1 hx).1
        have Hp : ∀ x y, bS (fC (givenBy σ) s).aG x → assoc σ x = some y → ¬ gv y := fun x y hx ha hg => ((pG _).1 hx).2 (List.mem_map.2 ⟨(x, y), List.mem_filter.2 ⟨jk ha, (Tm y).2 hg⟩, rfl⟩)
        have LR : ∀ x y b, assoc σ x = some y → gv y → bS s.aG x → β x = some b → Γ.Nw b := fun x y b ha hg Hk hb => by
          have := d3 _ (jk ha)
          rw [(Tm y).2 hg, cond_true] at this
          exact hr.new x b Hk (.inl (fun h => absurd (hs x h) (Nat.not_le_of_lt (Nat.le_of_ble_eq_true this)))) hb
        have oD : ∀ x y, kT σ y = some x → bS sout y → ¬ xN (nw.map (·.1)) y = true → bS (fC (givenBy σ) s).aG x ∧ ¬ gv y := by
          intro x y hx hy di
          obtain ⟨sc, pr⟩ := Option.isSome_iff_exists.1 hy
          have := d4 _ (aS.FO CF pr)
          simp only [Bool.and_eq_true, Bool.or_eq_true, Bool.not_eq_true'] at this
          have Lf : ¬ gv y := fun hg => by
            rcases this.2 with h | h
            · rw [(Tm y).2 hg] at h; exact absurd h.2 (by simp)
            · exact di h
          obtain ⟨e1, _, VV, e2, _⟩ := eO d2 (jC hx)
          refine ⟨(pG _).2 ⟨by unfold bS; rw [e2]; rfl, fun hm => ?_⟩, Lf⟩
          obtain ⟨⟨x', y'⟩, U3, SL⟩ := List.mem_map.1 hm
          obtain ⟨Zw, Zx⟩ := List.mem_filter.1 U3
          have SL : x' = x := SL
          subst SL
          obtain ⟨e3, _⟩ := eO d2 Zw
          rw [e1] at e3; injection e3 with e3; subst e3
          exact Lf ((Tm _).1 Zx)
        split at aI
        · split at aI
          · rename_i r' eb
            injection aI with aI; injection aI with h1 h2
            subst h1; subst h2
            refine fin cr (fun v w' β' p2 p1 p3 p4 p5 => ?_) hk
            have hh := hr.handed xv tV Hp LR (sout := sout) d2 PO p1 p2 (fun y sc hy => ⟨Q1 y sc hy, (p3.1 y sc hy).1, fun b hb => ((p3.1 y sc hy).2 b hb).2⟩) (fun b hb => .inl hb) (fun b hb => hb.imp id (fun h => h.1))
            refine ⟨β, _, hh.put (eT d1) ?_⟩
            cases r with
            | pv p => injection eb with eb; subst eb; exact p4
            | pz c => injection eb with eb; subst eb; exact p4
            | dead => cases eb
            | qM _ _ _ => cases eb
            | oA _ _ => cases eb
            | ptr y off =>
              simp only [uK] at eb
              split at eb
              · rename_i x hx
                injection eb with eb; subst eb
                have hm := jC hx
                obtain ⟨Q2, b, hb, hv⟩ := p4
                obtain ⟨k1, k2⟩ := oD x y hx Q2 (by simp [xN])
                exact ⟨jT.2 k1, b, by rw [p1 y (jb d2 σ (fun p hp => hp) x y hm) k2] at hb; unfold βX at hb; rw [hx] at hb; exact hb, hv⟩
              · cases eb
            | Cu g y =>
              simp only [uK] at eb
              split at eb
              · rename_i x hx
                injection eb with eb; subst eb
                have hm := jC hx
                obtain ⟨Q2, b, hb, hv⟩ := p4
                obtain ⟨k1, k2⟩ := oD x y hx Q2 (by simp [xN])
                exact ⟨jT.2 k1, b, by rw [p1 y (jb d2 σ (fun p hp => hp) x y hm) k2] at hb; unfold βX at hb; rw [hx] at hb; exact hb, hv⟩
              · cases eb
            | row y off len sz =>
              simp only [uK] at eb
              split at eb
              · rename_i x hx
                injection eb with eb; subst eb
                have hm := jC hx
                obtain ⟨Q2, p4⟩ := p4
                obtain ⟨k1, k2⟩ := oD x y hx Q2 (by simp [xN])
                have N2 : β' y = β x := by rw [p1 y (jb d2 σ (fun p hp => hp) x y hm) k2]; unfold βX; rw [hx]; rfl
                exact ⟨jT.2 k1, by rw [← N2]; exact p4⟩
              · cases eb
            | pA y off len sz ps =>
              simp only [uK] at eb
              split at eb
              · rename_i x hx
                injection eb with eb; subst eb
                have hm := jC hx
                obtain ⟨us, q1, q2, ⟨u, q3, Q2, q4⟩, q5⟩ := p4
                obtain ⟨k1, k2⟩ := oD x y hx Q2 (by simp [xN])
                have N2 : β' y = β x := by rw [p1 y (jb d2 σ (fun p hp => hp) x y hm) k2]; unfold βX; rw [hx]; rfl
                exact ⟨us, q1, q2, ⟨u, q3, jT.2 k1, by rw [← N2]; exact q4⟩, q5⟩
              · cases eb
          · cases aI
        · rename_i y d
          split at aI
          · rename_i sc r' pr uQ Zy eb
            cases uR : Nat.blt d Γ.n with
            | false => simp [uR] at aI
            | true =>
              simp only [uR, cond_true] at aI
              have Tn : d < Γ.n := Nat.le_of_ble_eq_true uR
              injection aI with aI; injection aI with h1 h2
              subst h1; subst h2
              refine fin cr (fun v w' β' p2 p1 p3 p4 p5 => ?_) hk
              have hh := hr.handed xv tV Hp LR (sout := sout) d2 PO p1 p2 (fun y sc hy => ⟨Q1 y sc hy, (p3.1 y sc hy).1, fun b hb => ((p3.1 y sc hy).2 b hb).2⟩) (fun b hb => .inl hb) (fun b hb => hb.imp id (fun h => h.1))
              have VW : ¬ bS (lR σ sout (fC (givenBy σ) s).aG) d := fun h => by
                have := tV _ (jT.1 h)
                unfold bS at this; rw [uQ] at this; cases this
              have Zz : ¬ bS (my s.aG σ) y := fun h => by
                obtain ⟨VV, OE⟩ := Option.isSome_iff_exists.1 h
                obtain ⟨x, g1, _⟩ := oF d2 σ (fun p hp => hp) y VV OE
                rw [Zy] at g1; cases g1
              have ZA : bS sout y := by unfold bS; rw [pr]; rfl
              have sP : d < 999999 := Nat.lt_of_lt_of_le Tn Γ.small
              have pF := hh.site (d := d) (sc := sc) sP VW (fun h => absurd (hs d h) (Nat.not_le_of_lt Tn)) (β' := fun z => if z = d then β' y else β z) (fun r di => by simp [di]) (fun b hb => by
                have hb : β' y = some b := by simpa using hb
                rcases p5 y b ZA Zz hb with hf | hf
                · refine ⟨hf.2, ((p3.1 y sc pr).2 b hb).2, .inl (Nat.le_trans hr.aF.size hf.1), fun x hx N1 => ?_⟩
                  have := hr.lb x b (tV _ (jT.1 hx)) N1
                  have := hf.1; omega
                · obtain ⟨q1, q2, q3⟩ := hr.given tV Hp LR d2 hf
                  exact ⟨Nat.lt_of_lt_of_le q2 p2.size, ((p3.1 y sc pr).2 b hb).2, q1, fun x hx N1 => q3 x (jT.1 hx) N1⟩) ((p3.1 y sc pr).1.closed (Q1 y sc pr) (by simp) (fun _ h => h))
              refine ⟨_, _, pF.put (eT d1) ?_⟩
              have key : ∀ z x, (bif Nat.beq y z then some d else kT σ z) = some x → bS sout z → bS ((d, sc) :: lR σ sout (fC (givenBy σ) s).aG) x ∧ (fun z => if z = d then β' y else β z) x = β' z := by
                intro z x PR Ja
                cases hb : Nat.beq y z with
                | true =>
                  have : y = z := Nat.eq_of_beq_eq_true hb
                  subst this
                  simp only [hb, cond_true] at PR
                  injection PR with PR; subst PR
                  exact ⟨(dQ sP).2 (.inl rfl), by simp⟩
                | false =>
                  simp only [hb, cond_false] at PR
                  have hm := jC PR
                  obtain ⟨_, _, VV, OE, _⟩ := eO d2 hm
                  obtain ⟨k1, k2⟩ := oD x z PR Ja (by intro h; have : y = z := Nat.eq_of_beq_eq_true h; subst this; simp at hb)
                  have di : x ≠ d := fun e => by subst e; rw [uQ] at OE; cases OE
                  refine ⟨(dQ sP).2 (.inr (jT.2 k1)), ?_⟩
                  simp only [if_neg di]
                  rw [p1 z (jb d2 σ (fun p hp => hp) x z hm) k2]; unfold βX; rw [PR]; rfl
              cases r with
              | pv p => injection eb with eb; subst eb; exact p4
              | pz c => injection eb with eb; subst eb; exact p4
              | dead => cases eb
              | qM _ _ _ => cases eb
              | oA _ _ => cases eb
              | ptr z off =>
                simp only [uK] at eb
                split at eb
                · rename_i x hx
                  injection eb with eb; subst eb
                  obtain ⟨Ja, p4⟩ := p4
                  obtain ⟨k1, k2⟩ := key z x hx Ja
                  exact ⟨k1, by rw [k2]; exact p4⟩
                · cases eb
              | Cu g z =>
                simp only [uK] at eb
                split at eb
                · rename_i x hx
                  injection eb with eb; subst eb
                  obtain ⟨Ja, p4⟩ := p4
                  obtain ⟨k1, k2⟩ := key z x hx Ja
                  exact ⟨k1, by rw [k2]; exact p4⟩
                · cases eb
              | row z off len sz =>
                simp only [uK] at eb
                split at eb
                · rename_i x hx
                  injection eb with eb; subst eb
                  obtain ⟨Ja, p4⟩ := p4
                  obtain ⟨k1, k2⟩ := key z x hx Ja
                  exact ⟨k1, by rw [k2]; exact p4⟩
                · cases eb
              | pA z off len sz ps =>
                simp only [uK] at eb
                split at eb
                · rename_i x hx
                  injection eb with eb; subst eb
                  obtain ⟨us, q1, q2, ⟨u, q3, Ja, q4⟩, q5⟩ := p4
                  obtain ⟨k1, k2⟩ := key z x hx Ja
                  exact ⟨us, q1, q2, ⟨u, q3, k1, by rw [k2]; exact q4⟩, q5⟩
                · cases eb
          · cases aI
    · cases aI
  · cases aI
end
end Go.Proofs.YtllmkadmohkbfaaGreatDoor.Sym
