/- Lemmas for the statements of this seat. -/
import Derived.Test.YtnjhplhbmapclaaGreatDoorWSymLz
namespace Go.Proofs.YtnjhplhbmapclaaGreatDoor.Sym
open Go Go.RowKit
section
variable {P:Program} {T:gi} {Γ:Ctx} {s s':St} {a:Act} {w:World} {β:Nat→Option Nat} {I:Nat→Prop} {o:Oper} {h:Hint} {ob:List Prop}
theorem Bt {f : FuncId} (hc : fZ P f) {args : Array Operand} {CD : Array TypeId} (nZ : o.op = .call ⟨.value (.func f), args, CD⟩) : (execOp a.eval o).run P w = .ok (.enter f (args.map a.eval)) w := by
  obtain ⟨fn, h1, h2, h3⟩ := hc
  have hb : fn.body ≠ none := by intro e; rw [e] at h2; cases h2
  have CA : fn.name ≠ "runtime.NumGoroutine" := by simpa using h3
  simp [execOp, nZ, resolve, Act.eval, Deferred.ofValue, invoke, callFunc, h1, CA, hb]
def jn(env:Env):List Operand→Option (List PV)
 |[]=>some []
 |x::r=>match bL env x,jn env r with
  |some (.pv p),some ps=>some (p::ps)
  |_,_=>none
theorem rn(hr:bK Γ s a w β I):∀(xs:List Operand) (ps:List PV),jn s.env xs=some ps→xs.length=ps.length∧∀(j:Nat) p x,ps[j]? = some p→xs[j]? = some x→Rd I w p (a.eval x)
 |[],ps,h=>by injection h with h;subst h;exact⟨rfl,fun j p x hp=>by simp at hp⟩
 |x::r,ps,h=>by
  unfold jn at h
  split at h
  ·rename_i p qs hx hq
   injection h with h;subst h
   obtain⟨h1,h2⟩:=rn hr r qs hq
   refine⟨by simp[h1],fun j q y hj hy => ?_⟩
   cases j with
   |zero=>simp at hj hy;subst hj hy;exact hr.xb x _ hx
   |succ j=>exact h2 j q y (by simpa using hj) (by simpa using hy)
  ·cases h
def mT(P:Program)(n:Nat)(o:Oper)(h:Hint)(s:St):Option (St×List Prop) :=
 match o.op,h with
 |.call c,.pv r=>match c.callee,jn s.env c.args.toList with
  |.value (.func f),some ps=>bif gG n o.dst then some (⟨jU s.env o.dst (.pv r),s.aw⟩,[cb P f ps r]) else none
  |_,_=>none
 |_,_=>none
theorem nE(β:Nat→Option Nat)(I:Nat→Prop)(w:World):ph β I w [] :=
 ⟨fun r sc h=>(by rw[aD.get_nil] at h;cases h),fun r r' b h=>absurd h jH⟩
theorem Bu(hr:bK Γ s a w β I){f:FuncId}{ps:List PV}{r:PV}{vs:Array Value}(hc:cb P f ps r)(hl:vs.size=ps.length)(hv:∀(j:Nat) p v,ps[j]? = some p→vs[j]? = some v→Rd I w p v) :
  Calls P f vs w fun e w'=>∃v,e = .returned v∧uE w.heap.size w w'∧Rd (fun b=>I b∨fresh w w' b) w' r v:=by
 refine(hc.2 I w β vs hr.ib (nE _ _ _) (by simp[hl]) (fun j e v he xd => ?_) hr.lay.nil).mono fun e w' hp => ?_
 ·rw[List.getElem?_map] at he
  cases hj:ps[j]? with
  |none=>simp[hj] at he
  |some p =>
   simp[hj] at he
   subst he
   exact hv j p v hj xd
 ·obtain⟨v,β',rfl,_,hk,_,FY,_⟩:=hp
  have sr:∀x,¬aT [] x:=fun x h=>by exact jH h
  refine⟨v,rfl,⟨⟨hk.os,hk.tape,hk.output,hk.size,fun k CH=>hk.block k CH (fun ⟨x,hx,_⟩=>sr x hx)⟩,hk.drawn⟩,?_⟩
  exact Rd.mono (I:=fun b=>I b∨((fresh w w' b∨Br [] β b)∧∀x,aT [] x→β' x≠some b)) FY (fun b hb=>hb.imp id (fun h=>h.1.elim id (fun ⟨x,_,hx,_⟩=>absurd hx (sr x)))) (fun _ _ _=>rfl)
theorem mU(hr:Rel Γ s a w)(ay:mT P Γ.n o h s=some (s',ob))(bj:bV ob){K:Act→World→Prop}{Q:Exit→Act→World→Prop}
  (hk:∀a' w',Rel Γ s' a' w'→K a' w'):o.wp P a w K Q:=by
 obtain⟨β,I,hr⟩:=hr
 unfold mT at ay
 split at ay
 ·rename_i c r nZ
  split at ay
  ·rename_i f ps lF jG
   cases hd:gG Γ.n o.dst with
   |false=>simp[hd] at ay
   |true =>
    simp only[hd,cond_true] at ay
    injection ay with ay;injection ay with h1 h2
    subst h1;subst h2
    have hc:cb P f ps r:=bj
    obtain⟨cl,args,CD⟩:=c
    have lF:cl = .value (.func f):=lF
    subst lF
    obtain⟨hl,ox⟩:=rn hr args.toList ps jG
    unfold Oper.wp
    rw[Bt hc.1 nZ]
    rw[Oper.upon_enter]
    refine(Bu hr hc (vs:=args.map a.eval) (by simpa using hl) (fun j p v hp hv => ?_)).mono fun e w' sX => ?_
    ·simp only[Array.getElem?_map] at hv
     cases hx:args[j]? with
     |none=>simp[hx] at hv
     |some x =>
      simp[hx] at hv
      subst hv
      exact ox j p x hp (by simpa using hx)
    ·obtain⟨v,rfl,hb,FY⟩:=sX
     exact hk _ _ ⟨β,_,(hr.grow hb (fun b h => .inl h) (fun b h=>h)).put (cD hd) FY⟩
  ·cases ay
 ·cases ay
theorem bK.G1(h:bK Γ s a w β I){t:Nat}{e:EV}(he:RE β (aT s.aw) I w e (a.tmps.getD t undef)):bK Γ ⟨(t,e)::s.env,s.aw⟩ a w β I:=by
 refine⟨fun t' e' dN => ?_,h.aw,h.par,h.new,h.ib,h.ii,h.aB,h.size,h.defers⟩
 have dN:Env.get ((t,e)::s.env) t'=some e':=dN
 simp only[Env.get] at dN
 cases hb:Nat.beq t t' with
 |true =>
  have:t=t':=Nat.eq_of_beq_eq_true hb
  subst this
  simp only[hb,cond_true] at dN
  injection dN with dN;subst dN
  exact he
 |false =>
  simp only[hb,cond_false] at dN
  exact h.env t' e' dN
theorem bK.IT(h:bK Γ s a w β I){b:Nat}(hb:b<w.heap.size)(hw:Γ.Nw b)(hs:∀x,aT s.aw x→β x≠some b):bK Γ s a w β (fun x=>I x∨x=b):=by
 refine⟨fun t e he=>(h.env t e he).mono (fun _ _=>rfl) (fun _ h=>h) (fun _ h => .inl h) (fun _ _ _=>rfl) (fun _ _ _ _=>rfl),⟨fun r sc hr => ?_,h.aw.2⟩,h.par,h.new,fun x hx => ?_,fun x hx => ?_,h.aB,h.size,h.defers⟩
 ·obtain⟨g1,g2⟩:=h.aw.1 r sc hr
  have r6:aT s.aw r:=by unfold aT;rw[hr];rfl
  refine⟨g1.mono rfl (fun _ _=>rfl) (fun _ _=>rfl) (fun _ h=>h) (fun _ h => .inl h) (fun _ _ _=>rfl) (fun _ _ _ _=>rfl),fun b' cQ=>⟨(g2 b' cQ).1,fun hx => ?_⟩⟩
  rcases hx with hx|hx
  ·exact(g2 b' cQ).2 hx
  ·subst hx;exact hs r r6 cQ
 ·rcases hx with hx|hx
  ·exact h.ib x hx
  ·subst hx;exact hb
 ·rcases hx with hx|hx
  ·exact h.ii x hx
  ·subst hx;exact .inr (hw.imp (fun h=>⟨h,hb⟩) id)
theorem ti{L:Nat→Prop}{r len sz:Nat}{v:Value}{ps:List PV}{xs:List (List PV)}(hv:RE β L I w (.row r 0 len sz) v)(Av:RB β L I w r (ps.map EV.pv))(h1:len=xs.length)(h2:ps=xs.flatten)
  (h3:∀row∈xs,row.length=sz) {I':Nat→Prop} (hI:∀b,I b→I' b) (KK:∀b,β r=some b→I' b):Rd I' w (.list xs) v:=by
 obtain⟨_,⟨_,rfl,rfl⟩|⟨b,c,hb,rfl,hc,_⟩⟩:=hv
 ·have:xs=[]:=List.eq_nil_of_length_eq_zero h1.symm
  subst this
  exact .nil _ _
 ·obtain⟨arr,el,hg,_,rX⟩:=oy Av hb
  subst h1;subst h2
  have key:∀(i j:Nat) row x,xs[i]? = some row→row[j]? = some x→∃u,arr[i*sz+j]? = some u∧u.oneCell'=true∧Rd I w x u:=fun i j row x hi hj=>rX _ x (qu h3 hi hj)
  refine .list xs b 0 c sz (fun i j=>arr.getD (i*sz+j) undef) hc (KK b hb) (fun i row hi=>h3 row (List.mem_of_getElem? hi)) (fun i j row x hi hj => ?_) (fun i j row x hi hj => ?_)
  ·obtain⟨u,g1,g2,g3⟩:=key i j row x hi hj
   refine⟨PV.gE g3 g2,?_⟩
   rw[Nat.zero_add,cell_of_row w b _ arr el (0,0) hg,g1]
   simp[Array.getD_eq_getD_getElem?,g1]
  ·obtain⟨u,g1,g2,g3⟩:=key i j row x hi hj
   simp only[Array.getD_eq_getD_getElem?,g1,Option.getD_some]
   exact g3.mono hI (fun _ _ _=>rfl)
def su(n t:Nat)(xs:List (List PV))(s:St):Option (St×List Prop) :=
 match s.env.get t with
 |some (.row r 0 len sz)=>match s.aw.get r with
  |some (.pure ps)=>bif Nat.blt r n&&Nat.blt t n then some (⟨(t,.pv (.list xs))::(kill r s).env,(kill r s).aw⟩,[len=xs.length,ps=xs.flatten,∀row∈xs,row.length=sz]) else none
  |_=>none
 |_=>none
theorem oe(hs:∀r,aT Γ.sin r→Γ.n≤r){t:Nat}{xs:List (List PV)}(hr:Rel Γ s a w)(ay:su Γ.n t xs s=some (s',ob))(bj:bV ob):Rel Γ s' a w:=by
 obtain⟨β,I,hr⟩:=hr
 unfold su at ay
 split at ay
 ·rename_i r len sz he
  split at ay
  ·rename_i ps jG
   cases hb:(Nat.blt r Γ.n&&Nat.blt t Γ.n) with
   |false=>simp[hb] at ay
   |true =>
    simp only[hb,cond_true] at ay
    simp only[Bool.and_eq_true] at hb
    have ES:r<Γ.n:=Nat.le_of_ble_eq_true hb.1
    injection ay with ay;injection ay with h1 h2
    subst h1;subst h2
    obtain⟨g1,bj⟩:=bj.cons
    obtain⟨g2,g3⟩:=bj.cons
    have hv:=hr.env t _ he
    have Av:=(hr.aw.1 r _ jG).1
    have r6:aT s.aw r:=by unfold aT;rw[jG];rfl
    have xz:¬aT Γ.sin r:=fun h=>absurd (hs r h) (Nat.not_le_of_lt ES)
    cases jw:β r with
    |none=>exact⟨β,I,(hr.kill r).G1 (ti hv Av g1 g2 g3 (fun _ h=>h) (fun b cQ=>by rw[jw] at cQ;cases cQ))⟩
    |some b =>
     have hk:=(hr.kill r).IT (b:=b) ((hr.aw.1 r _ jG).2 b jw).1 (hr.new r b r6 (.inl xz) jw) (fun x hx e=>(cC.1 hx).2 (hr.aw.2 x r b (cC.1 hx).1 r6 e jw))
     exact⟨β,_,hk.G1 (ti hv Av g1 g2 g3 (fun _ h => .inl h) (fun b' cQ=>by rw[jw] at cQ;injection cQ with cQ;exact .inr cQ.symm))⟩
  ·cases ay
 ·cases ay
def CU(s:St)(o:Oper):Option St :=
 match o.op with
 |.call c=>match c.args.toList with
  |x::_=>match bL s.env x with
   |some (.row r _ len sz)=>match s.aw.get r with
    |some (.pure ps)=>some ⟨s.env,aD.set s.aw r (.pure (ps.take (len*sz)))⟩
    |_=>none
   |_=>none
  |_=>none
 |_=>none
theorem xH{s1:St}(hr:Rel Γ s a w)(h:CU s o=some s1):Rel Γ s1 a w:=by
 unfold CU at h
 split at h
 ·split at h
  ·split at h
   ·split at h
    ·rename_i jG
     injection h with h;subst h
     exact hr.cut jG
    ·cases h
   ·cases h
  ·cases h
 ·cases h
def tj(T:gi)(n:Nat)(o:Oper)(h:Hint)(s:St):Option (St×List Prop) :=
 match h with
 |.kV l _ xs=>match py T n o (.app l xs.flatten) s,o.dst with
  |some (s1,Cc),some d=>match su n d xs s1 with
   |some (s2,ob2)=>some (s2,Cc++ob2)
   |none=>none
  |_,_=>none
 |.row l out=>match CU s o with
  |some s1=>pw zf T n o (.app l out) s1
  |none=>none
 |_=>py T n o h s
theorem tk(hT:jh P T)(hs:∀r,aT Γ.sin r→Γ.n≤r)(hr:Rel Γ s a w)(ay:tj T Γ.n o h s=some (s',ob))(bj:bV ob){K:Act→World→Prop}{Q:Exit→Act→World→Prop}
  (hk:∀a' w',Rel Γ s' a' w'→K a' w'):o.wp P a w K Q:=by
 unfold tj at ay
 split at ay
 ·rename_i l u xs
  split at ay
  ·rename_i s1 Cc d h1 hd
   split at ay
   ·rename_i s2 ob2 h2
    injection ay with ay;injection ay with e1 e2
    subst e1;subst e2
    obtain⟨g1,g2⟩:=bj.app
    exact mS hT hs hr h1 g1 (fun a' w' bU=>hk a' w' (oe hs bU h2 g2))
   ·cases ay
  ·cases ay
 ·rename_i l out
  split at ay
  ·rename_i s1 h1
   exact mR (fun hr=>EX hr) hT hs (xH hr h1) ay bj hk
  ·cases ay
 ·exact mS hT hs hr ay bj hk
def assoc:List (Nat×Nat)→Nat→Option Nat
 |[],_=>none
 |(x',y)::r,x=>bif Nat.beq x' x then some y else assoc r x
def gr:List (Nat×Nat)→Nat→Option Nat
 |[],_=>none
 |(x,y')::r,y=>bif Nat.beq y' y then some x else gr r y
def qF:Option Nat→Nat→Bool
 |some x,y=>Nat.beq x y
 |none,_=>false
def e9:SC→Bool
 |.pure _=>true
 |.lit cs=>cs.all fun | .pv _=>true|_=>false
 |_=>false
def iy(aw:aD)(σ:List (Nat×Nat)):Bool :=
 σ.all fun p=>(Nat.blt p.1 999999&&Nat.blt p.2 999999)&&qF (assoc σ p.1) p.2&&qF (gr σ p.2) p.1&&(match aw.get p.1 with
  |some sc=>e9 sc
  |none=>false)
def gV(aw:aD):List (Nat×Nat)→aD
 |[]=>[]
 |(x,y)::σ=>match aw.get x with
  |some sc=>(y,sc)::gV aw σ
  |none=>gV aw σ
def gW(σ:List (Nat×Nat))(sout:aD):aD→aD
 |[]=>[]
 |(x,sc)::aw=>(x,bif Nat.blt x 999999 then (match assoc σ x with
  |some y=>match aD.get sout y with
   |some sc'=>sc'
   |none=>sc
  |none=>sc) else sc)::gW σ sout aw
def n7(σ:Nat→Option Nat):EV→Option EV
 |.pv p=>some (.pv p)
 |.ptr x o=>match σ x with
  |some y=>some (.ptr y o)
  |none=>none
 |.row x o l z=>match σ x with
  |some y=>some (.row y o l z)
  |none=>none
 |.jD c=>some (.jD c)
 |.jE x o l z ps=>match σ x with
  |some y=>some (.jE y o l z ps)
  |none=>none
 |.sk f x=>match σ x with
  |some y=>some (.sk f y)
  |none=>none
 |.dead=>none
 |.km .. => none
 |.jg .. => none
 |.jF .. => none
def xI(nx:Bool)(env:Env)(x:Operand):Option EV :=
 match nx,x with
 |true,.const (.slice none 0 0)=>some (.pv .fX)
 |_,x=>bL env x
def IU:EV→Bool
 |.jE .. => true
 |.row .. => true
 |_=>false
theorem bK.NO(hr:bK Γ s a w β I)(nx:Bool)(x:Operand)(e:EV)(h:xI nx s.env x=some e):RE β (aT s.aw) I w e (a.eval x):=by
 unfold xI at h
 split at h
 ·injection h with h;subst h;exact Rd.fX
 ·exact hr.xb x e h
def vg(nx:Bool)(env:Env)(σ:Nat→Option Nat):List Operand→Option (List EV)
 |[]=>some []
 |x::r=>match xI nx env x,vg nx env σ r with
  |some e,some es=>match n7 σ e with
   |some e'=>some (e'::es)
   |none=>none
  |_,_=>none
def EZ(σ:Nat→Option Nat)(env:Env):Operand→Option (FuncId×List EV)
 |.func f=>some (f,[])
 |x=>match bL env x with
  |some (.sk f r)=>match σ r with
   |some y=>some (f,[.ptr y 0])
   |none=>none
  |some (.pv (.fn f))=>some (f,[])
  |_=>none
def cT:List Nat→St→St
 |[],s=>s
 |r::rs,s=>cT rs (kill r s)
theorem bK.cT:∀(rs:List Nat) {s:St},bK Γ s a w β I→bK Γ (cT rs s) a w β I
 |[],_,h=>h
 |r::rs,_,h=>bK.cT rs (h.kill r)
theorem kz:∀(rs:List Nat) {s:St} {x:Nat},aT (cT rs s).aw x↔aT s.aw x∧x ∉ rs
 |[],s,x=>by simp[cT]
 |r::rs,s,x=>by
  show aT (cT rs (kill r s)).aw x↔_
  rw[kz rs]
  show aT (bQ r s.aw) x∧_↔_
  rw[cC]
  simp only[List.mem_cons,not_or,and_assoc]
def o5(x:Nat):Bool:=Nat.ble 200000 x
def givenBy(σ:List (Nat×Nat)):List Nat:=(σ.filter fun p=>o5 p.2).map (·.1)
def lk (P : Program) (n : Nat) (o : Oper) (h : Hint) (s : St) : Option (St × List Prop) :=
  match o.op, h with
  | .call c, .bz σ nw r sout => match c.callee with
    | .value g => match EZ (assoc σ) s.env g, vg (IU r) s.env (assoc σ) c.args.toList with
     | some (f, ex), some es => bif gG n o.dst && iy s.aw σ && σ.all (fun p => bif o5 p.2 then Nat.blt p.1 n else (aD.get sout p.2).isSome) && sout.all (fun p => Nat.blt p.1 999999 && e9 p.2 && (((gr σ p.1).isSome && !o5 p.1) || qF (nw.map (·.1)) p.1)) then
        match nw with
        | none => match n7 (gr σ) r with
          | some r' => some (⟨jU (cT (givenBy σ) s).env o.dst r', gW σ sout (cT (givenBy σ) s).aw⟩, [aq P f (es ++ ex) (gV s.aw σ) r sout])
          | none => none
        | some (y, d) => match aD.get sout y, s.aw.get d, gr σ y, n7 (fun z => bif Nat.beq y z then some d else gr σ z) r with
          | some sc, none, none, some r' => bif Nat.blt d n then some (⟨jU (cT (givenBy σ) s).env o.dst r', (d, sc) :: gW σ sout (cT (givenBy σ) s).aw⟩, [aq P f (es ++ ex) (gV s.aw σ) r sout]) else none
          | _, _, _, _ => none
      else none
     | _, _ => none
    | _ => none
  | _, _ => none
theorem eN:∀{σ:List (Nat×Nat)} {x y:Nat},assoc σ x=some y→(x,y)∈σ
 |[],x,y,h=>by cases h
 |(x',y')::r,x,y,h=>by
  simp only[assoc] at h
  cases hb:Nat.beq x' x with
  |true =>
   have:x'=x:=Nat.eq_of_beq_eq_true hb
   subst this
   simp only[hb,cond_true] at h
   injection h with h;subst h;simp
  |false =>
   simp only[hb,cond_false] at h
   exact List.mem_cons_of_mem _ (eN h)
theorem fa:∀{σ:List (Nat×Nat)} {x y:Nat},gr σ y=some x→(x,y)∈σ
 |[],x,y,h=>by cases h
 |(x',y')::r,x,y,h=>by
  simp only[gr] at h
  cases hb:Nat.beq y' y with
  |true =>
   have:y'=y:=Nat.eq_of_beq_eq_true hb
   subst this
   simp only[hb,cond_true] at h
   injection h with h;subst h;simp
  |false =>
   simp only[hb,cond_false] at h
   exact List.mem_cons_of_mem _ (fa h)
theorem aD.pz:∀{aw:aD} {y:Nat} {sc:SC},aD.cp aw y=some sc→(y,sc)∈aw
 |[],y,sc,h=>by cases h
 |(y',sc')::r,y,sc,h=>by
  simp only[aD.cp] at h
  cases hb:Nat.beq y' y with
  |true =>
   have:y'=y:=Nat.eq_of_beq_eq_true hb
   subst this
   simp only[hb,cond_true] at h
   injection h with h;subst h;simp
  |false =>
   simp only[hb,cond_false] at h
   exact List.mem_cons_of_mem _ (aD.pz h)
theorem aD.get_mem{aw:aD}{y:Nat}{sc:SC}(h:aD.get aw y=some sc):(y,sc)∈aw∨(1000000≤y∧∃xs,(999999,SC.heap xs)∈aw):=by
 rcases xi y with hy|rfl|⟨j,rfl⟩
 ·rw[aD.gm hy] at h;exact .inl (aD.pz h)
 ·rw[aD.dP] at h;cases h
 ·right
  refine⟨by unfold hc;omega,?_⟩
  rw[aD.gQ] at h
  unfold aD.hp at h
  split at h
  ·rename_i xs hg;exact⟨xs,aD.pz hg⟩
  ·simp[lL] at h
theorem aD.xJ{aw:aD}(Ir:∀p∈aw,p.1<999999){y:Nat}{sc:SC}(h:aD.get aw y=some sc):(y,sc)∈aw:=by
 rcases aD.get_mem h with h|⟨_,xs,h⟩
 ·exact h
 ·have:=Ir _ h;simp at this
theorem qG{o:Option Nat}{y:Nat}(h:qF o y=true):o=some y:=by
 cases o with
 |none=>cases h
 |some x=>rw[Nat.eq_of_beq_eq_true h]
theorem qH{aw:aD}{σ:List (Nat×Nat)}(h:iy aw σ=true){x y:Nat}(hm:(x,y)∈σ):x<999999∧y<999999:=by
 unfold iy at h
 rw[List.all_eq_true] at h
 have:=h (x,y) hm
 simp only[Bool.and_eq_true] at this
 exact⟨Nat.le_of_ble_eq_true this.1.1.1.1,Nat.le_of_ble_eq_true this.1.1.1.2⟩
theorem cz{aw:aD}{σ:List (Nat×Nat)}(h:iy aw σ=true){x y:Nat}(hm:(x,y)∈σ) :
  assoc σ x=some y∧gr σ y=some x∧∃sc,aw.get x=some sc∧e9 sc=true:=by
 unfold iy at h
 rw[List.all_eq_true] at h
 have:=h (x,y) hm
 simp only[Bool.and_eq_true] at this
 obtain⟨⟨⟨_,h1⟩,h2⟩,h3⟩:=this
 refine⟨qG h1,qG h2,?_⟩
 split at h3
 ·rename_i sc jP;exact⟨sc,jP,h3⟩
 ·cases h3
theorem iS{aw:aD}{σ0:List (Nat×Nat)}(jX:iy aw σ0=true):∀(σ:List (Nat×Nat)),(∀p∈σ,p∈σ0)→∀(y:Nat) sc,(gV aw σ).get y=some sc→∃x,gr σ0 y=some x∧assoc σ0 x=some y∧aw.get x=some sc
 |[],_,y,sc,h=>by rw[gV,aD.get_nil] at h;cases h
 |(x,y')::σ,hm,y,sc,h=>by
  obtain⟨g1,g2,Az,g3,_⟩:=cz jX (hm (x,y') (by simp))
  simp only[gV,g3] at h
  rw[aD.fY (qH jX (hm (x,y') (by simp))).2] at h
  cases hb:Nat.beq y' y with
  |true =>
   have:y'=y:=Nat.eq_of_beq_eq_true hb
   subst this
   simp only[hb,cond_true] at h
   injection h with h;subst h
   exact⟨x,g2,g1,g3⟩
  |false =>
   simp only[hb,cond_false] at h
   exact iS jX σ (fun p hp=>hm p (by simp[hp])) y sc h
theorem eH{aw:aD}{σ0:List (Nat×Nat)}(jX:iy aw σ0=true):∀(σ:List (Nat×Nat)),(∀p∈σ,p∈σ0)→∀x y,(x,y)∈σ→aT (gV aw σ) y
 |[],_,x,y,h=>by cases h
 |(x',y')::σ,hm,x,y,h=>by
  obtain⟨g1,g2,Az,g3,_⟩:=cz jX (hm (x',y') (by simp))
  have My:=(qH jX (hm (x',y') (by simp))).2
  simp only[gV,g3]
  rcases List.mem_cons.1 h with h|h
  ·injection h with h1 h2;subst h2
   exact(bW My).2 (.inl rfl)
  ·exact(bW My).2 (.inr (eH jX σ (fun p hp=>hm p (by simp[hp])) x y h))
theorem mV(σ:List (Nat×Nat))(sout:aD):∀(aw:aD) (x:Nat),(gW σ sout aw).cp x=(aw.cp x).map (fun sc=>bif Nat.blt x 999999 then (match assoc σ x with
  |some y=>match aD.get sout y with
   |some sc'=>sc'
   |none=>sc
  |none=>sc) else sc)
 |[],x=>rfl
 |(x',sc)::aw,x=>by
  simp only[gW,aD.cp]
  cases hb:Nat.beq x' x with
  |true =>
   have:x'=x:=Nat.eq_of_beq_eq_true hb
   subst this
   rfl
  |false=>exact mV σ sout aw x
theorem tm(σ:List (Nat×Nat))(sout aw:aD)(x:Nat):(gW σ sout aw).get x=(aw.get x).map (fun sc=>bif Nat.blt x 999999 then (match assoc σ x with
  |some y=>match aD.get sout y with
   |some sc'=>sc'
   |none=>sc
  |none=>sc) else sc):=by
 rcases xi x with h|rfl|⟨j,rfl⟩
 ·rw[aD.gm h,aD.gm h,mV]
 ·rw[aD.dP,aD.dP];rfl
 ·rw[aD.gQ,aD.gQ,show Nat.blt (hc j) 999999=false from Bool.eq_false_iff.2 (fun h=>by have:=Nat.le_of_ble_eq_true h;unfold hc at this;omega)]
  unfold aD.hp
  rw[mV]
  cases aw.cp 999999 with
  |none=>simp[lL]
  |some sc =>
   simp only[Option.map_some,show Nat.blt 999999 999999=false from rfl,cond_false]
   cases lL (match some sc with
    |some (SC.heap xs)=>xs
    |_=>[]) j<;>rfl
theorem fx{σ:List (Nat×Nat)}{sout aw:aD}{x:Nat} : aT (gW σ sout aw) x↔aT aw x:=by
 unfold aT
 rw[tm]
 simp
theorem uO{sc:SC}(h:e9 sc=true):∀e∈sc.mw,∃p,e = .pv p:=by
 intro e he
 cases sc with
 |pure ps =>
  obtain⟨p,_,rfl⟩:=List.mem_map.1 he
  exact⟨p,rfl⟩
 |lit cs =>
  unfold e9 at h
  rw[List.all_eq_true] at h
  have:=h e he
  cases e<;>first|exact⟨_,rfl⟩|cases this
 |heap _=>cases h
 |yO _ _=>cases h
theorem RB.closed{β β':Nat→Option Nat}{L L' I I':Nat→Prop}{w:World}{r r':Nat}{sc:SC}(hc:e9 sc=true)(h:RB β L I w r sc.mw)(hb:β' r'=β r)(hI:∀b,I b→I' b):RB β' L' I' w r' sc.mw:=by
 rcases h with ⟨h1,h2⟩|⟨b,arr,el,h1,h2,h3⟩
 ·exact .inl ⟨hb.trans h1,h2⟩
 ·refine .inr ⟨b,arr,el,hb.trans h1,h2,fun j e he => ?_⟩
  obtain⟨u,g1,g2,g3⟩:=h3 j e he
  obtain⟨p,rfl⟩:=uO hc e (List.mem_of_getElem? he)
  exact⟨u,g1,g2,Rd.mono g3 hI (fun _ _ _=>rfl)⟩
def βX(β:Nat→Option Nat)(σ:List (Nat×Nat))(y:Nat):Option Nat:=(gr σ y).bind β
theorem bK.given(hr:bK Γ s a w β I){σ:List (Nat×Nat)}{s1:St}(ss:∀x,aT s1.aw x→aT s.aw x)(Er:∀x y,aT s1.aw x→assoc σ x=some y→¬gv y)
  (CV:∀x y b,assoc σ x=some y→gv y→aT s.aw x→β x=some b→Γ.Nw b) (jX:iy s.aw σ=true) {b:Nat} (h:Br (gV s.aw σ) (βX β σ) b):Γ.Nw b∧b<w.heap.size∧∀x,aT s1.aw x→β x≠some b:=by
 obtain⟨y,hg,hy,xw⟩:=h
 obtain⟨sc,jP⟩:=Option.isSome_iff_exists.1 hy
 obtain⟨x,g1,g2,g3⟩:=iS jX σ (fun p hp=>hp) y sc jP
 unfold βX at xw
 rw[g1] at xw
 have h2:aT s.aw x:=by unfold aT;rw[g3];rfl
 refine⟨CV x y b g2 hg h2 xw,hr.lb x b h2 xw,fun x' uP e => ?_⟩
 have:=hr.aw.2 x x' b h2 (ss x' uP) xw e
 subst this
 exact Er x y uP g2 hg
theorem bK.handed (hr : bK Γ s a w β I) {σ : List (Nat × Nat)} {s1 : St} (vR : bK Γ s1 a w β I) (ss : ∀ x, aT s1.aw x → aT s.aw x) (Er : ∀ x y, aT s1.aw x → assoc σ x = some y → ¬ gv y)
    (CV : ∀ x y b, assoc σ x = some y → gv y → aT s.aw x → β x = some b → Γ.Nw b) {sout : aD} {β' : Nat → Option Nat} {w' : World} {I' : Nat → Prop} (jX : iy s.aw σ = true) (sP : ∀ p ∈ σ, ¬ gv p.2 → aT sout p.2)
    (hb : ∀ y, aT (gV s.aw σ) y → ¬ gv y → β' y = βX β σ y) (hk : gF (fun b => ∃ y, aT (gV s.aw σ) y ∧ βX β σ y = some b) w w')
    (CW : ∀ y sc, aD.get sout y = some sc → e9 sc = true ∧ RB β' (aT sout) I' w' y sc.mw ∧ ∀ b, β' y = some b → ¬ I' b) (Mz : ∀ b, I b → I' b) (KL : ∀ b, I' b → I b ∨ fresh w w' b ∨ Br (gV s.aw σ) (βX β σ) b) :
    bK Γ ⟨s1.env, gW σ sout s1.aw⟩ a w' β I' := by
  have ky : ∀ b y, aT (gV s.aw σ) y → βX β σ y = some b → ∃ x, assoc σ x = some y ∧ aT s.aw x ∧ β x = some b := by
    intro b y hy xw
    obtain ⟨sc, jP⟩ := Option.isSome_iff_exists.1 hy
    obtain ⟨x, g1, g2, g3⟩ := iS jX σ (fun p hp => hp) y sc jP
    unfold βX at xw
    rw [g1] at xw
    exact ⟨x, g2, by unfold aT; rw [g3]; rfl, xw⟩
  have NP : ∀ b, I b → ¬ ∃ y, aT (gV s.aw σ) y ∧ βX β σ y = some b := by
    intro b hI ⟨y, hy, xw⟩
    obtain ⟨x, _, hd, Es⟩ := ky b y hy xw
    obtain ⟨sc, jP⟩ := Option.isSome_iff_exists.1 hd
    exact ((hr.aw.1 x sc jP).2 b Es).2 hI
  have KM : ∀ b, Br (gV s.aw σ) (βX β σ) b → Γ.Nw b ∧ b < w.heap.size ∧ ∀ x, aT s1.aw x → β x ≠ some b := fun b h => hr.given ss Er CV jX h
  have hw : ∀ b o, I b → w'.cell? ⟨b, o, none⟩ = w.cell? ⟨b, o, none⟩ := fun b o hI => dS (hk.block b (hr.ib b hI) (NP b hI)) o
  have hL : ∀ x, aT s1.aw x → aT (gW σ sout s1.aw) x := fun x hx => fx.2 hx
  have vc : ∀ r b, aT s1.aw r → β r = some b → w'.shape? b = w.shape? b := fun r b hd cQ => hk.shape b (vR.lb r b hd cQ)
  refine ⟨fun t e he => (vR.env t e he).mono (fun _ _ => rfl) hL Mz hw vc, ⟨fun x sc hx => ?_, fun x y b hx hy => vR.aw.2 x y b (fx.1 hx) (fx.1 hy)⟩,
    fun x hx => vR.par x (fx.1 hx), fun x b hx => vR.new x b (fx.1 hx), fun b hI => ?_, fun b hI => ?_, ?_, vR.size, vR.defers⟩
  · have hx : (gW σ sout s1.aw).get x = some sc := hx
    rw [tm] at hx
    cases hg : s1.aw.get x with
    | none => rw [hg] at hx; cases hx
    | some Az =>
      rw [hg] at hx
      simp only [Option.map_some, Option.some.injEq] at hx
      obtain ⟨k1, k2⟩ := vR.aw.1 x Az hg
      have yE : aT s1.aw x := by unfold aT; rw [hg]; rfl
      have J3 : Nat.blt x 999999 = false → assoc σ x = none := fun hb => by
        cases ha : assoc σ x with
        | none => rfl
        | some y => rw [show Nat.blt x 999999 = true from Nat.ble_eq_true_of_le (qH jX (eN ha)).1] at hb; cases hb
      have hx : (match assoc σ x with
        | some y => match aD.get sout y with
          | some sc' => sc'
          | none => Az
        | none => Az) = sc := by
        cases hb : Nat.blt x 999999 with
        | true => rw [hb] at hx; exact hx
        | false => rw [hb] at hx; rw [J3 hb]; exact hx
      cases ha : assoc σ x with
      | some y =>
        have hm := eN ha
        have F1 := Er x y yE ha
        obtain ⟨_, NQ, _⟩ := cz jX hm
        obtain ⟨sc', Bv⟩ := Option.isSome_iff_exists.1 (sP (x, y) hm F1)
        simp only [ha, Bv] at hx
        subst hx
        obtain ⟨c1, c2, c3⟩ := CW y sc' Bv
        have F0 : β' y = β x := by
          rw [hb y (eH jX σ (fun p hp => hp) x y hm) F1]
          unfold βX; rw [NQ]; rfl
        exact ⟨c2.closed c1 F0.symm (fun _ h => h), fun b cQ => ⟨Nat.lt_of_lt_of_le (k2 b cQ).1 hk.size, c3 b (F0.trans cQ)⟩⟩
      | none =>
        simp only [ha] at hx
        subst hx
        refine ⟨k1.mono rfl (fun b cQ => hk.block b (vR.lb x b yE cQ) (fun hM => ?_)) (fun _ _ => rfl) hL Mz hw vc, fun b cQ => ⟨Nat.lt_of_lt_of_le (k2 b cQ).1 hk.size, fun hI => ?_⟩⟩
        · obtain ⟨y2, KN, KO⟩ := hM
          obtain ⟨x2, h1, h2, h3⟩ := ky b y2 KN KO
          have := hr.aw.2 x x2 b (ss x yE) h2 cQ h3
          subst this
          rw [ha] at h1; cases h1
        · rcases KL b hI with h | h | h
          · exact (k2 b cQ).2 h
          · have := (k2 b cQ).1; have := h.1; omega
          · exact (KM b h).2.2 x yE cQ
  · rcases KL b hI with h | h | h
    · exact Nat.lt_of_lt_of_le (hr.ib b h) hk.size
    · exact h.2
    · exact Nat.lt_of_lt_of_le (KM b h).2.1 hk.size
  · rcases KL b hI with h | h | h
    · rcases hr.ii b h with h3 | h3
      · exact .inl h3
      · exact .inr (h3.imp (fun h3 => ⟨h3.1, Nat.lt_of_lt_of_le h3.2 hk.size⟩) id)
    · exact .inr (.inl ⟨Nat.le_trans hr.aB.size h.1, h.2⟩)
    · obtain ⟨h1, h2, _⟩ := KM b h
      exact .inr (h1.imp (fun h1 => ⟨h1, Nat.lt_of_lt_of_le h2 hk.size⟩) id)
  · refine hr.aB.trans hk (fun b cS hM => ?_)
    obtain ⟨y, hy, xw⟩ := hM
    obtain ⟨x, _, hd, Es⟩ := ky b y hy xw
    by_cases xK : aT Γ.sin x ∧ ¬ gv x
    · exact ⟨x, xK.1, by rw [← hr.par x hd xK.1 xK.2]; exact Es⟩
    · exact (hr.new x b hd (by by_cases h : aT Γ.sin x; · exact .inr (Classical.byContradiction fun h2 => xK ⟨h, h2⟩)
                               · exact .inl h) Es).m cS
theorem tn(nx:Bool)(hr:bK Γ s a w β I){σ:List (Nat×Nat)}(jX:iy s.aw σ=true):∀(xs:List Operand) (es:List EV),vg nx s.env (assoc σ) xs=some es→xs.length=es.length ∧
  ∀(j:Nat) e x,es[j]? = some e→xs[j]? = some x→RE (βX β σ) (aT (gV s.aw σ)) I w e (a.eval x)
 |[],es,h=>by injection h with h;subst h;exact⟨rfl,fun j p x hp=>by simp at hp⟩
 |x::r,es,h=>by
  unfold vg at h
  split at h
  ·rename_i e Is he B4
   split at h
   ·rename_i e' dN
    injection h with h;subst h
    obtain⟨h1,h2⟩:=tn nx hr jX r Is B4
    refine⟨by simp[h1],fun j q y hj hy => ?_⟩
    cases j with
    |zero =>
     simp at hj hy;subst hj hy
     have hx:=hr.NO nx x _ he
     cases e with
     |pv p=>injection dN with dN;subst dN;exact hx
     |jD c=>injection dN with dN;subst dN;exact hx
     |dead=>cases dN
     |km _ _ _=>cases dN
     |jg _ _=>cases dN
     |jF _=>cases dN
     |ptr z off =>
      simp only[n7] at dN
      split at dN
      ·rename_i y hy
       injection dN with dN;subst dN
       have hm:=eN hy
       obtain⟨_,hR,_⟩:=cz jX hm
       obtain⟨_,b,hb,hv⟩:=hx
       exact⟨eH jX σ (fun p hp=>hp) z y hm,b,by unfold βX;rw[hR];exact hb,hv⟩
      ·cases dN
     |sk g z =>
      simp only[n7] at dN
      split at dN
      ·rename_i y hy
       injection dN with dN;subst dN
       have hm:=eN hy
       obtain⟨_,hR,_⟩:=cz jX hm
       obtain⟨_,b,hb,hv⟩:=hx
       exact⟨eH jX σ (fun p hp=>hp) z y hm,b,by unfold βX;rw[hR];exact hb,hv⟩
      ·cases dN
     |row z off len sz =>
      simp only[n7] at dN
      split at dN
      ·rename_i y hy
       injection dN with dN;subst dN
       have hm:=eN hy
       obtain⟨_,hR,_⟩:=cz jX hm
       have Et:βX β σ y=β z:=by unfold βX;rw[hR];rfl
       obtain⟨_,hx⟩:=hx
       exact⟨eH jX σ (fun p hp=>hp) z y hm,by rw[Et];exact hx⟩
      ·cases dN
     |jE z off len sz ps =>
      simp only[n7] at dN
      split at dN
      ·rename_i y hy
       injection dN with dN;subst dN
       have hm:=eN hy
       obtain⟨_,hR,_⟩:=cz jX hm
       have Et:βX β σ y=β z:=by unfold βX;rw[hR];rfl
       obtain⟨us,g1,g2,⟨u,g3,_,g4⟩,g5⟩:=hx
       exact⟨us,g1,g2,⟨u,g3,eH jX σ (fun p hp=>hp) z y hm,by rw[Et];exact g4⟩,g5⟩
      ·cases dN
    |succ j=>exact h2 j q y (by simpa using hj) (by simpa using hy)
   ·cases h
  ·cases h
theorem Bw(hr:bK Γ s a w β I){σ:List (Nat×Nat)}(jX:iy s.aw σ=true){g:Operand}{f:FuncId}{ex:List EV}(h:EZ (assoc σ) s.env g=some (f,ex)) :
  ∃cap:Array Value,a.eval g = .func (.func f) #[] cap∧ex.length=cap.size∧∀(j:Nat) e v,ex[j]? = some e→cap[j]? = some v→RE (βX β σ) (aT (gV s.aw σ)) I w e v:=by
 unfold EZ at h
 split at h
 ·rename_i f'
  injection h with h;injection h with h1 h2
  subst h1;subst h2
  exact⟨#[],by simp[Act.eval],rfl,fun j e v he=>by simp at he⟩
 ·split at h
  ·rename_i f' r he
   split at h
   ·rename_i y hy
    injection h with h;injection h with h1 h2
    subst h1;subst h2
    obtain⟨_,b,hb,hv⟩:=hr.xb g _ he
    have hm:=eN hy
    obtain⟨_,hR,_⟩:=cz jX hm
    refine⟨#[.pointer (some ⟨b,0,none⟩)],hv,rfl,fun j e v he hv => ?_⟩
    cases j with
    |zero =>
     simp at he hv;subst he;subst hv
     exact⟨eH jX σ (fun p hp=>hp) r y hm,b,by unfold βX;rw[hR];exact hb,rfl⟩
    |succ j=>simp at he
   ·cases h
  ·rename_i f' he
   injection h with h;injection h with h1 h2
   subst h1;subst h2
   have hv:Rd I w (.fn f') (a.eval g):=hr.xb g _ he
   refine⟨#[],?_,rfl,fun j e v he=>by simp at he⟩
   generalize a.eval g=v at hv
   cases hv;rfl
  ·cases h
theorem zg {f : FuncId} (hc : fZ P f) {g : Operand} {cap : Array Value} (hv : a.eval g = .func (.func f) #[] cap) {args : Array Operand} {CD : Array TypeId} (nZ : o.op = .call ⟨.value g, args, CD⟩) :
    (execOp a.eval o).run P w = .ok (.enter f (args.map a.eval ++ cap)) w := by
  obtain ⟨fn, h1, h2, h3⟩ := hc
  have hb : fn.body ≠ none := by intro e; rw [e] at h2; cases h2
  have CA : fn.name ≠ "runtime.NumGoroutine" := by simpa using h3
  simp [execOp, nZ, resolve, hv, Deferred.ofValue, invoke, callFunc, h1, CA, hb]
theorem mB (hs : ∀ r, aT Γ.sin r → Γ.n ≤ r) (hr : Rel Γ s a w) (ay : lk P Γ.n o h s = some (s', ob)) (bj : bV ob) {K : Act → World → Prop} {Q : Exit → Act → World → Prop}
    (hk : ∀ a' w', Rel Γ s' a' w' → K a' w') : o.wp P a w K Q := by
  obtain ⟨β, I, hr⟩ := hr
  unfold lk at ay
  split at ay
  · rename_i c σ nw r sout nZ
    split at ay
    case h_2 => cases ay
    rename_i g lF
    split at ay
    · rename_i f ex es hg B4
      cases hd : (gG Γ.n o.dst && iy s.aw σ && σ.all (fun p => bif o5 p.2 then Nat.blt p.1 Γ.n else (aD.get sout p.2).isSome) && sout.all (fun p => Nat.blt p.1 999999 && e9 p.2 && (((gr σ p.1).isSome && !o5 p.1) || qF (nw.map (·.1)) p.1))) with
      | false => simp [hd] at ay
      | true =>
        simp only [hd, cond_true] at ay
        simp only [Bool.and_eq_true] at hd
        obtain ⟨⟨⟨d1, d2⟩, d3⟩, d4⟩ := hd
        rw [List.all_eq_true] at d3 d4
        obtain ⟨cl, args, CD⟩ := c
        have lF : cl = .value g := lF
        subst lF
        obtain ⟨cap, NR, KP, NS⟩ := Bw hr d2 hg
        obtain ⟨hl, ox⟩ := tn _ hr d2 args.toList es B4
        have IV : ph (βX β σ) I w (gV s.aw σ) := by
          refine ⟨fun y sc hy => ?_, fun y y' b hy Cd h1 h2 => ?_⟩
          · obtain ⟨x, g1, g2, g3⟩ := iS d2 σ (fun p hp => hp) y sc hy
            obtain ⟨_, _, Pf, g4, g5⟩ := cz d2 (fa g1)
            rw [g3] at g4; injection g4 with g4; subst g4
            have Et : βX β σ y = β x := by unfold βX; rw [g1]; rfl
            obtain ⟨k1, k2⟩ := hr.aw.1 x sc g3
            exact ⟨k1.closed g5 Et (fun _ h => h), fun b hb => k2 b (Et.symm.trans hb)⟩
          · obtain ⟨sc, jP⟩ := Option.isSome_iff_exists.1 hy
            obtain ⟨sc', Bv⟩ := Option.isSome_iff_exists.1 Cd
            obtain ⟨x, g1, g2, g3⟩ := iS d2 σ (fun p hp => hp) y sc jP
            obtain ⟨x', J4, Ca, J5⟩ := iS d2 σ (fun p hp => hp) y' sc' Bv
            have e1 : β x = some b := by unfold βX at h1; rw [g1] at h1; exact h1
            have e2 : β x' = some b := by unfold βX at h2; rw [J4] at h2; exact h2
            have := hr.aw.2 x x' b (by unfold aT; rw [g3]; rfl) (by unfold aT; rw [J5]; rfl) e1 e2
            subst this
            rw [g2] at Ca; injection Ca with Ca
        have KQ : mM (gV s.aw σ) (βX β σ) w := hr.lay.sub (fun y b hy hb => by
          obtain ⟨sc, jP⟩ := Option.isSome_iff_exists.1 hy
          obtain ⟨x, g1, g2, g3⟩ := iS d2 σ (fun p hp => hp) y sc jP
          exact ⟨x, by unfold aT; rw [g3]; rfl, by unfold βX at hb; rw [g1] at hb; exact hb⟩)
        have fin : ∀ (hc : aq P f (es ++ ex) (gV s.aw σ) r sout) {s2 : St}, (∀ v w' β', gF (fun b => ∃ y, aT (gV s.aw σ) y ∧ βX β σ y = some b) w w' → (∀ y, aT (gV s.aw σ) y → ¬ gv y → β' y = βX β σ y) →
              ph β' (fun b => I b ∨ ((fresh w w' b ∨ Br (gV s.aw σ) (βX β σ) b) ∧ ∀ x, aT sout x → β' x ≠ some b)) w' sout → RE β' (aT sout) (fun b => I b ∨ ((fresh w w' b ∨ Br (gV s.aw σ) (βX β σ) b) ∧ ∀ x, aT sout x → β' x ≠ some b)) w' r v →
              (∀ x b, aT sout x → ¬ aT (gV s.aw σ) x → β' x = some b → fresh w w' b ∨ Br (gV s.aw σ) (βX β σ) b) → Rel Γ s2 (a.put o.dst v) w') → (∀ a' w', Rel Γ s2 a' w' → K a' w') → o.wp P a w K Q := by
          intro hc s2 zh hk
          unfold Oper.wp
          rw [zg hc.1 NR nZ]
          rw [Oper.upon_enter]
          have IK : args.size = es.length := by simpa using hl
          refine (hc.2 I w (βX β σ) (args.map a.eval ++ cap) hr.ib IV (by rw [List.length_append, Array.size_append, Array.size_map, IK, KP]) (fun j e v he hv => ?_) KQ).mono fun e w' hp => ?_
          · by_cases hj : j < es.length
            · rw [List.getElem?_append_left hj] at he
              rw [Array.getElem?_append_left (by rw [Array.size_map]; omega), Array.getElem?_map] at hv
              cases hx : args[j]? with
              | none => simp [hx] at hv
              | some x =>
                simp [hx] at hv
                subst hv
                exact ox j e x he (by simpa using hx)
            · rw [List.getElem?_append_right (by omega)] at he
              rw [Array.getElem?_append_right (by rw [Array.size_map]; omega), Array.size_map, IK] at hv
              exact NS _ e v he hv
          · obtain ⟨v, β', rfl, p1, p2, p3, p4, p5⟩ := hp
            exact hk _ _ (zh v w' β' p2 p1 p3 p4 p5)
        have Ir : ∀ p ∈ sout, p.1 < 999999 := fun p hp => by
          have := d4 p hp
          simp only [Bool.and_eq_true] at this
          exact Nat.le_of_ble_eq_true this.1.1
        have G2 : ∀ y sc, aD.get sout y = some sc → e9 sc = true := by
          intro y sc hy
          obtain ⟨p, hp, h1⟩ : ∃ p ∈ sout, p.2 = sc := by
            exact ⟨(y, sc), aD.xJ Ir hy, rfl⟩
          have := d4 p hp
          simp only [Bool.and_eq_true] at this
          rw [← h1]; exact this.1.2
        have IW : ∀ y, o5 y = true ↔ gv y := fun y => ⟨Nat.le_of_ble_eq_true, Nat.ble_eq_true_of_le⟩
        have F2 : ∀ p ∈ σ, ¬ gv p.2 → aT sout p.2 := fun p hp hg => by
          have := d3 p hp
          rw [Bool.eq_false_iff.2 (fun h => hg ((IW _).1 h)), cond_false] at this
          exact this
        have vR := hr.cT (givenBy σ)
        have ss : ∀ x, aT (cT (givenBy σ) s).aw x → aT s.aw x := fun x hx => ((kz _).1 hx).1
        have Er : ∀ x y, aT (cT (givenBy σ) s).aw x → assoc σ x = some y → ¬ gv y := fun x y hx ha hg => ((kz _).1 hx).2 (List.mem_map.2 ⟨(x, y), List.mem_filter.2 ⟨eN ha, (IW y).2 hg⟩, rfl⟩)
        have CV : ∀ x y b, assoc σ x = some y → gv y → aT s.aw x → β x = some b → Γ.Nw b := fun x y b ha hg yE hb => by
          have := d3 _ (eN ha)
          rw [(IW y).2 hg, cond_true] at this
          exact hr.new x b yE (.inl (fun h => absurd (hs x h) (Nat.not_le_of_lt (Nat.le_of_ble_eq_true this)))) hb
        have jV : ∀ x y, gr σ y = some x → aT sout y → ¬ qF (nw.map (·.1)) y = true → aT (cT (givenBy σ) s).aw x ∧ ¬ gv y := by
          intro x y hx hy fP
          obtain ⟨sc, jP⟩ := Option.isSome_iff_exists.1 hy
          have := d4 _ (aD.xJ Ir jP)
          simp only [Bool.and_eq_true, Bool.or_eq_true, Bool.not_eq_true'] at this
          have F1 : ¬ gv y := fun hg => by
            rcases this.2 with h | h
            · rw [(IW y).2 hg] at h; exact absurd h.2 (by simp)
            · exact fP h
          obtain ⟨e1, _, KR, e2, _⟩ := cz d2 (fa hx)
          refine ⟨(kz _).2 ⟨by unfold aT; rw [e2]; rfl, fun hm => ?_⟩, F1⟩
          obtain ⟨⟨x', y'⟩, NT, KS⟩ := List.mem_map.1 hm
          obtain ⟨NU, NV⟩ := List.mem_filter.1 NT
          have KS : x' = x := KS
          subst KS
          obtain ⟨e3, _⟩ := cz d2 NU
          rw [e1] at e3; injection e3 with e3; subst e3
          exact F1 ((IW _).1 NV)
        split at ay
        · split at ay
          · rename_i r' bU
            injection ay with ay; injection ay with h1 h2
            subst h1; subst h2
            refine fin bj (fun v w' β' p2 p1 p3 p4 p5 => ?_) hk
            have hh := hr.handed vR ss Er CV (sout := sout) d2 F2 p1 p2 (fun y sc hy => ⟨G2 y sc hy, (p3.1 y sc hy).1, fun b hb => ((p3.1 y sc hy).2 b hb).2⟩) (fun b hb => .inl hb) (fun b hb => hb.imp id (fun h => h.1))
            refine ⟨β, _, hh.put (cD d1) ?_⟩
            cases r with
            | pv p => injection bU with bU; subst bU; exact p4
            | jD c => injection bU with bU; subst bU; exact p4
            | dead => cases bU
            | km _ _ _ => cases bU
            | jg _ _ => cases bU
            | jF _ => cases bU
            | ptr y off =>
              simp only [n7] at bU
              split at bU
              · rename_i x hx
                injection bU with bU; subst bU
                have hm := fa hx
                obtain ⟨G3, b, hb, hv⟩ := p4
                obtain ⟨k1, k2⟩ := jV x y hx G3 (by simp [qF])
                exact ⟨fx.2 k1, b, by rw [p1 y (eH d2 σ (fun p hp => hp) x y hm) k2] at hb; unfold βX at hb; rw [hx] at hb; exact hb, hv⟩
              · cases bU
            | sk g y =>
              simp only [n7] at bU
              split at bU
              · rename_i x hx
                injection bU with bU; subst bU
                have hm := fa hx
                obtain ⟨G3, b, hb, hv⟩ := p4
                obtain ⟨k1, k2⟩ := jV x y hx G3 (by simp [qF])
                exact ⟨fx.2 k1, b, by rw [p1 y (eH d2 σ (fun p hp => hp) x y hm) k2] at hb; unfold βX at hb; rw [hx] at hb; exact hb, hv⟩
              · cases bU
            | row y off len sz =>
              simp only [n7] at bU
              split at bU
              · rename_i x hx
                injection bU with bU; subst bU
                have hm := fa hx
                obtain ⟨G3, p4⟩ := p4
                obtain ⟨k1, k2⟩ := jV x y hx G3 (by simp [qF])
                have Et : β' y = β x := by rw [p1 y (eH d2 σ (fun p hp => hp) x y hm) k2]; unfold βX; rw [hx]; rfl
                exact ⟨fx.2 k1, by rw [← Et]; exact p4⟩
              · cases bU
            | jE y off len sz ps =>
              simp only [n7] at bU
              split at bU
              · rename_i x hx
                injection bU with bU; subst bU
                have hm := fa hx
                obtain ⟨us, q1, q2, ⟨u, q3, G3, q4⟩, q5⟩ := p4
                obtain ⟨k1, k2⟩ := jV x y hx G3 (by simp [qF])
                have Et : β' y = β x := by rw [p1 y (eH d2 σ (fun p hp => hp) x y hm) k2]; unfold βX; rw [hx]; rfl
                exact ⟨us, q1, q2, ⟨u, q3, fx.2 k1, by rw [← Et]; exact q4⟩, q5⟩
              · cases bU
          · cases ay
        · rename_i y d
          split at ay
          · rename_i sc r' jP oa NW bU
            cases oc : Nat.blt d Γ.n with
            | false => simp [oc] at ay
            | true =>
              simp only [oc, cond_true] at ay
              have IX : d < Γ.n := Nat.le_of_ble_eq_true oc
              injection ay with ay; injection ay with h1 h2
              subst h1; subst h2
              refine fin bj (fun v w' β' p2 p1 p3 p4 p5 => ?_) hk
              have hh := hr.handed vR ss Er CV (sout := sout) d2 F2 p1 p2 (fun y sc hy => ⟨G2 y sc hy, (p3.1 y sc hy).1, fun b hb => ((p3.1 y sc hy).2 b hb).2⟩) (fun b hb => .inl hb) (fun b hb => hb.imp id (fun h => h.1))
              have KT : ¬ aT (gW σ sout (cT (givenBy σ) s).aw) d := fun h => by
                have := ss _ (fx.1 h)
                unfold aT at this; rw [oa] at this; cases this
              have NX : ¬ aT (gV s.aw σ) y := fun h => by
                obtain ⟨KR, E1⟩ := Option.isSome_iff_exists.1 h
                obtain ⟨x, g1, _⟩ := iS d2 σ (fun p hp => hp) y KR E1
                rw [NW] at g1; cases g1
              have NY : aT sout y := by unfold aT; rw [jP]; rfl
              have mz : d < 999999 := Nat.lt_of_lt_of_le IX Γ.small
              have ky := hh.site (d := d) (sc := sc) mz KT (fun h => absurd (hs d h) (Nat.not_le_of_lt IX)) (β' := fun z => if z = d then β' y else β z) (fun r fP => by simp [fP]) (fun b hb => by
                have hb : β' y = some b := by simpa using hb
                rcases p5 y b NY NX hb with hf | hf
                · refine ⟨hf.2, ((p3.1 y sc jP).2 b hb).2, .inl (Nat.le_trans hr.aB.size hf.1), fun x hx Es => ?_⟩
                  have := hr.lb x b (ss _ (fx.1 hx)) Es
                  have := hf.1; omega
                · obtain ⟨q1, q2, q3⟩ := hr.given ss Er CV d2 hf
                  exact ⟨Nat.lt_of_lt_of_le q2 p2.size, ((p3.1 y sc jP).2 b hb).2, q1, fun x hx Es => q3 x (fx.1 hx) Es⟩) ((p3.1 y sc jP).1.closed (G2 y sc jP) (by simp) (fun _ h => h))
              refine ⟨_, _, ky.put (cD d1) ?_⟩
              have key : ∀ z x, (bif Nat.beq y z then some d else gr σ z) = some x → aT sout z → aT ((d, sc) :: gW σ sout (cT (givenBy σ) s).aw) x ∧ (fun z => if z = d then β' y else β z) x = β' z := by
                intro z x F3 Ce
                cases hb : Nat.beq y z with
                | true =>
                  have : y = z := Nat.eq_of_beq_eq_true hb
                  subst this
                  simp only [hb, cond_true] at F3
                  injection F3 with F3; subst F3
                  exact ⟨(bW mz).2 (.inl rfl), by simp⟩
                | false =>
                  simp only [hb, cond_false] at F3
                  have hm := fa F3
                  obtain ⟨_, _, KR, E1, _⟩ := cz d2 hm
                  obtain ⟨k1, k2⟩ := jV x z F3 Ce (by intro h; have : y = z := Nat.eq_of_beq_eq_true h; subst this; simp at hb)
                  have fP : x ≠ d := fun e => by subst e; rw [oa] at E1; cases E1
                  refine ⟨(bW mz).2 (.inr (fx.2 k1)), ?_⟩
                  simp only [if_neg fP]
                  rw [p1 z (eH d2 σ (fun p hp => hp) x z hm) k2]; unfold βX; rw [F3]; rfl
              cases r with
              | pv p => injection bU with bU; subst bU; exact p4
              | jD c => injection bU with bU; subst bU; exact p4
              | dead => cases bU
              | km _ _ _ => cases bU
              | jg _ _ => cases bU
              | jF _ => cases bU
              | ptr z off =>
                simp only [n7] at bU
                split at bU
                · rename_i x hx
                  injection bU with bU; subst bU
                  obtain ⟨Ce, p4⟩ := p4
                  obtain ⟨k1, k2⟩ := key z x hx Ce
                  exact ⟨k1, by rw [k2]; exact p4⟩
                · cases bU
              | sk g z =>
                simp only [n7] at bU
                split at bU
                · rename_i x hx
                  injection bU with bU; subst bU
                  obtain ⟨Ce, p4⟩ := p4
                  obtain ⟨k1, k2⟩ := key z x hx Ce
                  exact ⟨k1, by rw [k2]; exact p4⟩
                · cases bU
              | row z off len sz =>
                simp only [n7] at bU
                split at bU
                · rename_i x hx
                  injection bU with bU; subst bU
                  obtain ⟨Ce, p4⟩ := p4
                  obtain ⟨k1, k2⟩ := key z x hx Ce
                  exact ⟨k1, by rw [k2]; exact p4⟩
                · cases bU
              | jE z off len sz ps =>
                simp only [n7] at bU
                split at bU
                · rename_i x hx
                  injection bU with bU; subst bU
                  obtain ⟨us, q1, q2, ⟨u, q3, Ce, q4⟩, q5⟩ := p4
                  obtain ⟨k1, k2⟩ := key z x hx Ce
                  exact ⟨us, q1, q2, ⟨u, q3, k1, by rw [k2]; exact q4⟩, q5⟩
                · cases bU
          · cases ay
    · cases ay
  · cases ay
end
end Go.Proofs.YtnjhplhbmapclaaGreatDoor.Sym
