/- Lemmas for the statements of this seat. -/
import Derived.Test.YtneklnlpgfeplaaGreatW12
namespace Go.Proofs.YtneklnlpgfeplaaGreat.Sym
open Go Go.RowKit
section
variable {P:Program} {T:ja} {Γ:Ctx} {s s':St} {a:Act} {w:World} {β:Nat→Option Nat} {I:Nat→Prop} {o:Oper} {h:Hint} {ob:List Prop}
theorem IN {f : FuncId} (hc : qA P f) {args : Array Operand} {FZ : Array TypeId} (pB : o.op = .call ⟨.value (.func f), args, FZ⟩) : (execOp a.eval o).run P w = .ok (.enter f (args.map a.eval)) w := by
  obtain ⟨fn, h1, h2, h3⟩ := hc;have hb : fn.body ≠ none := by intro e; rw [e] at h2; cases h2
  have II : fn.name ≠ "runtime.NumGoroutine" := by simpa using h3
  simp [execOp, pB, resolve, Act.eval, Deferred.ofValue, invoke, callFunc, h1, II, hb]
def jD(env:Env):List Operand→Option (List PV)
 |[]=>some []
 |x::r=>match cU env x,jD env r with
  |some (.pv p),some ps=>some (p::ps)
  |_,_=>none
theorem x8(hr:dh Γ s a w β I):∀(xs:List Operand) (ps:List PV),jD s.env xs=some ps→xs.length=ps.length∧∀(j:Nat) p x,ps[j]? = some p→xs[j]? = some x→Rd I w p (a.eval x)
 |[],ps,h=>by injection h with h;subst h;exact⟨rfl,fun j p x hp=>by simp at hp⟩
 |x::r,ps,h=>by
  unfold jD at h;split at h
  ·rename_i p qs hx hq;injection h with h;subst h
   obtain⟨h1,h2⟩:=x8 hr r qs hq;refine⟨by simp[h1],fun j q y hj hy => ?_⟩;cases j with
   |zero=>simp at hj hy;subst hj hy;exact hr.zZ x _ hx
   |succ j=>exact h2 j q y (by simpa using hj) (by simpa using hy)
  ·cases h
def sX(P:Program)(n:Nat)(o:Oper)(h:Hint)(s:St):Option (St×List Prop) :=
 match o.op,h with
 |.call c,.pv r=>match c.callee,jD s.env c.args.toList with
  |.value (.func f),some ps=>bif jC n o.dst then some (⟨nN s.env o.dst (.pv r),s.aP⟩,[eN P f ps r]) else none
  |_,_=>none
 |_,_=>none
theorem tZ(β:Nat→Option Nat)(I:Nat→Prop)(w:World):mw β I w [] :=
 ⟨fun r sc h=>(by rw[aY.get_nil] at h;cases h),fun r r' b h=>absurd h jU⟩
theorem IP(hr:dh Γ s a w β I){f:FuncId}{ps:List PV}{r:PV}{vs:Array Value}(hc:eN P f ps r)(hl:vs.size=ps.length)(hv:∀(j:Nat) p v,ps[j]? = some p→vs[j]? = some v→Rd I w p v) :
  Calls P f vs w fun e w'=>∃v,e = .returned v∧yK w.heap.size w w'∧Rd (fun b=>I b∨fresh w w' b) w' r v:=by
 refine(hc.2 I w β vs hr.ib (tZ _ _ _) (by simp[hl]) (fun j e v he wv => ?_) hr.lay.nil).mono fun e w' hp => ?_
 ·rw[abR] at he;cases hj:ps[j]? with
  |none=>simp[hj] at he
  |some p =>simp[hj] at he;subst he;exact hv j p v hj wv
 ·obtain⟨v,β',rfl,_,hk,_,Mo,_⟩:=hp;have zk:∀x,¬bz [] x:=fun x h=>by exact jU h
  refine⟨v,rfl,⟨⟨hk.os,hk.tape,hk.output,hk.size,fun k Eo=>hk.block k Eo (fun ⟨x,hx,_⟩=>zk x hx)⟩,hk.drawn⟩,?_⟩;exact Rd.mono (I:=fun b=>I b∨((fresh w w' b∨B3 [] β b)∧∀x,bz [] x→β' x≠some b)) Mo (fun b hb=>hb.imp id (fun h=>h.1.elim id (fun ⟨x,_,hx,_⟩=>absurd hx (zk x)))) (fun _ _ _=>rfl)
theorem sY(hr:Rel Γ s a w)(bc:sX P Γ.n o h s=some (s',ob))(cf:dW ob){K:Act→World→Prop}{Q:Exit→Act→World→Prop}
  (hk:∀a' w',Rel Γ s' a' w'→K a' w'):o.wp P a w K Q:=by
 obtain⟨β,I,hr⟩:=hr;unfold sX at bc;split at bc
 ·rename_i c r pB;split at bc
  ·rename_i f ps nJ lB;cases hd:jC Γ.n o.dst with
   |false=>simp[hd] at bc
   |true =>
    simp only[hd,cond_true] at bc;injection bc with bc;injection bc with h1 h2
    subst h1;subst h2;have hc:eN P f ps r:=cf;obtain⟨cl,args,FZ⟩:=c;have nJ:cl = .value (.func f):=nJ;subst nJ;obtain⟨hl,uw⟩:=x8 hr args.toList ps lB;unfold Oper.wp;rw[IN hc.1 pB];rw[aeL];refine(IP hr hc (vs:=args.map a.eval) (by simpa using hl) (fun j p v hp hv => ?_)).mono fun e w' zT => ?_
    ·simp only[Array.getElem?_map] at hv;cases hx:args[j]? with
     |none=>simp[hx] at hv
     |some x =>simp[hx] at hv;subst hv;exact uw j p x hp (by simpa using hx)
    ·obtain⟨v,rfl,hb,Mo⟩:=zT;exact hk _ _ ⟨β,_,(hr.grow hb (fun b h => .inl h) (fun b h=>h)).put (eO hd) Mo⟩
  ·cases bc
 ·cases bc
theorem dh.Ps(h:dh Γ s a w β I){t:Nat}{e:EV}(he:RE β (bz s.aP) I w e (a.tmps.getD t undef)):dh Γ ⟨(t,e)::s.env,s.aP⟩ a w β I:=by
 refine⟨fun t' e' gi => ?_,h.aP,h.par,h.new,h.ib,h.ii,h.aW,h.size,h.defers⟩;have gi:Env.get ((t,e)::s.env) t'=some e':=gi;simp only[Env.get] at gi;cases hb:Nat.beq t t' with
 |true =>
  have:t=t':=abO hb;subst this;simp only[hb,cond_true] at gi;injection gi with gi;subst gi
  exact he
 |false =>simp only[hb,cond_false] at gi;exact h.env t' e' gi
theorem dh.R5(h:dh Γ s a w β I){b:Nat}(hb:b<w.heap.size)(hw:Γ.Nw b)(hs:∀x,bz s.aP x→β x≠some b):dh Γ s a w β (fun x=>I x∨x=b):=by
 refine⟨fun t e he=>(h.env t e he).mono (fun _ _=>rfl) (fun _ h=>h) (fun _ h => .inl h) (fun _ _ _=>rfl) (fun _ _ _ _=>rfl),⟨fun r sc hr => ?_,h.aP.2⟩,h.par,h.new,fun x hx => ?_,fun x hx => ?_,h.aW,h.size,h.defers⟩
 ·obtain⟨g1,g2⟩:=h.aP.1 r sc hr;have we:bz s.aP r:=by unfold bz;rw[hr];rfl
  refine⟨g1.mono rfl (fun _ _=>rfl) (fun _ _=>rfl) (fun _ h=>h) (fun _ h => .inl h) (fun _ _ _=>rfl) (fun _ _ _ _=>rfl),fun b' fc=>⟨(g2 b' fc).1,fun hx => ?_⟩⟩;rcases hx with hx|hx
  ·exact(g2 b' fc).2 hx
  ·subst hx;exact hs r we fc
 ·rcases hx with hx|hx
  ·exact h.ib x hx
  ·subst hx;exact hb
 ·rcases hx with hx|hx
  ·exact h.ii x hx
  ·subst hx;exact .inr (hw.imp (fun h=>⟨h,hb⟩) id)
theorem wy{L:Nat→Prop}{r len sz:Nat}{v:Value}{ps:List PV}{xs:List (List PV)}(hv:RE β L I w (.row r 0 len sz) v)(HN:RB β L I w r (ps.map EV.pv))(h1:len=xs.length)(h2:ps=xs.flatten)
  (h3:∀row∈xs,row.length=sz) {I':Nat→Prop} (hI:∀b,I b→I' b) (IQ:∀b,β r=some b→I' b):Rd I' w (.list xs) v:=by
 obtain⟨_,⟨_,rfl,rfl⟩|⟨b,c,hb,rfl,hc,_⟩⟩:=hv
 ·have:xs=[]:=abT h1.symm;subst this;exact .nil _ _
 ·obtain⟨arr,el,hg,_,vO⟩:=vi HN hb;subst h1;subst h2;have key:∀(i j:Nat) row x,xs[i]? = some row→row[j]? = some x→∃u,arr[i*sz+j]? = some u∧u.oneCell'=true∧Rd I w x u:=fun i j row x hi hj=>vO _ x (tY h3 hi hj)
  refine .list xs b 0 c sz (fun i j=>arr.getD (i*sz+j) undef) hc (IQ b hb) (fun i row hi=>h3 row (ac5 hi)) (fun i j row x hi hj => ?_) (fun i j row x hi hj => ?_)
  ·obtain⟨u,g1,g2,g3⟩:=key i j row x hi hj;refine⟨PV.kT g3 g2,?_⟩;rw[acw,cell_of_row w b _ arr el (0,0) hg,g1];simp[Array.getD_eq_getD_getElem?,g1]
  ·obtain⟨u,g1,g2,g3⟩:=key i j row x hi hj;simp only[Array.getD_eq_getD_getElem?,g1,Option.getD_some];exact g3.mono hI (fun _ _ _=>rfl)
def zl(n t:Nat)(xs:List (List PV))(s:St):Option (St×List Prop) :=
 match s.env.get t with
 |some (.row r 0 len sz)=>match s.aP.get r with
  |some (.pure ps)=>bif Nat.blt r n&&Nat.blt t n then some (⟨(t,.pv (.list xs))::(kill r s).env,(kill r s).aP⟩,[len=xs.length,ps=xs.flatten,∀row∈xs,row.length=sz]) else none
  |_=>none
 |_=>none
theorem uI(hs:∀r,bz Γ.sin r→Γ.n≤r){t:Nat}{xs:List (List PV)}(hr:Rel Γ s a w)(bc:zl Γ.n t xs s=some (s',ob))(cf:dW ob):Rel Γ s' a w:=by
 obtain⟨β,I,hr⟩:=hr;unfold zl at bc;split at bc
 ·rename_i r len sz he;split at bc
  ·rename_i ps lB;cases hb:(Nat.blt r Γ.n&&Nat.blt t Γ.n) with
   |false=>simp[hb] at bc
   |true =>
    simp only[hb,cond_true] at bc;simp only[Bool.and_eq_true] at hb;have MS:r<Γ.n:=abM hb.1;injection bc with bc;injection bc with h1 h2
    subst h1;subst h2;obtain⟨g1,cf⟩:=cf.cons;obtain⟨g2,g3⟩:=cf.cons;have hv:=hr.env t _ he;have HN:=(hr.aP.1 r _ lB).1;have we:bz s.aP r:=by unfold bz;rw[lB];rfl
    have EK:¬bz Γ.sin r:=fun h=>absurd (hs r h) (acT MS)
    cases lA:β r with
    |none=>exact⟨β,I,(hr.kill r).Ps (wy hv HN g1 g2 g3 (fun _ h=>h) (fun b fc=>by rw[lA] at fc;cases fc))⟩
    |some b =>have hk:=(hr.kill r).R5 (b:=b) ((hr.aP.1 r _ lB).2 b lA).1 (hr.new r b we (.inl EK) lA) (fun x hx e=>(fe.1 hx).2 (hr.aP.2 x r b (fe.1 hx).1 we e lA));exact⟨β,_,hk.Ps (wy hv HN g1 g2 g3 (fun _ h => .inl h) (fun b' fc=>by rw[lA] at fc;injection fc with fc;exact .inr fc.symm))⟩
  ·cases bc
 ·cases bc
def Kb(s:St)(o:Oper):Option St :=
 match o.op with
 |.call c=>match c.args.toList with
  |x::_=>match cU s.env x with
   |some (.row r _ len sz)=>match s.aP.get r with
    |some (.pure ps)=>some ⟨s.env,aY.set s.aP r (.pure (ps.take (len*sz)))⟩
    |_=>none
   |_=>none
  |_=>none
 |_=>none
theorem EU{s1:St}(hr:Rel Γ s a w)(h:Kb s o=some s1):Rel Γ s1 a w:=by
 unfold Kb at h;split at h
 ·split at h
  ·split at h
   ·split at h
    ·rename_i lB;injection h with h;subst h
     exact hr.cut lB
    ·cases h
   ·cases h
  ·cases h
 ·cases h
def Ag(T:ja)(n:Nat)(o:Oper)(h:Hint)(s:St):Option (St×List Prop) :=
 match h with
 |.fM l _ xs=>match wu T n o (.app l xs.flatten) s,o.dst with
  |some (s1,EW),some d=>match zl n d xs s1 with
   |some (s2,ob2)=>some (s2,EW++ob2)
   |none=>none
  |_,_=>none
 |.row l out=>match Kb s o with
  |some s1=>wm Gs T n o (.app l out) s1
  |none=>none
 |_=>wu T n o h s
theorem Ah(hT:mm P T)(hs:∀r,bz Γ.sin r→Γ.n≤r)(hr:Rel Γ s a w)(bc:Ag T Γ.n o h s=some (s',ob))(cf:dW ob){K:Act→World→Prop}{Q:Exit→Act→World→Prop}
  (hk:∀a' w',Rel Γ s' a' w'→K a' w'):o.wp P a w K Q:=by
 unfold Ag at bc;split at bc
 ·rename_i l u xs;split at bc
  ·rename_i s1 EW d h1 hd;split at bc
   ·rename_i s2 ob2 h2;injection bc with bc;injection bc with e1 e2
    subst e1;subst e2;obtain⟨g1,g2⟩:=cf.app;exact sW hT hs hr h1 g1 (fun a' w' dx=>hk a' w' (uI hs dx h2 g2))
   ·cases bc
  ·cases bc
 ·rename_i l out;split at bc
  ·rename_i s1 h1;exact sV (fun hr=>MV hr) hT hs (EU hr h1) bc cf hk
  ·cases bc
 ·exact sW hT hs hr bc cf hk
def assoc:List (Nat×Nat)→Nat→Option Nat
 |[],_=>none
 |(x',y)::r,x=>bif Nat.beq x' x then some y else assoc r x
def ek:List (Nat×Nat)→Nat→Option Nat
 |[],_=>none
 |(x,y')::r,y=>bif Nat.beq y' y then some x else ek r y
def sx:Option Nat→Nat→Bool
 |some x,y=>Nat.beq x y
 |none,_=>false
def gy:SC→Bool
 |.pure _=>true
 |.lit cs=>cs.all fun | .pv _=>true|_=>false
 |_=>false
def lH(aP:aY)(σ:List (Nat×Nat)):Bool :=
 σ.all fun p=>(Nat.blt p.1 999999&&Nat.blt p.2 999999)&&sx (assoc σ p.1) p.2&&sx (ek σ p.2) p.1&&(match aP.get p.1 with
  |some sc=>gy sc
  |none=>false)
def lf(aP:aY):List (Nat×Nat)→aY
 |[]=>[]
 |(x,y)::σ=>match aP.get x with
  |some sc=>(y,sc)::lf aP σ
  |none=>lf aP σ
def jE(σ:List (Nat×Nat))(sout:aY):aY→aY
 |[]=>[]
 |(x,sc)::aP=>(x,bif Nat.blt x 999999 then (match assoc σ x with
  |some y=>match aY.get sout y with
   |some sc'=>sc'
   |none=>sc
  |none=>sc) else sc)::jE σ sout aP
def sy(σ:Nat→Option Nat):EV→Option EV
 |.pv p=>some (.pv p)
 |.ptr x o=>match σ x with
  |some y=>some (.ptr y o)
  |none=>none
 |.row x o l z=>match σ x with
  |some y=>some (.row y o l z)
  |none=>none
 |.mC c=>some (.mC c)
 |.jA x o l z ps=>match σ x with
  |some y=>some (.jA y o l z ps)
  |none=>none
 |.mD f x=>match σ x with
  |some y=>some (.mD f y)
  |none=>none
 |.dead=>none
 |.ig .. => none
 |.mE .. => none
 |.lz .. => none
 |.iu .. => none
 |.cM .. => none
def Ai(nx:Bool)(env:Env)(x:Operand):Option EV :=
 match nx,x with
 |true,.const (.slice none 0 0)=>some (.pv .aT)
 |_,x=>cU env x
def Pu:EV→Bool
 |.jA .. => true
 |.row .. => true
 |_=>false
theorem dh.ZF(hr:dh Γ s a w β I)(nx:Bool)(x:Operand)(e:EV)(h:Ai nx s.env x=some e):RE β (bz s.aP) I w e (a.eval x):=by
 unfold Ai at h;split at h
 ·injection h with h;subst h;exact Rd.aT
 ·exact hr.zZ x e h
def sZ(nx:Bool)(env:Env)(σ:Nat→Option Nat):List Operand→Option (List EV)
 |[]=>some []
 |x::r=>match Ai nx env x,sZ nx env σ r with
  |some e,some es=>match sy σ e with
   |some e'=>some (e'::es)
   |none=>none
  |_,_=>none
def Kc(σ:Nat→Option Nat)(env:Env):Operand→Option (FuncId×List EV)
 |.func f=>some (f,[])
 |x=>match cU env x with
  |some (.mD f r)=>match σ r with
   |some y=>some (f,[.ptr y 0])
   |none=>none
  |some (.pv (.fn f))=>some (f,[])
  |_=>none
def cm:List Nat→St→St
 |[],s=>s
 |r::rs,s=>cm rs (kill r s)
theorem dh.cm:∀(rs:List Nat) {s:St},dh Γ s a w β I→dh Γ (cm rs s) a w β I
 |[],_,h=>h
 |r::rs,_,h=>dh.cm rs (h.kill r)
theorem jF:∀(rs:List Nat) {s:St} {x:Nat},bz (cm rs s).aP x↔bz s.aP x∧x ∉ rs
 |[],s,x=>by simp[cm]
 |r::rs,s,x=>by show bz (cm rs (kill r s)).aP x↔_;rw[jF rs];show bz (dE r s.aP) x∧_↔_;rw[fe];simp only[List.mem_cons,not_or,and_assoc]
def nP(x:Nat):Bool:=Nat.ble 200000 x
def givenBy(σ:List (Nat×Nat)):List Nat:=(σ.filter fun p=>nP p.2).map (·.1)
def mG (P : Program) (n : Nat) (o : Oper) (h : Hint) (s : St) : Option (St × List Prop) :=
  match o.op, h with
  | .call c, .bm σ nw r sout => match c.callee with
    | .value g => match Kc (assoc σ) s.env g, sZ (Pu r) s.env (assoc σ) c.args.toList with
     | some (f, ex), some es => bif jC n o.dst && lH s.aP σ && σ.all (fun p => bif nP p.2 then Nat.blt p.1 n else (aY.get sout p.2).isSome) && sout.all (fun p => Nat.blt p.1 999999 && gy p.2 && (((ek σ p.1).isSome && !nP p.1) || sx (nw.map (·.1)) p.1)) then
        match nw with
        | none => match sy (ek σ) r with
          | some r' => some (⟨nN (cm (givenBy σ) s).env o.dst r', jE σ sout (cm (givenBy σ) s).aP⟩, [ag P f (es ++ ex) (lf s.aP σ) r sout])
          | none => none
        | some (y, d) => match aY.get sout y, s.aP.get d, ek σ y, sy (fun z => bif Nat.beq y z then some d else ek σ z) r with
          | some sc, none, none, some r' => bif Nat.blt d n then some (⟨nN (cm (givenBy σ) s).env o.dst r', (d, sc) :: jE σ sout (cm (givenBy σ) s).aP⟩, [ag P f (es ++ ex) (lf s.aP σ) r sout]) else none
          | _, _, _, _ => none
      else none
     | _, _ => none
    | _ => none
  | _, _ => none
theorem eA:∀{σ:List (Nat×Nat)} {x y:Nat},assoc σ x=some y→(x,y)∈σ
 |[],x,y,h=>by cases h
 |(x',y')::r,x,y,h=>by
  simp only[assoc] at h;cases hb:Nat.beq x' x with
  |true =>have:x'=x:=abO hb;subst this;simp only[hb,cond_true] at h;injection h with h;subst h;simp
  |false =>simp only[hb,cond_false] at h;exact acA _ (eA h)
theorem fZ:∀{σ:List (Nat×Nat)} {x y:Nat},ek σ y=some x→(x,y)∈σ
 |[],x,y,h=>by cases h
 |(x',y')::r,x,y,h=>by
  simp only[ek] at h;cases hb:Nat.beq y' y with
  |true =>have:y'=y:=abO hb;subst this;simp only[hb,cond_true] at h;injection h with h;subst h;simp
  |false =>simp only[hb,cond_false] at h;exact acA _ (fZ h)
theorem aY.lI:∀{aP:aY} {y:Nat} {sc:SC},aY.cD aP y=some sc→(y,sc)∈aP
 |[],y,sc,h=>by cases h
 |(y',sc')::r,y,sc,h=>by
  simp only[aY.cD] at h;cases hb:Nat.beq y' y with
  |true =>have:y'=y:=abO hb;subst this;simp only[hb,cond_true] at h;injection h with h;subst h;simp
  |false =>simp only[hb,cond_false] at h;exact acA _ (aY.lI h)
theorem aY.get_mem{aP:aY}{y:Nat}{sc:SC}(h:aY.get aP y=some sc):(y,sc)∈aP∨(1000000≤y∧∃xs,(999999,SC.heap xs)∈aP):=by
 rcases Dn y with hy|rfl|⟨j,rfl⟩
 ·rw[aY.jB hy] at h;exact .inl (aY.lI h)
 ·rw[aY.gu] at h;cases h
 ·right;refine⟨by unfold hc;omega,?_⟩;rw[aY.kI] at h;unfold aY.hp at h;split at h
  ·rename_i xs hg;exact⟨xs,aY.lI hg⟩
  ·simp[qh] at h
theorem aY.s8{aP:aY}(Oi:∀p∈aP,p.1<999999){y:Nat}{sc:SC}(h:aY.get aP y=some sc):(y,sc)∈aP:=by
 rcases aY.get_mem h with h|⟨_,xs,h⟩
 ·exact h
 ·have:=Oi _ h;simp at this
theorem mH{o:Option Nat}{y:Nat}(h:sx o y=true):o=some y:=by
 cases o with
 |none=>cases h
 |some x=>rw[abO h]
theorem xy{aP:aY}{σ:List (Nat×Nat)}(h:lH aP σ=true){x y:Nat}(hm:(x,y)∈σ):x<999999∧y<999999:=by unfold lH at h;rw[abX] at h;have:=h (x,y) hm;simp only[Bool.and_eq_true] at this;exact⟨abM this.1.1.1.1,abM this.1.1.1.2⟩
theorem eZ{aP:aY}{σ:List (Nat×Nat)}(h:lH aP σ=true){x y:Nat}(hm:(x,y)∈σ) :
  assoc σ x=some y∧ek σ y=some x∧∃sc,aP.get x=some sc∧gy sc=true:=by
 unfold lH at h;rw[abX] at h;have:=h (x,y) hm;simp only[Bool.and_eq_true] at this;obtain⟨⟨⟨_,h1⟩,h2⟩,h3⟩:=this;refine⟨mH h1,mH h2,?_⟩;split at h3
 ·rename_i sc gS;exact⟨sc,gS,h3⟩
 ·cases h3
theorem nk{aP:aY}{σ0:List (Nat×Nat)}(gk:lH aP σ0=true):∀(σ:List (Nat×Nat)),(∀p∈σ,p∈σ0)→∀(y:Nat) sc,(lf aP σ).get y=some sc→∃x,ek σ0 y=some x∧assoc σ0 x=some y∧aP.get x=some sc
 |[],_,y,sc,h=>by rw[lf,aY.get_nil] at h;cases h
 |(x,y')::σ,hm,y,sc,h=>by
  obtain⟨g1,g2,sH,g3,_⟩:=eZ gk (hm (x,y') (by simp));simp only[lf,g3] at h;rw[aY.fg (xy gk (hm (x,y') (by simp))).2] at h;cases hb:Nat.beq y' y with
  |true =>
   have:y'=y:=abO hb;subst this;simp only[hb,cond_true] at h;injection h with h;subst h
   exact⟨x,g2,g1,g3⟩
  |false =>simp only[hb,cond_false] at h;exact nk gk σ (fun p hp=>hm p (by simp[hp])) y sc h
theorem iQ{aP:aY}{σ0:List (Nat×Nat)}(gk:lH aP σ0=true):∀(σ:List (Nat×Nat)),(∀p∈σ,p∈σ0)→∀x y,(x,y)∈σ→bz (lf aP σ) y
 |[],_,x,y,h=>by cases h
 |(x',y')::σ,hm,x,y,h=>by
  obtain⟨g1,g2,sH,g3,_⟩:=eZ gk (hm (x',y') (by simp));have Yo:=(xy gk (hm (x',y') (by simp))).2;simp only[lf,g3];rcases ac0.1 h with h|h
  ·injection h with h1 h2;subst h2
   exact(ei Yo).2 (.inl rfl)
  ·exact(ei Yo).2 (.inr (iQ gk σ (fun p hp=>hm p (by simp[hp])) x y h))
theorem s9(σ:List (Nat×Nat))(sout:aY):∀(aP:aY) (x:Nat),(jE σ sout aP).cD x=(aP.cD x).map (fun sc=>bif Nat.blt x 999999 then (match assoc σ x with
  |some y=>match aY.get sout y with
   |some sc'=>sc'
   |none=>sc
  |none=>sc) else sc)
 |[],x=>rfl
 |(x',sc)::aP,x=>by
  simp only[jE,aY.cD];cases hb:Nat.beq x' x with
  |true =>have:x'=x:=abO hb;subst this;rfl
  |false=>exact s9 σ sout aP x
theorem vl(σ:List (Nat×Nat))(sout aP:aY)(x:Nat):(jE σ sout aP).get x=(aP.get x).map (fun sc=>bif Nat.blt x 999999 then (match assoc σ x with
  |some y=>match aY.get sout y with
   |some sc'=>sc'
   |none=>sc
  |none=>sc) else sc):=by
 rcases Dn x with h|rfl|⟨j,rfl⟩
 ·rw[aY.jB h,aY.jB h,s9]
 ·rw[aY.gu,aY.gu];rfl
 ·rw[aY.kI,aY.kI,show Nat.blt (hc j) 999999=false from acX.2 (fun h=>by have:=abM h;unfold hc at this;omega)];unfold aY.hp;rw[s9];cases aP.cD 999999 with
  |none=>simp[qh]
  |some sc =>
   simp only[Option.map_some,show Nat.blt 999999 999999=false from rfl,cond_false];cases qh (match some sc with
    |some (SC.heap xs)=>xs
    |_=>[]) j<;>rfl
theorem jV{σ:List (Nat×Nat)}{sout aP:aY}{x:Nat} : bz (jE σ sout aP) x↔bz aP x:=by unfold bz;rw[vl];simp
theorem B7{sc:SC}(h:gy sc=true):∀e∈sc.oe,∃p,e = .pv p:=by
 intro e he;cases sc with
 |pure ps =>obtain⟨p,_,rfl⟩:=aca.1 he;exact⟨p,rfl⟩
 |lit cs =>unfold gy at h;rw[abX] at h;have:=h e he;cases e<;>first|exact⟨_,rfl⟩|cases this
 |heap _=>cases h
 |Ew _ _=>cases h
 |Ex _ _=>cases h
theorem RB.closed{β β':Nat→Option Nat}{L L' I I':Nat→Prop}{w:World}{r r':Nat}{sc:SC}(hc:gy sc=true)(h:RB β L I w r sc.oe)(hb:β' r'=β r)(hI:∀b,I b→I' b):RB β' L' I' w r' sc.oe:=by
 rcases h with ⟨h1,h2⟩|⟨b,arr,el,h1,h2,h3⟩
 ·exact .inl ⟨hb.trans h1,h2⟩
 ·refine .inr ⟨b,arr,el,hb.trans h1,h2,fun j e he => ?_⟩;obtain⟨u,g1,g2,g3⟩:=h3 j e he;obtain⟨p,rfl⟩:=B7 hc e (ac5 he);exact⟨u,g1,g2,Rd.mono g3 hI (fun _ _ _=>rfl)⟩
def βX(β:Nat→Option Nat)(σ:List (Nat×Nat))(y:Nat):Option Nat:=(ek σ y).bind β
theorem dh.given(hr:dh Γ s a w β I){σ:List (Nat×Nat)}{s1:St}(r8:∀x,bz s1.aP x→bz s.aP x)(Er:∀x y,bz s1.aP x→assoc σ x=some y→¬gv y)
  (IS:∀x y b,assoc σ x=some y→gv y→bz s.aP x→β x=some b→Γ.Nw b) (gk:lH s.aP σ=true) {b:Nat} (h:B3 (lf s.aP σ) (βX β σ) b):Γ.Nw b∧b<w.heap.size∧∀x,bz s1.aP x→β x≠some b:=by
 obtain⟨y,hg,hy,yY⟩:=h;obtain⟨sc,gS⟩:=abP.1 hy;obtain⟨x,g1,g2,g3⟩:=nk gk σ (fun p hp=>hp) y sc gS;unfold βX at yY;rw[g1] at yY;have h2:bz s.aP x:=by unfold bz;rw[g3];rfl
 refine⟨IS x y b g2 hg h2 yY,hr.lb x b h2 yY,fun x' uJ e => ?_⟩;have:=hr.aP.2 x x' b h2 (r8 x' uJ) yY e;subst this;exact Er x y uJ g2 hg
theorem dh.Kd (hr : dh Γ s a w β I) {σ : List (Nat × Nat)} {s1 : St} (zM : dh Γ s1 a w β I) (r8 : ∀ x, bz s1.aP x → bz s.aP x) (Er : ∀ x y, bz s1.aP x → assoc σ x = some y → ¬ gv y)
    (IS : ∀ x y b, assoc σ x = some y → gv y → bz s.aP x → β x = some b → Γ.Nw b) {sout : aY} {β' : Nat → Option Nat} {w' : World} {I' : Nat → Prop} (gk : lH s.aP σ = true) (JP : ∀ p ∈ σ, ¬ gv p.2 → bz sout p.2)
    (hb : ∀ y, bz (lf s.aP σ) y → ¬ gv y → β' y = βX β σ y) (hk : gV (fun b => ∃ y, bz (lf s.aP σ) y ∧ βX β σ y = some b) w w')
    (zm : ∀ y sc, aY.get sout y = some sc → gy sc = true ∧ RB β' (bz sout) I' w' y sc.oe ∧ ∀ b, β' y = some b → ¬ I' b) (Yp : ∀ b, I b → I' b) (Mr : ∀ b, I' b → I b ∨ fresh w w' b ∨ B3 (lf s.aP σ) (βX β σ) b) :
    dh Γ ⟨s1.env, jE σ sout s1.aP⟩ a w' β I' := by
  have kU : ∀ b y, bz (lf s.aP σ) y → βX β σ y = some b → ∃ x, assoc σ x = some y ∧ bz s.aP x ∧ β x = some b := by intro b y hy yY;obtain ⟨sc, gS⟩ := abP.1 hy;obtain ⟨x, g1, g2, g3⟩ := nk gk σ (fun p hp => hp) y sc gS;unfold βX at yY;rw [g1] at yY;exact ⟨x, g2, by unfold bz; rw [g3]; rfl, yY⟩
  have ZG : ∀ b, I b → ¬ ∃ y, bz (lf s.aP σ) y ∧ βX β σ y = some b := by intro b hI ⟨y, hy, yY⟩;obtain ⟨x, _, hd, Gu⟩ := kU b y hy yY;obtain ⟨sc, gS⟩ := abP.1 hd;exact ((hr.aP.1 x sc gS).2 b Gu).2 hI
  have MX : ∀ b, B3 (lf s.aP σ) (βX β σ) b → Γ.Nw b ∧ b < w.heap.size ∧ ∀ x, bz s1.aP x → β x ≠ some b := fun b h => hr.given r8 Er IS gk h
  have hw : ∀ b o, I b → w'.cell? ⟨b, o, none⟩ = w.cell? ⟨b, o, none⟩ := fun b o hI => fh (hk.block b (hr.ib b hI) (ZG b hI)) o
  have hL : ∀ x, bz s1.aP x → bz (jE σ sout s1.aP) x := fun x hx => jV.2 hx
  have zW : ∀ r b, bz s1.aP r → β r = some b → w'.shape? b = w.shape? b := fun r b hd fc => hk.shape b (zM.lb r b hd fc)
  refine ⟨fun t e he => (zM.env t e he).mono (fun _ _ => rfl) hL Yp hw zW, ⟨fun x sc hx => ?_, fun x y b hx hy => zM.aP.2 x y b (jV.1 hx) (jV.1 hy)⟩,
    fun x hx => zM.par x (jV.1 hx), fun x b hx => zM.new x b (jV.1 hx), fun b hI => ?_, fun b hI => ?_, ?_, zM.size, zM.defers⟩
  · have hx : (jE σ sout s1.aP).get x = some sc := hx;rw [vl] at hx;cases hg : s1.aP.get x with
    | none => rw [hg] at hx; cases hx
    | some sH =>
      rw [hg] at hx;simp only [Option.map_some, Option.some.injEq] at hx;obtain ⟨k1, k2⟩ := zM.aP.1 x sH hg;have vh : bz s1.aP x := by unfold bz; rw [hg]; rfl
      have Up : Nat.blt x 999999 = false → assoc σ x = none := fun hb => by
        cases ha : assoc σ x with
        | none => rfl
        | some y => rw [show Nat.blt x 999999 = true from acN (xy gk (eA ha)).1] at hb; cases hb
      have hx : (match assoc σ x with
        | some y => match aY.get sout y with
          | some sc' => sc'
          | none => sH
        | none => sH) = sc := by
        cases hb : Nat.blt x 999999 with
        | true => rw [hb] at hx; exact hx
        | false => rw [hb] at hx; rw [Up hb]; exact hx
      cases ha : assoc σ x with
      | some y =>
        have hm := eA ha;have zc := Er x y vh ha;obtain ⟨_, ZH, _⟩ := eZ gk hm;obtain ⟨sc', B8⟩ := abP.1 (JP (x, y) hm zc);simp only [ha, B8] at hx;subst hx;obtain ⟨c1, c2, c3⟩ := zm y sc' B8;have IM : β' y = β x := by rw [hb y (iQ gk σ (fun p hp => hp) x y hm) zc];unfold βX; rw [ZH]; rfl
        exact ⟨c2.closed c1 IM.symm (fun _ h => h), fun b fc => ⟨ac4 (k2 b fc).1 hk.size, c3 b (IM.trans fc)⟩⟩
      | none =>
        simp only [ha] at hx;subst hx;refine ⟨k1.mono rfl (fun b fc => hk.block b (zM.lb x b vh fc) (fun hM => ?_)) (fun _ _ => rfl) hL Yp hw zW, fun b fc => ⟨ac4 (k2 b fc).1 hk.size, fun hI => ?_⟩⟩
        · obtain ⟨y2, R6, Pw⟩ := hM;obtain ⟨x2, h1, h2, h3⟩ := kU b y2 R6 Pw;have := hr.aP.2 x x2 b (r8 x vh) h2 fc h3;subst this;rw [ha] at h1; cases h1
        · rcases Mr b hI with h | h | h
          · exact (k2 b fc).2 h
          · have := (k2 b fc).1; have := h.1; omega
          · exact (MX b h).2.2 x vh fc
  · rcases Mr b hI with h | h | h
    · exact ac4 (hr.ib b h) hk.size
    · exact h.2
    · exact ac4 (MX b h).2.1 hk.size
  · rcases Mr b hI with h | h | h
    · rcases hr.ii b h with h3 | h3
      · exact .inl h3
      · exact .inr (h3.imp (fun h3 => ⟨h3.1, ac4 h3.2 hk.size⟩) id)
    · exact .inr (.inl ⟨abZ hr.aW.size h.1, h.2⟩)
    · obtain ⟨h1, h2, _⟩ := MX b h;exact .inr (h1.imp (fun h1 => ⟨h1, ac4 h2 hk.size⟩) id)
  · refine hr.aW.trans hk (fun b cT hM => ?_);obtain ⟨y, hy, yY⟩ := hM;obtain ⟨x, _, hd, Gu⟩ := kU b y hy yY;by_cases BV : bz Γ.sin x ∧ ¬ gv x
    · exact ⟨x, BV.1, by rw [← hr.par x hd BV.1 BV.2]; exact Gu⟩
    · exact (hr.new x b hd (by by_cases h : bz Γ.sin x; · exact .inr (aco fun h2 => BV ⟨h, h2⟩)
                               · exact .inl h) Gu).m cT
theorem Aj(nx:Bool)(hr:dh Γ s a w β I){σ:List (Nat×Nat)}(gk:lH s.aP σ=true):∀(xs:List Operand) (es:List EV),sZ nx s.env (assoc σ) xs=some es→xs.length=es.length ∧
  ∀(j:Nat) e x,es[j]? = some e→xs[j]? = some x→RE (βX β σ) (bz (lf s.aP σ)) I w e (a.eval x)
 |[],es,h=>by injection h with h;subst h;exact⟨rfl,fun j p x hp=>by simp at hp⟩
 |x::r,es,h=>by
  unfold sZ at h;split at h
  ·rename_i e HV he Cs;split at h
   ·rename_i e' gi;injection h with h;subst h
    obtain⟨h1,h2⟩:=Aj nx hr gk r HV Cs;refine⟨by simp[h1],fun j q y hj hy => ?_⟩;cases j with
    |zero =>
     simp at hj hy;subst hj hy;have hx:=hr.ZF nx x _ he;cases e with
     |pv p=>injection gi with gi;subst gi;exact hx
     |mC c=>injection gi with gi;subst gi;exact hx
     |dead=>cases gi
     |ig _ _ _=>cases gi
     |mE _ _=>cases gi
     |lz _=>cases gi
     |iu _ _ _=>cases gi
     |cM _ _ _=>cases gi
     |ptr z off =>
      simp only[sy] at gi;split at gi
      ·rename_i y hy;injection gi with gi;subst gi
       have hm:=eA hy;obtain⟨_,hR,_⟩:=eZ gk hm;obtain⟨_,b,hb,hv⟩:=hx;exact⟨iQ gk σ (fun p hp=>hp) z y hm,b,by unfold βX;rw[hR];exact hb,hv⟩
      ·cases gi
     |mD g z =>
      simp only[sy] at gi;split at gi
      ·rename_i y hy;injection gi with gi;subst gi
       have hm:=eA hy;obtain⟨_,hR,_⟩:=eZ gk hm;obtain⟨_,b,hb,hv⟩:=hx;exact⟨iQ gk σ (fun p hp=>hp) z y hm,b,by unfold βX;rw[hR];exact hb,hv⟩
      ·cases gi
     |row z off len sz =>
      simp only[sy] at gi;split at gi
      ·rename_i y hy;injection gi with gi;subst gi
       have hm:=eA hy;obtain⟨_,hR,_⟩:=eZ gk hm;have F2:βX β σ y=β z:=by unfold βX;rw[hR];rfl
       obtain⟨_,hx⟩:=hx;exact⟨iQ gk σ (fun p hp=>hp) z y hm,by rw[F2];exact hx⟩
      ·cases gi
     |jA z off len sz ps =>
      simp only[sy] at gi;split at gi
      ·rename_i y hy;injection gi with gi;subst gi
       have hm:=eA hy;obtain⟨_,hR,_⟩:=eZ gk hm;have F2:βX β σ y=β z:=by unfold βX;rw[hR];rfl
       obtain⟨us,g1,g2,⟨u,g3,_,g4⟩,g5⟩:=hx;exact⟨us,g1,g2,⟨u,g3,iQ gk σ (fun p hp=>hp) z y hm,by rw[F2];exact g4⟩,g5⟩
      ·cases gi
    |succ j=>exact h2 j q y (by simpa using hj) (by simpa using hy)
   ·cases h
  ·cases h
theorem IT(hr:dh Γ s a w β I){σ:List (Nat×Nat)}(gk:lH s.aP σ=true){g:Operand}{f:FuncId}{ex:List EV}(h:Kc (assoc σ) s.env g=some (f,ex)) :
  ∃cap:Array Value,a.eval g = .func (.func f) #[] cap∧ex.length=cap.size∧∀(j:Nat) e v,ex[j]? = some e→cap[j]? = some v→RE (βX β σ) (bz (lf s.aP σ)) I w e v:=by
 unfold Kc at h;split at h
 ·rename_i f';injection h with h;injection h with h1 h2
  subst h1;subst h2;exact⟨#[],by simp[Act.eval],rfl,fun j e v he=>by simp at he⟩
 ·split at h
  ·rename_i f' r he;split at h
   ·rename_i y hy;injection h with h;injection h with h1 h2
    subst h1;subst h2;obtain⟨_,b,hb,hv⟩:=hr.zZ g _ he;have hm:=eA hy;obtain⟨_,hR,_⟩:=eZ gk hm;refine⟨#[.pointer (some ⟨b,0,none⟩)],hv,rfl,fun j e v he hv => ?_⟩;cases j with
    |zero =>simp at he hv;subst he;subst hv;exact⟨iQ gk σ (fun p hp=>hp) r y hm,b,by unfold βX;rw[hR];exact hb,rfl⟩
    |succ j=>simp at he
   ·cases h
  ·rename_i f' he;injection h with h;injection h with h1 h2
   subst h1;subst h2;have hv:Rd I w (.fn f') (a.eval g):=hr.zZ g _ he;refine⟨#[],?_,rfl,fun j e v he=>by simp at he⟩;generalize a.eval g=v at hv;cases hv;rfl
  ·cases h
theorem Gv {f : FuncId} (hc : qA P f) {g : Operand} {cap : Array Value} (hv : a.eval g = .func (.func f) #[] cap) {args : Array Operand} {FZ : Array TypeId} (pB : o.op = .call ⟨.value g, args, FZ⟩) :
    (execOp a.eval o).run P w = .ok (.enter f (args.map a.eval ++ cap)) w := by
  obtain ⟨fn, h1, h2, h3⟩ := hc;have hb : fn.body ≠ none := by intro e; rw [e] at h2; cases h2
  have II : fn.name ≠ "runtime.NumGoroutine" := by simpa using h3
  simp [execOp, pB, resolve, hv, Deferred.ofValue, invoke, callFunc, h1, II, hb]
theorem nQ (hs : ∀ r, bz Γ.sin r → Γ.n ≤ r) (hr : Rel Γ s a w) (bc : mG P Γ.n o h s = some (s', ob)) (cf : dW ob) {K : Act → World → Prop} {Q : Exit → Act → World → Prop}
    (hk : ∀ a' w', Rel Γ s' a' w' → K a' w') : o.wp P a w K Q := by
  obtain ⟨β, I, hr⟩ := hr;unfold mG at bc;split at bc
  · rename_i c σ nw r sout pB;split at bc
    case h_2 => cases bc
    rename_i g nJ;split at bc
    · rename_i f ex es hg Cs;cases hd : (jC Γ.n o.dst && lH s.aP σ && σ.all (fun p => bif nP p.2 then Nat.blt p.1 Γ.n else (aY.get sout p.2).isSome) && sout.all (fun p => Nat.blt p.1 999999 && gy p.2 && (((ek σ p.1).isSome && !nP p.1) || sx (nw.map (·.1)) p.1))) with
      | false => simp [hd] at bc
      | true =>
        simp only [hd, cond_true] at bc;simp only [Bool.and_eq_true] at hd;obtain ⟨⟨⟨d1, d2⟩, d3⟩, d4⟩ := hd;rw [abX] at d3 d4;obtain ⟨cl, args, FZ⟩ := c;have nJ : cl = .value g := nJ;subst nJ;obtain ⟨cap, Vr, Vs, ZI⟩ := IT hr d2 hg;obtain ⟨hl, uw⟩ := Aj _ hr d2 args.toList es Cs;have Ke : mw (βX β σ) I w (lf s.aP σ) := by
          refine ⟨fun y sc hy => ?_, fun y y' b hy Ak h1 h2 => ?_⟩
          · obtain ⟨x, g1, g2, g3⟩ := nk d2 σ (fun p hp => hp) y sc hy;obtain ⟨_, _, Oj, g4, g5⟩ := eZ d2 (fZ g1);rw [g3] at g4; injection g4 with g4; subst g4
            have F2 : βX β σ y = β x := by unfold βX; rw [g1]; rfl
            obtain ⟨k1, k2⟩ := hr.aP.1 x sc g3;exact ⟨k1.closed g5 F2 (fun _ h => h), fun b hb => k2 b (F2.symm.trans hb)⟩
          · obtain ⟨sc, gS⟩ := abP.1 hy;obtain ⟨sc', B8⟩ := abP.1 Ak;obtain ⟨x, g1, g2, g3⟩ := nk d2 σ (fun p hp => hp) y sc gS;obtain ⟨x', Kf, Ad, Kg⟩ := nk d2 σ (fun p hp => hp) y' sc' B8;have e1 : β x = some b := by unfold βX at h1; rw [g1] at h1; exact h1
            have e2 : β x' = some b := by unfold βX at h2; rw [Kf] at h2; exact h2
            have := hr.aP.2 x x' b (by unfold bz; rw [g3]; rfl) (by unfold bz; rw [Kg]; rfl) e1 e2;subst this;rw [g2] at Ad; injection Ad with Ad
        have Px : kh (lf s.aP σ) (βX β σ) w := hr.lay.sub (fun y b hy hb => by obtain ⟨sc, gS⟩ := abP.1 hy;obtain ⟨x, g1, g2, g3⟩ := nk d2 σ (fun p hp => hp) y sc gS;exact ⟨x, by unfold bz; rw [g3]; rfl, by unfold βX at hb; rw [g1] at hb; exact hb⟩)
        have fin : ∀ (hc : ag P f (es ++ ex) (lf s.aP σ) r sout) {s2 : St}, (∀ v w' β', gV (fun b => ∃ y, bz (lf s.aP σ) y ∧ βX β σ y = some b) w w' → (∀ y, bz (lf s.aP σ) y → ¬ gv y → β' y = βX β σ y) →
              mw β' (fun b => I b ∨ ((fresh w w' b ∨ B3 (lf s.aP σ) (βX β σ) b) ∧ ∀ x, bz sout x → β' x ≠ some b)) w' sout → RE β' (bz sout) (fun b => I b ∨ ((fresh w w' b ∨ B3 (lf s.aP σ) (βX β σ) b) ∧ ∀ x, bz sout x → β' x ≠ some b)) w' r v →
              (∀ x b, bz sout x → ¬ bz (lf s.aP σ) x → β' x = some b → fresh w w' b ∨ B3 (lf s.aP σ) (βX β σ) b) → Rel Γ s2 (a.put o.dst v) w') → (∀ a' w', Rel Γ s2 a' w' → K a' w') → o.wp P a w K Q := by
          intro hc s2 Py hk;unfold Oper.wp;rw [Gv hc.1 Vr pB];rw [aeL];have MP : args.size = es.length := by simpa using hl
          refine (hc.2 I w (βX β σ) (args.map a.eval ++ cap) hr.ib Ke (by rw [acr, adD, aeZ, MP, Vs]) (fun j e v he hv => ?_) Px).mono fun e w' hp => ?_
          · by_cases hj : j < es.length
            · rw [ad9 hj] at he;rw [aea (by rw [aeZ]; omega), aej] at hv;cases hx : args[j]? with
              | none => simp [hx] at hv
              | some x =>simp [hx] at hv;subst hv;exact uw j e x he (by simpa using hx)
            · rw [acS (by omega)] at he;rw [Array.getElem?_append_right (by rw [aeZ]; omega), aeZ, MP] at hv;exact ZI _ e v he hv
          · obtain ⟨v, β', rfl, p1, p2, p3, p4, p5⟩ := hp;exact hk _ _ (Py v w' β' p2 p1 p3 p4 p5)
        have Oi : ∀ p ∈ sout, p.1 < 999999 := fun p hp => by have := d4 p hp;simp only [Bool.and_eq_true] at this;exact abM this.1.1
        have Pz : ∀ y sc, aY.get sout y = some sc → gy sc = true := by
          intro y sc hy;obtain ⟨p, hp, h1⟩ : ∃ p ∈ sout, p.2 = sc := by exact ⟨(y, sc), aY.s8 Oi hy, rfl⟩
          have := d4 p hp;simp only [Bool.and_eq_true] at this;rw [← h1]; exact this.1.2
        have Kh : ∀ y, nP y = true ↔ gv y := fun y => ⟨abM, acN⟩
        have Ok : ∀ p ∈ σ, ¬ gv p.2 → bz sout p.2 := fun p hp hg => by have := d3 p hp;rw [acX.2 (fun h => hg ((Kh _).1 h)), ac1] at this;exact this
        have zM := hr.cm (givenBy σ);have r8 : ∀ x, bz (cm (givenBy σ) s).aP x → bz s.aP x := fun x hx => ((jF _).1 hx).1
        have Er : ∀ x y, bz (cm (givenBy σ) s).aP x → assoc σ x = some y → ¬ gv y := fun x y hx ha hg => ((jF _).1 hx).2 (aca.2 ⟨(x, y), adj.2 ⟨eA ha, (Kh y).2 hg⟩, rfl⟩)
        have IS : ∀ x y b, assoc σ x = some y → gv y → bz s.aP x → β x = some b → Γ.Nw b := fun x y b ha hg vh hb => by have := d3 _ (eA ha);rw [(Kh y).2 hg, abQ] at this;exact hr.new x b vh (.inl (fun h => absurd (hs x h) (acT (abM this)))) hb
        have mq : ∀ x y, ek σ y = some x → bz sout y → ¬ sx (nw.map (·.1)) y = true → bz (cm (givenBy σ) s).aP x ∧ ¬ gv y := by
          intro x y hx hy nZ;obtain ⟨sc, gS⟩ := abP.1 hy;have := d4 _ (aY.s8 Oi gS);simp only [Bool.and_eq_true, Bool.or_eq_true, Bool.not_eq_true'] at this;have zc : ¬ gv y := fun hg => by
            rcases this.2 with h | h
            · rw [(Kh y).2 hg] at h; exact absurd h.2 (by simp)
            · exact nZ h
          obtain ⟨e1, _, Vt, e2, _⟩ := eZ d2 (fZ hx);refine ⟨(jF _).2 ⟨by unfold bz; rw [e2]; rfl, fun hm => ?_⟩, zc⟩;obtain ⟨⟨x', y'⟩, Vu, PA⟩ := aca.1 hm;obtain ⟨Vv, Vw⟩ := adj.1 Vu;have PA : x' = x := PA;subst PA;obtain ⟨e3, _⟩ := eZ d2 Vv;rw [e1] at e3; injection e3 with e3; subst e3
          exact zc ((Kh _).1 Vw)
        split at bc
        · split at bc
          · rename_i r' dx;injection bc with bc; injection bc with h1 h2
            subst h1; subst h2;refine fin cf (fun v w' β' p2 p1 p3 p4 p5 => ?_) hk;have hh := hr.Kd zM r8 Er IS (sout := sout) d2 Ok p1 p2 (fun y sc hy => ⟨Pz y sc hy, (p3.1 y sc hy).1, fun b hb => ((p3.1 y sc hy).2 b hb).2⟩) (fun b hb => .inl hb) (fun b hb => hb.imp id (fun h => h.1));refine ⟨β, _, hh.put (eO d1) ?_⟩;cases r with
            | pv p => injection dx with dx; subst dx; exact p4
            | mC c => injection dx with dx; subst dx; exact p4
            | dead => cases dx
            | ig _ _ _ => cases dx
            | mE _ _ => cases dx
            | lz _ => cases dx
            | iu _ _ _ => cases dx
            | cM _ _ _ => cases dx
            | ptr y off =>
              simp only [sy] at dx;split at dx
              · rename_i x hx;injection dx with dx; subst dx
                have hm := fZ hx;obtain ⟨MY, b, hb, hv⟩ := p4;obtain ⟨k1, k2⟩ := mq x y hx MY (by simp [sx]);exact ⟨jV.2 k1, b, by rw [p1 y (iQ d2 σ (fun p hp => hp) x y hm) k2] at hb; unfold βX at hb; rw [hx] at hb; exact hb, hv⟩
              · cases dx
            | mD g y =>
              simp only [sy] at dx;split at dx
              · rename_i x hx;injection dx with dx; subst dx
                have hm := fZ hx;obtain ⟨MY, b, hb, hv⟩ := p4;obtain ⟨k1, k2⟩ := mq x y hx MY (by simp [sx]);exact ⟨jV.2 k1, b, by rw [p1 y (iQ d2 σ (fun p hp => hp) x y hm) k2] at hb; unfold βX at hb; rw [hx] at hb; exact hb, hv⟩
              · cases dx
            | row y off len sz =>
              simp only [sy] at dx;split at dx
              · rename_i x hx;injection dx with dx; subst dx
                have hm := fZ hx;obtain ⟨MY, p4⟩ := p4;obtain ⟨k1, k2⟩ := mq x y hx MY (by simp [sx]);have F2 : β' y = β x := by rw [p1 y (iQ d2 σ (fun p hp => hp) x y hm) k2]; unfold βX; rw [hx]; rfl
                exact ⟨jV.2 k1, by rw [← F2]; exact p4⟩
              · cases dx
            | jA y off len sz ps =>
              simp only [sy] at dx;split at dx
              · rename_i x hx;injection dx with dx; subst dx
                have hm := fZ hx;obtain ⟨us, q1, q2, ⟨u, q3, MY, q4⟩, q5⟩ := p4;obtain ⟨k1, k2⟩ := mq x y hx MY (by simp [sx]);have F2 : β' y = β x := by rw [p1 y (iQ d2 σ (fun p hp => hp) x y hm) k2]; unfold βX; rw [hx]; rfl
                exact ⟨us, q1, q2, ⟨u, q3, jV.2 k1, by rw [← F2]; exact q4⟩, q5⟩
              · cases dx
          · cases bc
        · rename_i y d;split at bc
          · rename_i sc r' gS uF Vx dx;cases uG : Nat.blt d Γ.n with
            | false => simp [uG] at bc
            | true =>
              simp only [uG, cond_true] at bc;have R7 : d < Γ.n := abM uG;injection bc with bc; injection bc with h1 h2
              subst h1; subst h2;refine fin cf (fun v w' β' p2 p1 p3 p4 p5 => ?_) hk;have hh := hr.Kd zM r8 Er IS (sout := sout) d2 Ok p1 p2 (fun y sc hy => ⟨Pz y sc hy, (p3.1 y sc hy).1, fun b hb => ((p3.1 y sc hy).2 b hb).2⟩) (fun b hb => .inl hb) (fun b hb => hb.imp id (fun h => h.1));have Vy : ¬ bz (jE σ sout (cm (givenBy σ) s).aP) d := fun h => by have := r8 _ (jV.1 h);unfold bz at this; rw [uF] at this; cases this
              have ZJ : ¬ bz (lf s.aP σ) y := fun h => by obtain ⟨Vt, MZ⟩ := abP.1 h;obtain ⟨x, g1, _⟩ := nk d2 σ (fun p hp => hp) y Vt MZ;rw [Vx] at g1; cases g1
              have ZK : bz sout y := by unfold bz; rw [gS]; rfl
              have qX : d < 999999 := ac4 R7 Γ.small;have kU := hh.site (d := d) (sc := sc) qX Vy (fun h => absurd (hs d h) (acT R7)) (β' := fun z => if z = d then β' y else β z) (fun r nZ => by simp [nZ]) (fun b hb => by
                have hb : β' y = some b := by simpa using hb
                rcases p5 y b ZK ZJ hb with hf | hf
                · refine ⟨hf.2, ((p3.1 y sc gS).2 b hb).2, .inl (abZ hr.aW.size hf.1), fun x hx Gu => ?_⟩;have := hr.lb x b (r8 _ (jV.1 hx)) Gu;have := hf.1; omega
                · obtain ⟨q1, q2, q3⟩ := hr.given r8 Er IS d2 hf;exact ⟨ac4 q2 p2.size, ((p3.1 y sc gS).2 b hb).2, q1, fun x hx Gu => q3 x (jV.1 hx) Gu⟩) ((p3.1 y sc gS).1.closed (Pz y sc gS) (by simp) (fun _ h => h))
              refine ⟨_, _, kU.put (eO d1) ?_⟩;have key : ∀ z x, (bif Nat.beq y z then some d else ek σ z) = some x → bz sout z → bz ((d, sc) :: jE σ sout (cm (givenBy σ) s).aP) x ∧ (fun z => if z = d then β' y else β z) x = β' z := by
                intro z x Ol M1;cases hb : Nat.beq y z with
                | true =>
                  have : y = z := abO hb;subst this;simp only [hb, cond_true] at Ol;injection Ol with Ol; subst Ol
                  exact ⟨(ei qX).2 (.inl rfl), by simp⟩
                | false =>
                  simp only [hb, cond_false] at Ol;have hm := fZ Ol;obtain ⟨_, _, Vt, MZ, _⟩ := eZ d2 hm;obtain ⟨k1, k2⟩ := mq x z Ol M1 (by intro h; have : y = z := abO h; subst this; simp at hb);have nZ : x ≠ d := fun e => by subst e; rw [uF] at MZ; cases MZ
                  refine ⟨(ei qX).2 (.inr (jV.2 k1)), ?_⟩;simp only [if_neg nZ];rw [p1 z (iQ d2 σ (fun p hp => hp) x z hm) k2]; unfold βX; rw [Ol]; rfl
              cases r with
              | pv p => injection dx with dx; subst dx; exact p4
              | mC c => injection dx with dx; subst dx; exact p4
              | dead => cases dx
              | ig _ _ _ => cases dx
              | mE _ _ => cases dx
              | lz _ => cases dx
              | iu _ _ _ => cases dx
              | cM _ _ _ => cases dx
              | ptr z off =>
                simp only [sy] at dx;split at dx
                · rename_i x hx;injection dx with dx; subst dx
                  obtain ⟨M1, p4⟩ := p4;obtain ⟨k1, k2⟩ := key z x hx M1;exact ⟨k1, by rw [k2]; exact p4⟩
                · cases dx
              | mD g z =>
                simp only [sy] at dx;split at dx
                · rename_i x hx;injection dx with dx; subst dx
                  obtain ⟨M1, p4⟩ := p4;obtain ⟨k1, k2⟩ := key z x hx M1;exact ⟨k1, by rw [k2]; exact p4⟩
                · cases dx
              | row z off len sz =>
                simp only [sy] at dx;split at dx
                · rename_i x hx;injection dx with dx; subst dx
                  obtain ⟨M1, p4⟩ := p4;obtain ⟨k1, k2⟩ := key z x hx M1;exact ⟨k1, by rw [k2]; exact p4⟩
                · cases dx
              | jA z off len sz ps =>
                simp only [sy] at dx;split at dx
                · rename_i x hx;injection dx with dx; subst dx
                  obtain ⟨us, q1, q2, ⟨u, q3, M1, q4⟩, q5⟩ := p4;obtain ⟨k1, k2⟩ := key z x hx M1;exact ⟨us, q1, q2, ⟨u, q3, k1, by rw [k2]; exact q4⟩, q5⟩
                · cases dx
          · cases bc
    · cases bc
  · cases bc
end
end Go.Proofs.YtneklnlpgfeplaaGreat.Sym
