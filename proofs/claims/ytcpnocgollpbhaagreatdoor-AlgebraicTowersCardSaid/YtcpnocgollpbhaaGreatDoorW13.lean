/- Lemmas for the statements of this seat. -/
import Derived.Test.YtcpnocgollpbhaaGreatDoorW12
namespace Go.Proofs.YtcpnocgollpbhaaGreatDoor.Sym
open Go Go.RowKit
section
variable {P:Program} {T:lh} {Γ:Ctx} {s s':St} {a:Act} {w:World} {β:Nat→Option Nat} {I:Nat→Prop} {o:Oper} {h:Hint} {ob:List Prop}
theorem Nd {f : FuncId} (hc : mv P f) {args : Array Operand} {OH : Array TypeId} (v7 : o.op = .call ⟨.value (.func f), args, OH⟩) : (execOp a.eval o).run P w = .ok (.enter f (args.map a.eval)) w := by
  obtain ⟨fn, h1, h2, h3⟩ := hc;have hb : fn.body ≠ none := by intro e; rw [e] at h2; cases h2
  have OE : fn.name ≠ "runtime.NumGoroutine" := by simpa using h3
  simp [execOp, v7, resolve, Act.eval, Deferred.ofValue, invoke, callFunc, h1, OE, hb]
def oH(env:Env):List Operand→Option (List PV)
 |[]=>some []
 |x::r=>match dA env x,oH env r with
  |some (.pv p),some ps=>some (p::ps)
  |_,_=>none
theorem AK(hr:dz Γ s a w β I):∀(xs:List Operand) (ps:List PV),oH s.env xs=some ps→xs.length=ps.length∧∀(j:Nat) p x,ps[j]? = some p→xs[j]? = some x→Rd I w p (a.eval x)
 |[],ps,h=>by injection h with h;subst h;exact⟨rfl,fun j p x hp=>by simp at hp⟩
 |x::r,ps,h=>by
  unfold oH at h;split at h
  ·rename_i p qs hx hq;injection h with h;subst h
   obtain⟨h1,h2⟩:=AK hr r qs hq;refine⟨by simp[h1],fun j q y hj hy => ?_⟩;cases j with
   |zero=>simp at hj hy;subst hj hy;exact hr.HI x _ hx
   |succ j=>exact h2 j q y (by simpa using hj) (by simpa using hy)
  ·cases h
def um(P:Program)(n:Nat)(o:Oper)(h:Hint)(s:St):Option (St×List Prop) :=
 match o.op,h with
 |.call c,.pv r=>match c.callee,oH s.env c.args.toList with
  |.value (.func f),some ps=>bif l7 n o.dst then some (⟨pF s.env o.dst (.pv r),s.aK⟩,[eM P f ps r]) else none
  |_,_=>none
 |_,_=>none
theorem vk(β:Nat→Option Nat)(I:Nat→Prop)(w:World):xX β I w [] :=
 ⟨fun r sc h=>(by rw[aT.get_nil] at h;cases h),fun r r' b h=>absurd h qK⟩
theorem Nf(hr:dz Γ s a w β I){f:FuncId}{ps:List PV}{r:PV}{vs:Array Value}(hc:eM P f ps r)(hl:vs.size=ps.length)(hv:∀(j:Nat) p v,ps[j]? = some p→vs[j]? = some v→Rd I w p v) :
  Calls P f vs w fun e w'=>∃v,e = .returned v∧Eu w.heap.size w w'∧Rd (fun b=>I b∨fresh w w' b) w' r v:=by
 refine(hc.2 I w β vs hr.ib (vk _ _ _) (by simp[hl]) (fun j e v he HJ => ?_) hr.lay.nil).mono fun e w' hp => ?_
 ·rw[afu] at he;cases hj:ps[j]? with
  |none=>simp[hj] at he
  |some p =>simp[hj] at he;subst he;exact hv j p v hj HJ
 ·obtain⟨v,β',rfl,_,hk,_,Tj,_⟩:=hp;have BL:∀x,¬bK [] x:=fun x h=>by exact qK h
  refine⟨v,rfl,⟨⟨hk.os,hk.tape,hk.output,hk.size,fun k Nc=>hk.block k Nc (fun ⟨x,hx,_⟩=>BL x hx)⟩,hk.drawn⟩,?_⟩;exact Rd.mono (I:=fun b=>I b∨((fresh w w' b∨Na [] β b)∧∀x,bK [] x→β' x≠some b)) Tj (fun b hb=>hb.imp id (fun h=>h.1.elim id (fun ⟨x,_,hx,_⟩=>absurd hx (BL x)))) (fun _ _ _=>rfl)
theorem uo(hr:Rel Γ s a w)(aO:um P Γ.n o h s=some (s',ob))(cv:dX ob){K:Act→World→Prop}{Q:Exit→Act→World→Prop}
  (hk:∀a' w',Rel Γ s' a' w'→K a' w'):o.wp P a w K Q:=by
 obtain⟨β,I,hr⟩:=hr;unfold um at aO;split at aO
 ·rename_i c r v7;split at aO
  ·rename_i f ps sF o0;cases hd:l7 Γ.n o.dst with
   |false=>simp[hd] at aO
   |true =>
    simp only[hd,cond_true] at aO;injection aO with aO;injection aO with h1 h2
    subst h1;subst h2;have hc:eM P f ps r:=cv;obtain⟨cl,args,OH⟩:=c;have sF:cl = .value (.func f):=sF;subst sF;obtain⟨hl,vY⟩:=AK hr args.toList ps o0;unfold Oper.wp;rw[Nd hc.1 v7];rw[Oper.upon_enter];refine(Nf hr hc (vs:=args.map a.eval) (by simpa using hl) (fun j p v hp hv => ?_)).mono fun e w' Cw => ?_
    ·simp only[Array.getElem?_map] at hv;cases hx:args[j]? with
     |none=>simp[hx] at hv
     |some x =>simp[hx] at hv;subst hv;exact vY j p x hp (by simpa using hx)
    ·obtain⟨v,rfl,hb,Tj⟩:=Cw;exact hk _ _ ⟨β,_,(hr.grow hb (fun b h => .inl h) (fun b h=>h)).put (fo hd) Tj⟩
  ·cases aO
 ·cases aO
theorem dz.UG(h:dz Γ s a w β I){t:Nat}{e:EV}(he:RE β (bK s.aK) I w e (a.tmps.getD t undef)):dz Γ ⟨(t,e)::s.env,s.aK⟩ a w β I:=by
 refine⟨fun t' e' iu => ?_,h.aK,h.par,h.new,h.ib,h.ii,h.aG,h.size,h.defers⟩;have iu:Env.get ((t,e)::s.env) t'=some e':=iu;simp only[Env.get] at iu;cases hb:Nat.beq t t' with
 |true =>
  have:t=t':=afB hb;subst this;simp only[hb,cond_true] at iu;injection iu with iu;subst iu
  exact he
 |false =>simp only[hb,cond_false] at iu;exact h.env t' e' iu
theorem dz.W0(h:dz Γ s a w β I){b:Nat}(hb:b<w.heap.size)(hw:Γ.Nw b)(hs:∀x,bK s.aK x→β x≠some b):dz Γ s a w β (fun x=>I x∨x=b):=by
 refine⟨fun t e he=>(h.env t e he).mono (fun _ _=>rfl) (fun _ h=>h) (fun _ h => .inl h) (fun _ _ _=>rfl) (fun _ _ _ _=>rfl),⟨fun r sc hr => ?_,h.aK.2⟩,h.par,h.new,fun x hx => ?_,fun x hx => ?_,h.aG,h.size,h.defers⟩
 ·obtain⟨g1,g2⟩:=h.aK.1 r sc hr;have zH:bK s.aK r:=by unfold bK;rw[hr];rfl
  refine⟨g1.mono rfl (fun _ _=>rfl) (fun _ _=>rfl) (fun _ h=>h) (fun _ h => .inl h) (fun _ _ _=>rfl) (fun _ _ _ _=>rfl),fun b' fG=>⟨(g2 b' fG).1,fun hx => ?_⟩⟩;rcases hx with hx|hx
  ·exact(g2 b' fG).2 hx
  ·subst hx;exact hs r zH fG
 ·rcases hx with hx|hx
  ·exact h.ib x hx
  ·subst hx;exact hb
 ·rcases hx with hx|hx
  ·exact h.ii x hx
  ·subst hx;exact .inr (hw.imp (fun h=>⟨h,hb⟩) id)
theorem CJ{L:Nat→Prop}{r len sz:Nat}{v:Value}{ps:List PV}{xs:List (List PV)}(hv:RE β L I w (.row r 0 len sz) v)(Ly:RB β L I w r (ps.map EV.pv))(h1:len=xs.length)(h2:ps=xs.flatten)
  (h3:∀row∈xs,row.length=sz) {I':Nat→Prop} (hI:∀b,I b→I' b) (Zw:∀b,β r=some b→I' b):Rd I' w (.list xs) v:=by
 obtain⟨_,⟨_,rfl,rfl⟩|⟨b,c,hb,rfl,hc,_⟩⟩:=hv
 ·have:xs=[]:=afr h1.symm;subst this;exact .nil _ _
 ·obtain⟨arr,el,hg,_,Br⟩:=wV Ly hb;subst h1;subst h2;have key:∀(i j:Nat) row x,xs[i]? = some row→row[j]? = some x→∃u,arr[i*sz+j]? = some u∧u.oneCell'=true∧Rd I w x u:=fun i j row x hi hj=>Br _ x (zC h3 hi hj)
  refine .list xs b 0 c sz (fun i j=>arr.getD (i*sz+j) undef) hc (Zw b hb) (fun i row hi=>h3 row (afx hi)) (fun i j row x hi hj => ?_) (fun i j row x hi hj => ?_)
  ·obtain⟨u,g1,g2,g3⟩:=key i j row x hi hj;refine⟨PV.l5 g3 g2,?_⟩;rw[agl,cell_of_row w b _ arr el (0,0) hg,g1];simp[Array.getD_eq_getD_getElem?,g1]
  ·obtain⟨u,g1,g2,g3⟩:=key i j row x hi hj;simp only[Array.getD_eq_getD_getElem?,g1,Option.getD_some];exact g3.mono hI (fun _ _ _=>rfl)
def BM(n t:Nat)(xs:List (List PV))(s:St):Option (St×List Prop) :=
 match s.env.get t with
 |some (.row r 0 len sz)=>match s.aK.get r with
  |some (.pure ps)=>bif Nat.blt r n&&Nat.blt t n then some (⟨(t,.pv (.list xs))::(kill r s).env,(kill r s).aK⟩,[len=xs.length,ps=xs.flatten,∀row∈xs,row.length=sz]) else none
  |_=>none
 |_=>none
theorem wk(hs:∀r,bK Γ.sin r→Γ.n≤r){t:Nat}{xs:List (List PV)}(hr:Rel Γ s a w)(aO:BM Γ.n t xs s=some (s',ob))(cv:dX ob):Rel Γ s' a w:=by
 obtain⟨β,I,hr⟩:=hr;unfold BM at aO;split at aO
 ·rename_i r len sz he;split at aO
  ·rename_i ps o0;cases hb:(Nat.blt r Γ.n&&Nat.blt t Γ.n) with
   |false=>simp[hb] at aO
   |true =>
    simp only[hb,cond_true] at aO;simp only[Bool.and_eq_true] at hb;have RO:r<Γ.n:=afv hb.1;injection aO with aO;injection aO with h1 h2
    subst h1;subst h2;obtain⟨g1,cv⟩:=cv.cons;obtain⟨g2,g3⟩:=cv.cons;have hv:=hr.env t _ he;have Ly:=(hr.aK.1 r _ o0).1;have zH:bK s.aK r:=by unfold bK;rw[o0];rfl
    have Ie:¬bK Γ.sin r:=fun h=>absurd (hs r h) (ahf RO)
    cases oQ:β r with
    |none=>exact⟨β,I,(hr.kill r).UG (CJ hv Ly g1 g2 g3 (fun _ h=>h) (fun b fG=>by rw[oQ] at fG;cases fG))⟩
    |some b =>have hk:=(hr.kill r).W0 (b:=b) ((hr.aK.1 r _ o0).2 b oQ).1 (hr.new r b zH (.inl Ie) oQ) (fun x hx e=>(fk.1 hx).2 (hr.aK.2 x r b (fk.1 hx).1 zH e oQ));exact⟨β,_,hk.UG (CJ hv Ly g1 g2 g3 (fun _ h => .inl h) (fun b' fG=>by rw[oQ] at fG;injection fG with fG;exact .inr fG.symm))⟩
  ·cases aO
 ·cases aO
def OX(s:St)(o:Oper):Option St :=
 match o.op with
 |.call c=>match c.args.toList with
  |x::_=>match dA s.env x with
   |some (.row r _ len sz)=>match s.aK.get r with
    |some (.pure ps)=>some ⟨s.env,aT.set s.aK r (.pure (ps.take (len*sz)))⟩
    |_=>none
   |_=>none
  |_=>none
 |_=>none
theorem Im{s1:St}(hr:Rel Γ s a w)(h:OX s o=some s1):Rel Γ s1 a w:=by
 unfold OX at h;split at h
 ·split at h
  ·split at h
   ·split at h
    ·rename_i o0;injection h with h;subst h
     exact hr.cut o0
    ·cases h
   ·cases h
  ·cases h
 ·cases h
def CK(T:lh)(n:Nat)(o:Oper)(h:Hint)(s:St):Option (St×List Prop) :=
 match h with
 |.fj l _ xs=>match x8 T n o (.app l xs.flatten) s,o.dst with
  |some (s1,Od),some d=>match BM n d xs s1 with
   |some (s2,ob2)=>some (s2,Od++ob2)
   |none=>none
  |_,_=>none
 |.row l out=>match OX s o with
  |some s1=>x6 Kk T n o (.app l out) s1
  |none=>none
 |_=>x8 T n o h s
theorem CL(hT:oE P T)(hs:∀r,bK Γ.sin r→Γ.n≤r)(hr:Rel Γ s a w)(aO:CK T Γ.n o h s=some (s',ob))(cv:dX ob){K:Act→World→Prop}{Q:Exit→Act→World→Prop}
  (hk:∀a' w',Rel Γ s' a' w'→K a' w'):o.wp P a w K Q:=by
 unfold CK at aO;split at aO
 ·rename_i l u xs;split at aO
  ·rename_i s1 Od d h1 hd;split at aO
   ·rename_i s2 ob2 h2;injection aO with aO;injection aO with e1 e2
    subst e1;subst e2;obtain⟨g1,g2⟩:=cv.app;exact uk hT hs hr h1 g1 (fun a' w' dS=>hk a' w' (wk hs dS h2 g2))
   ·cases aO
  ·cases aO
 ·rename_i l out;split at aO
  ·rename_i s1 h1;exact uj (fun hr=>RQ hr) hT hs (Im hr h1) aO cv hk
  ·cases aO
 ·exact uk hT hs hr aO cv hk
def assoc:List (Nat×Nat)→Nat→Option Nat
 |[],_=>none
 |(x',y)::r,x=>bif Nat.beq x' x then some y else assoc r x
def lO:List (Nat×Nat)→Nat→Option Nat
 |[],_=>none
 |(x,y')::r,y=>bif Nat.beq y' y then some x else lO r y
def zP:Option Nat→Nat→Bool
 |some x,y=>Nat.beq x y
 |none,_=>false
def ke:SC→Bool
 |.pure _=>true
 |.lit cs=>cs.all fun | .pv _=>true|_=>false
 |_=>false
def nE(aK:aT)(σ:List (Nat×Nat)):Bool :=
 σ.all fun p=>(Nat.blt p.1 999999&&Nat.blt p.2 999999)&&zP (assoc σ p.1) p.2&&zP (lO σ p.2) p.1&&(match aK.get p.1 with
  |some sc=>ke sc
  |none=>false)
def mz(aK:aT):List (Nat×Nat)→aT
 |[]=>[]
 |(x,y)::σ=>match aK.get x with
  |some sc=>(y,sc)::mz aK σ
  |none=>mz aK σ
def mA(σ:List (Nat×Nat))(sout:aT):aT→aT
 |[]=>[]
 |(x,sc)::aK=>(x,bif Nat.blt x 999999 then (match assoc σ x with
  |some y=>match aT.get sout y with
   |some sc'=>sc'
   |none=>sc
  |none=>sc) else sc)::mA σ sout aK
def wb(σ:Nat→Option Nat):EV→Option EV
 |.pv p=>some (.pv p)
 |.ptr x o=>match σ x with
  |some y=>some (.ptr y o)
  |none=>none
 |.row x o l z=>match σ x with
  |some y=>some (.row y o l z)
  |none=>none
 |.oY c=>some (.oY c)
 |.oZ x o l z ps=>match σ x with
  |some y=>some (.oZ y o l z ps)
  |none=>none
 |.BI f x=>match σ x with
  |some y=>some (.BI f y)
  |none=>none
 |.dead=>none
 |.jB .. => none
 |.oD .. => none
 |.nC .. => none
def Io(nx:Bool)(env:Env)(x:Operand):Option EV :=
 match nx,x with
 |true,.const (.slice none 0 0)=>some (.pv .ek)
 |_,x=>dA env x
def W1:EV→Bool
 |.oZ .. => true
 |.row .. => true
 |_=>false
theorem dz.evX(hr:dz Γ s a w β I)(nx:Bool)(x:Operand)(e:EV)(h:Io nx s.env x=some e):RE β (bK s.aK) I w e (a.eval x):=by
 unfold Io at h;split at h
 ·injection h with h;subst h;exact Rd.ek
 ·exact hr.HI x e h
def E9(nx:Bool)(env:Env)(σ:Nat→Option Nat):List Operand→Option (List EV)
 |[]=>some []
 |x::r=>match Io nx env x,E9 nx env σ r with
  |some e,some es=>match wb σ e with
   |some e'=>some (e'::es)
   |none=>none
  |_,_=>none
def RS(σ:Nat→Option Nat)(env:Env):Operand→Option (FuncId×List EV)
 |.func f=>some (f,[])
 |x=>match dA env x with
  |some (.BI f r)=>match σ r with
   |some y=>some (f,[.ptr y 0])
   |none=>none
  |some (.pv (.fn f))=>some (f,[])
  |_=>none
def fR:List Nat→St→St
 |[],s=>s
 |r::rs,s=>fR rs (kill r s)
theorem dz.fR:∀(rs:List Nat) {s:St},dz Γ s a w β I→dz Γ (fR rs s) a w β I
 |[],_,h=>h
 |r::rs,_,h=>dz.fR rs (h.kill r)
theorem qM:∀(rs:List Nat) {s:St} {x:Nat},bK (fR rs s).aK x↔bK s.aK x∧x ∉ rs
 |[],s,x=>by simp[fR]
 |r::rs,s,x=>by show bK (fR rs (kill r s)).aK x↔_;rw[qM rs];show bK (dG r s.aK) x∧_↔_;rw[fk];simp only[List.mem_cons,not_or,and_assoc]
def wo(x:Nat):Bool:=Nat.ble 200000 x
def givenBy(σ:List (Nat×Nat)):List Nat:=(σ.filter fun p=>wo p.2).map (·.1)
def sf (P : Program) (n : Nat) (o : Oper) (h : Hint) (s : St) : Option (St × List Prop) :=
  match o.op, h with
  | .call c, .bJ σ nw r sout => match c.callee with
    | .value g => match RS (assoc σ) s.env g, E9 (W1 r) s.env (assoc σ) c.args.toList with
     | some (f, ex), some es => bif l7 n o.dst && nE s.aK σ && σ.all (fun p => bif wo p.2 then Nat.blt p.1 n else (aT.get sout p.2).isSome) && sout.all (fun p => Nat.blt p.1 999999 && ke p.2 && (((lO σ p.1).isSome && !wo p.1) || zP (nw.map (·.1)) p.1)) then
        match nw with
        | none => match wb (lO σ) r with
          | some r' => some (⟨pF (fR (givenBy σ) s).env o.dst r', mA σ sout (fR (givenBy σ) s).aK⟩, [au P f (es ++ ex) (mz s.aK σ) r sout])
          | none => none
        | some (y, d) => match aT.get sout y, s.aK.get d, lO σ y, wb (fun z => bif Nat.beq y z then some d else lO σ z) r with
          | some sc, none, none, some r' => bif Nat.blt d n then some (⟨pF (fR (givenBy σ) s).env o.dst r', (d, sc) :: mA σ sout (fR (givenBy σ) s).aK⟩, [au P f (es ++ ex) (mz s.aK σ) r sout]) else none
          | _, _, _, _ => none
      else none
     | _, _ => none
    | _ => none
  | _, _ => none
theorem jN:∀{σ:List (Nat×Nat)} {x y:Nat},assoc σ x=some y→(x,y)∈σ
 |[],x,y,h=>by cases h
 |(x',y')::r,x,y,h=>by
  simp only[assoc] at h;cases hb:Nat.beq x' x with
  |true =>have:x'=x:=afB hb;subst this;simp only[hb,cond_true] at h;injection h with h;subst h;simp
  |false =>simp only[hb,cond_false] at h;exact ag9 _ (jN h)
theorem kf:∀{σ:List (Nat×Nat)} {x y:Nat},lO σ y=some x→(x,y)∈σ
 |[],x,y,h=>by cases h
 |(x',y')::r,x,y,h=>by
  simp only[lO] at h;cases hb:Nat.beq y' y with
  |true =>have:y'=y:=afB hb;subst this;simp only[hb,cond_true] at h;injection h with h;subst h;simp
  |false =>simp only[hb,cond_false] at h;exact ag9 _ (kf h)
theorem aT.x9:∀{aK:aT} {y:Nat} {sc:SC},aT.eF aK y=some sc→(y,sc)∈aK
 |[],y,sc,h=>by cases h
 |(y',sc')::r,y,sc,h=>by
  simp only[aT.eF] at h;cases hb:Nat.beq y' y with
  |true =>have:y'=y:=afB hb;subst this;simp only[hb,cond_true] at h;injection h with h;subst h;simp
  |false =>simp only[hb,cond_false] at h;exact ag9 _ (aT.x9 h)
theorem aT.get_mem{aK:aT}{y:Nat}{sc:SC}(h:aT.get aK y=some sc):(y,sc)∈aK∨(1000000≤y∧∃xs,(999999,SC.heap xs)∈aK):=by
 rcases HX y with hy|rfl|⟨j,rfl⟩
 ·rw[aT.lM hy] at h;exact .inl (aT.x9 h)
 ·rw[aT.iC] at h;cases h
 ·right;refine⟨by unfold hc;omega,?_⟩;rw[aT.mm] at h;unfold aT.hp at h;split at h
  ·rename_i xs hg;exact⟨xs,aT.x9 hg⟩
  ·simp[sL] at h
theorem aT.Ip{aK:aT}(Ng:∀p∈aK,p.1<999999){y:Nat}{sc:SC}(h:aT.get aK y=some sc):(y,sc)∈aK:=by
 rcases aT.get_mem h with h|⟨_,xs,h⟩
 ·exact h
 ·have:=Ng _ h;simp at this
theorem zQ{o:Option Nat}{y:Nat}(h:zP o y=true):o=some y:=by
 cases o with
 |none=>cases h
 |some x=>rw[afB h]
theorem zR{aK:aT}{σ:List (Nat×Nat)}(h:nE aK σ=true){x y:Nat}(hm:(x,y)∈σ):x<999999∧y<999999:=by unfold nE at h;rw[agb] at h;have:=h (x,y) hm;simp only[Bool.and_eq_true] at this;exact⟨afv this.1.1.1.1,afv this.1.1.1.2⟩
theorem eZ{aK:aT}{σ:List (Nat×Nat)}(h:nE aK σ=true){x y:Nat}(hm:(x,y)∈σ) :
  assoc σ x=some y∧lO σ y=some x∧∃sc,aK.get x=some sc∧ke sc=true:=by
 unfold nE at h;rw[agb] at h;have:=h (x,y) hm;simp only[Bool.and_eq_true] at this;obtain⟨⟨⟨_,h1⟩,h2⟩,h3⟩:=this;refine⟨zQ h1,zQ h2,?_⟩;split at h3
 ·rename_i sc pk;exact⟨sc,pk,h3⟩
 ·cases h3
theorem n7{aK:aT}{σ0:List (Nat×Nat)}(pI:nE aK σ0=true):∀(σ:List (Nat×Nat)),(∀p∈σ,p∈σ0)→∀(y:Nat) sc,(mz aK σ).get y=some sc→∃x,lO σ0 y=some x∧assoc σ0 x=some y∧aK.get x=some sc
 |[],_,y,sc,h=>by rw[mz,aT.get_nil] at h;cases h
 |(x,y')::σ,hm,y,sc,h=>by
  obtain⟨g1,g2,LC,g3,_⟩:=eZ pI (hm (x,y') (by simp));simp only[mz,g3] at h;rw[aT.lj (zR pI (hm (x,y') (by simp))).2] at h;cases hb:Nat.beq y' y with
  |true =>
   have:y'=y:=afB hb;subst this;simp only[hb,cond_true] at h;injection h with h;subst h
   exact⟨x,g2,g1,g3⟩
  |false =>simp only[hb,cond_false] at h;exact n7 pI σ (fun p hp=>hm p (by simp[hp])) y sc h
theorem jD{aK:aT}{σ0:List (Nat×Nat)}(pI:nE aK σ0=true):∀(σ:List (Nat×Nat)),(∀p∈σ,p∈σ0)→∀x y,(x,y)∈σ→bK (mz aK σ) y
 |[],_,x,y,h=>by cases h
 |(x',y')::σ,hm,x,y,h=>by
  obtain⟨g1,g2,LC,g3,_⟩:=eZ pI (hm (x',y') (by simp));have hy9:=(zR pI (hm (x',y') (by simp))).2;simp only[mz,g3];rcases afY.1 h with h|h
  ·injection h with h1 h2;subst h2
   exact(dY hy9).2 (.inl rfl)
  ·exact(dY hy9).2 (.inr (jD pI σ (fun p hp=>hm p (by simp[hp])) x y h))
theorem ur(σ:List (Nat×Nat))(sout:aT):∀(aK:aT) (x:Nat),(mA σ sout aK).eF x=(aK.eF x).map (fun sc=>bif Nat.blt x 999999 then (match assoc σ x with
  |some y=>match aT.get sout y with
   |some sc'=>sc'
   |none=>sc
  |none=>sc) else sc)
 |[],x=>rfl
 |(x',sc)::aK,x=>by
  simp only[mA,aT.eF];cases hb:Nat.beq x' x with
  |true =>have:x'=x:=afB hb;subst this;rfl
  |false=>exact ur σ sout aK x
theorem CM(σ:List (Nat×Nat))(sout aK:aT)(x:Nat):(mA σ sout aK).get x=(aK.get x).map (fun sc=>bif Nat.blt x 999999 then (match assoc σ x with
  |some y=>match aT.get sout y with
   |some sc'=>sc'
   |none=>sc
  |none=>sc) else sc):=by
 rcases HX x with h|rfl|⟨j,rfl⟩
 ·rw[aT.lM h,aT.lM h,ur]
 ·rw[aT.iC,aT.iC];rfl
 ·rw[aT.mm,aT.mm,show Nat.blt (hc j) 999999=false from ah8.2 (fun h=>by have:=afv h;unfold hc at this;omega)];unfold aT.hp;rw[ur];cases aK.eF 999999 with
  |none=>simp[sL]
  |some sc =>
   simp only[Option.map_some,show Nat.blt 999999 999999=false from rfl,cond_false];cases sL (match some sc with
    |some (SC.heap xs)=>xs
    |_=>[]) j<;>rfl
theorem kB{σ:List (Nat×Nat)}{sout aK:aT}{x:Nat} : bK (mA σ sout aK) x↔bK aK x:=by unfold bK;rw[CM];simp
theorem EE{sc:SC}(h:ke sc=true):∀e∈sc.sG,∃p,e = .pv p:=by
 intro e he;cases sc with
 |pure ps =>obtain⟨p,_,rfl⟩:=agj.1 he;exact⟨p,rfl⟩
 |lit cs =>unfold ke at h;rw[agb] at h;have:=h e he;cases e<;>first|exact⟨_,rfl⟩|cases this
 |heap _=>cases h
 |J3 _ _=>cases h
 |J4 _ _=>cases h
theorem RB.closed{β β':Nat→Option Nat}{L L' I I':Nat→Prop}{w:World}{r r':Nat}{sc:SC}(hc:ke sc=true)(h:RB β L I w r sc.sG)(hb:β' r'=β r)(hI:∀b,I b→I' b):RB β' L' I' w r' sc.sG:=by
 rcases h with ⟨h1,h2⟩|⟨b,arr,el,h1,h2,h3⟩
 ·exact .inl ⟨hb.trans h1,h2⟩
 ·refine .inr ⟨b,arr,el,hb.trans h1,h2,fun j e he => ?_⟩;obtain⟨u,g1,g2,g3⟩:=h3 j e he;obtain⟨p,rfl⟩:=EE hc e (afx he);exact⟨u,g1,g2,Rd.mono g3 hI (fun _ _ _=>rfl)⟩
def βX(β:Nat→Option Nat)(σ:List (Nat×Nat))(y:Nat):Option Nat:=(lO σ y).bind β
theorem dz.given(hr:dz Γ s a w β I){σ:List (Nat×Nat)}{s1:St}(vj:∀x,bK s1.aK x→bK s.aK x)(HK:∀x y,bK s1.aK x→assoc σ x=some y→¬gv y)
  (OY:∀x y b,assoc σ x=some y→gv y→bK s.aK x→β x=some b→Γ.Nw b) (pI:nE s.aK σ=true) {b:Nat} (h:Na (mz s.aK σ) (βX β σ) b):Γ.Nw b∧b<w.heap.size∧∀x,bK s1.aK x→β x≠some b:=by
 obtain⟨y,hg,hy,Ke⟩:=h;obtain⟨sc,pk⟩:=afS.1 hy;obtain⟨x,g1,g2,g3⟩:=n7 pI σ (fun p hp=>hp) y sc pk;unfold βX at Ke;rw[g1] at Ke;have h2:bK s.aK x:=by unfold bK;rw[g3];rfl
 refine⟨OY x y b g2 hg h2 Ke,hr.lb x b h2 Ke,fun x' zt e => ?_⟩;have:=hr.aK.2 x x' b h2 (vj x' zt) Ke e;subst this;exact HK x y zt g2 hg
theorem dz.handed (hr : dz Γ s a w β I) {σ : List (Nat × Nat)} {s1 : St} (xP : dz Γ s1 a w β I) (vj : ∀ x, bK s1.aK x → bK s.aK x) (HK : ∀ x y, bK s1.aK x → assoc σ x = some y → ¬ gv y)
    (OY : ∀ x y b, assoc σ x = some y → gv y → bK s.aK x → β x = some b → Γ.Nw b) {sout : aT} {β' : Nat → Option Nat} {w' : World} {I' : Nat → Prop} (pI : nE s.aK σ = true) (zB : ∀ p ∈ σ, ¬ gv p.2 → bK sout p.2)
    (hb : ∀ y, bK (mz s.aK σ) y → ¬ gv y → β' y = βX β σ y) (hk : l6 (fun b => ∃ y, bK (mz s.aK σ) y ∧ βX β σ y = some b) w w')
    (OZ : ∀ y sc, aT.get sout y = some sc → ke sc = true ∧ RB β' (bK sout) I' w' y sc.sG ∧ ∀ b, β' y = some b → ¬ I' b) (hI1 : ∀ b, I b → I' b) (Zx : ∀ b, I' b → I b ∨ fresh w w' b ∨ Na (mz s.aK σ) (βX β σ) b) :
    dz Γ ⟨s1.env, mA σ sout s1.aK⟩ a w' β I' := by
  have qL : ∀ b y, bK (mz s.aK σ) y → βX β σ y = some b → ∃ x, assoc σ x = some y ∧ bK s.aK x ∧ β x = some b := by intro b y hy Ke;obtain ⟨sc, pk⟩ := afS.1 hy;obtain ⟨x, g1, g2, g3⟩ := n7 pI σ (fun p hp => hp) y sc pk;unfold βX at Ke;rw [g1] at Ke;exact ⟨x, g2, by unfold bK; rw [g3]; rfl, Ke⟩
  have hIM : ∀ b, I b → ¬ ∃ y, bK (mz s.aK σ) y ∧ βX β σ y = some b := by intro b hI ⟨y, hy, Ke⟩;obtain ⟨x, _, hd, Rn⟩ := qL b y hy Ke;obtain ⟨sc, pk⟩ := afS.1 hd;exact ((hr.aK.1 x sc pk).2 b Rn).2 hI
  have Zy : ∀ b, Na (mz s.aK σ) (βX β σ) b → Γ.Nw b ∧ b < w.heap.size ∧ ∀ x, bK s1.aK x → β x ≠ some b := fun b h => hr.given vj HK OY pI h
  have hw : ∀ b o, I b → w'.cell? ⟨b, o, none⟩ = w.cell? ⟨b, o, none⟩ := fun b o hI => iH (hk.block b (hr.ib b hI) (hIM b hI)) o
  have hL : ∀ x, bK s1.aK x → bK (mA σ sout s1.aK) x := fun x hx => kB.2 hx
  have E3 : ∀ r b, bK s1.aK r → β r = some b → w'.shape? b = w.shape? b := fun r b hd fG => hk.shape b (xP.lb r b hd fG)
  refine ⟨fun t e he => (xP.env t e he).mono (fun _ _ => rfl) hL hI1 hw E3, ⟨fun x sc hx => ?_, fun x y b hx hy => xP.aK.2 x y b (kB.1 hx) (kB.1 hy)⟩,
    fun x hx => xP.par x (kB.1 hx), fun x b hx => xP.new x b (kB.1 hx), fun b hI => ?_, fun b hI => ?_, ?_, xP.size, xP.defers⟩
  · have hx : (mA σ sout s1.aK).get x = some sc := hx;rw [CM] at hx;cases hg : s1.aK.get x with
    | none => rw [hg] at hx; cases hx
    | some LC =>
      rw [hg] at hx;simp only [Option.map_some, Option.some.injEq] at hx;obtain ⟨k1, k2⟩ := xP.aK.1 x LC hg;have JQ : bK s1.aK x := by unfold bK; rw [hg]; rfl
      have YL : Nat.blt x 999999 = false → assoc σ x = none := fun hb => by
        cases ha : assoc σ x with
        | none => rfl
        | some y => rw [show Nat.blt x 999999 = true from agR (zR pI (jN ha)).1] at hb; cases hb
      have hx : (match assoc σ x with
        | some y => match aT.get sout y with
          | some sc' => sc'
          | none => LC
        | none => LC) = sc := by
        cases hb : Nat.blt x 999999 with
        | true => rw [hb] at hx; exact hx
        | false => rw [hb] at hx; rw [YL hb]; exact hx
      cases ha : assoc σ x with
      | some y =>
        have hm := jN ha;have Tn := HK x y JQ ha;obtain ⟨_, hay, _⟩ := eZ pI hm;obtain ⟨sc', Nh⟩ := afS.1 (zB (x, y) hm Tn);simp only [ha, Nh] at hx;subst hx;obtain ⟨c1, c2, c3⟩ := OZ y sc' Nh;have Tm : β' y = β x := by rw [hb y (jD pI σ (fun p hp => hp) x y hm) Tn];unfold βX; rw [hay]; rfl
        exact ⟨c2.closed c1 Tm.symm (fun _ h => h), fun b fG => ⟨aga (k2 b fG).1 hk.size, c3 b (Tm.trans fG)⟩⟩
      | none =>
        simp only [ha] at hx;subst hx;refine ⟨k1.mono rfl (fun b fG => hk.block b (xP.lb x b JQ fG) (fun hM => ?_)) (fun _ _ => rfl) hL hI1 hw E3, fun b fG => ⟨aga (k2 b fG).1 hk.size, fun hI => ?_⟩⟩
        · obtain ⟨y2, Zz, ZA⟩ := hM;obtain ⟨x2, h1, h2, h3⟩ := qL b y2 Zz ZA;have := hr.aK.2 x x2 b (vj x JQ) h2 fG h3;subst this;rw [ha] at h1; cases h1
        · rcases Zx b hI with h | h | h
          · exact (k2 b fG).2 h
          · have := (k2 b fG).1; have := h.1; omega
          · exact (Zy b h).2.2 x JQ fG
  · rcases Zx b hI with h | h | h
    · exact aga (hr.ib b h) hk.size
    · exact h.2
    · exact aga (Zy b h).2.1 hk.size
  · rcases Zx b hI with h | h | h
    · rcases hr.ii b h with h3 | h3
      · exact .inl h3
      · exact .inr (h3.imp (fun h3 => ⟨h3.1, aga h3.2 hk.size⟩) id)
    · exact .inr (.inl ⟨afJ hr.aG.size h.1, h.2⟩)
    · obtain ⟨h1, h2, _⟩ := Zy b h;exact .inr (h1.imp (fun h1 => ⟨h1, aga h2 hk.size⟩) id)
  · refine hr.aG.trans hk (fun b dI hM => ?_);obtain ⟨y, hy, Ke⟩ := hM;obtain ⟨x, _, hd, Rn⟩ := qL b y hy Ke;by_cases Iq : bK Γ.sin x ∧ ¬ gv x
    · exact ⟨x, Iq.1, by rw [← hr.par x hd Iq.1 Iq.2]; exact Rn⟩
    · exact (hr.new x b hd (by by_cases h : bK Γ.sin x; · exact .inr (afE fun h2 => Iq ⟨h, h2⟩)
                               · exact .inl h) Rn).m dI
theorem CN(nx:Bool)(hr:dz Γ s a w β I){σ:List (Nat×Nat)}(pI:nE s.aK σ=true):∀(xs:List Operand) (es:List EV),E9 nx s.env (assoc σ) xs=some es→xs.length=es.length ∧
  ∀(j:Nat) e x,es[j]? = some e→xs[j]? = some x→RE (βX β σ) (bK (mz s.aK σ)) I w e (a.eval x)
 |[],es,h=>by injection h with h;subst h;exact⟨rfl,fun j p x hp=>by simp at hp⟩
 |x::r,es,h=>by
  unfold E9 at h;split at h
  ·rename_i e WA he N7;split at h
   ·rename_i e' iu;injection h with h;subst h
    obtain⟨h1,h2⟩:=CN nx hr pI r WA N7;refine⟨by simp[h1],fun j q y hj hy => ?_⟩;cases j with
    |zero =>
     simp at hj hy;subst hj hy;have hx:=hr.evX nx x _ he;cases e with
     |pv p=>injection iu with iu;subst iu;exact hx
     |oY c=>injection iu with iu;subst iu;exact hx
     |dead=>cases iu
     |jB _ _ _=>cases iu
     |oD _ _=>cases iu
     |nC _=>cases iu
     |ptr z off =>
      simp only[wb] at iu;split at iu
      ·rename_i y hy;injection iu with iu;subst iu
       have hm:=jN hy;obtain⟨_,hR,_⟩:=eZ pI hm;obtain⟨_,b,hb,hv⟩:=hx;exact⟨jD pI σ (fun p hp=>hp) z y hm,b,by unfold βX;rw[hR];exact hb,hv⟩
      ·cases iu
     |BI g z =>
      simp only[wb] at iu;split at iu
      ·rename_i y hy;injection iu with iu;subst iu
       have hm:=jN hy;obtain⟨_,hR,_⟩:=eZ pI hm;obtain⟨_,b,hb,hv⟩:=hx;exact⟨jD pI σ (fun p hp=>hp) z y hm,b,by unfold βX;rw[hR];exact hb,hv⟩
      ·cases iu
     |row z off len sz =>
      simp only[wb] at iu;split at iu
      ·rename_i y hy;injection iu with iu;subst iu
       have hm:=jN hy;obtain⟨_,hR,_⟩:=eZ pI hm;have Ro:βX β σ y=β z:=by unfold βX;rw[hR];rfl
       obtain⟨_,hx⟩:=hx;exact⟨jD pI σ (fun p hp=>hp) z y hm,by rw[Ro];exact hx⟩
      ·cases iu
     |oZ z off len sz ps =>
      simp only[wb] at iu;split at iu
      ·rename_i y hy;injection iu with iu;subst iu
       have hm:=jN hy;obtain⟨_,hR,_⟩:=eZ pI hm;have Ro:βX β σ y=β z:=by unfold βX;rw[hR];rfl
       obtain⟨us,g1,g2,⟨u,g3,_,g4⟩,g5⟩:=hx;exact⟨us,g1,g2,⟨u,g3,jD pI σ (fun p hp=>hp) z y hm,by rw[Ro];exact g4⟩,g5⟩
      ·cases iu
    |succ j=>exact h2 j q y (by simpa using hj) (by simpa using hy)
   ·cases h
  ·cases h
theorem Ni(hr:dz Γ s a w β I){σ:List (Nat×Nat)}(pI:nE s.aK σ=true){g:Operand}{f:FuncId}{ex:List EV}(h:RS (assoc σ) s.env g=some (f,ex)) :
  ∃cap:Array Value,a.eval g = .func (.func f) #[] cap∧ex.length=cap.size∧∀(j:Nat) e v,ex[j]? = some e→cap[j]? = some v→RE (βX β σ) (bK (mz s.aK σ)) I w e v:=by
 unfold RS at h;split at h
 ·rename_i f';injection h with h;injection h with h1 h2
  subst h1;subst h2;exact⟨#[],by simp[Act.eval],rfl,fun j e v he=>by simp at he⟩
 ·split at h
  ·rename_i f' r he;split at h
   ·rename_i y hy;injection h with h;injection h with h1 h2
    subst h1;subst h2;obtain⟨_,b,hb,hv⟩:=hr.HI g _ he;have hm:=jN hy;obtain⟨_,hR,_⟩:=eZ pI hm;refine⟨#[.pointer (some ⟨b,0,none⟩)],hv,rfl,fun j e v he hv => ?_⟩;cases j with
    |zero =>simp at he hv;subst he;subst hv;exact⟨jD pI σ (fun p hp=>hp) r y hm,b,by unfold βX;rw[hR];exact hb,rfl⟩
    |succ j=>simp at he
   ·cases h
  ·rename_i f' he;injection h with h;injection h with h1 h2
   subst h1;subst h2;have hv:Rd I w (.fn f') (a.eval g):=hr.HI g _ he;refine⟨#[],?_,rfl,fun j e v he=>by simp at he⟩;generalize a.eval g=v at hv;cases hv;rfl
  ·cases h
theorem Kl {f : FuncId} (hc : mv P f) {g : Operand} {cap : Array Value} (hv : a.eval g = .func (.func f) #[] cap) {args : Array Operand} {OH : Array TypeId} (v7 : o.op = .call ⟨.value g, args, OH⟩) :
    (execOp a.eval o).run P w = .ok (.enter f (args.map a.eval ++ cap)) w := by
  obtain ⟨fn, h1, h2, h3⟩ := hc;have hb : fn.body ≠ none := by intro e; rw [e] at h2; cases h2
  have OE : fn.name ≠ "runtime.NumGoroutine" := by simpa using h3
  simp [execOp, v7, resolve, hv, Deferred.ofValue, invoke, callFunc, h1, OE, hb]
theorem tK (hs : ∀ r, bK Γ.sin r → Γ.n ≤ r) (hr : Rel Γ s a w) (aO : sf P Γ.n o h s = some (s', ob)) (cv : dX ob) {K : Act → World → Prop} {Q : Exit → Act → World → Prop}
    (hk : ∀ a' w', Rel Γ s' a' w' → K a' w') : o.wp P a w K Q := by
  obtain ⟨β, I, hr⟩ := hr;unfold sf at aO;split at aO
  · rename_i c σ nw r sout v7;split at aO
    case h_2 => cases aO
    rename_i g sF;split at aO
    · rename_i f ex es hg N7;cases hd : (l7 Γ.n o.dst && nE s.aK σ && σ.all (fun p => bif wo p.2 then Nat.blt p.1 Γ.n else (aT.get sout p.2).isSome) && sout.all (fun p => Nat.blt p.1 999999 && ke p.2 && (((lO σ p.1).isSome && !wo p.1) || zP (nw.map (·.1)) p.1))) with
      | false => simp [hd] at aO
      | true =>
        simp only [hd, cond_true] at aO;simp only [Bool.and_eq_true] at hd;obtain ⟨⟨⟨d1, d2⟩, d3⟩, d4⟩ := hd;rw [agb] at d3 d4;obtain ⟨cl, args, OH⟩ := c;have sF : cl = .value g := sF;subst sF;obtain ⟨cap, ZB, ZC, UH⟩ := Ni hr d2 hg;obtain ⟨hl, vY⟩ := CN _ hr d2 args.toList es N7;have W2 : xX (βX β σ) I w (mz s.aK σ) := by
          refine ⟨fun y sc hy => ?_, fun y y' b hy JS h1 h2 => ?_⟩
          · obtain ⟨x, g1, g2, g3⟩ := n7 d2 σ (fun p hp => hp) y sc hy;obtain ⟨_, _, sc1, g4, g5⟩ := eZ d2 (kf g1);rw [g3] at g4; injection g4 with g4; subst g4
            have Ro : βX β σ y = β x := by unfold βX; rw [g1]; rfl
            obtain ⟨k1, k2⟩ := hr.aK.1 x sc g3;exact ⟨k1.closed g5 Ro (fun _ h => h), fun b hb => k2 b (Ro.symm.trans hb)⟩
          · obtain ⟨sc, pk⟩ := afS.1 hy;obtain ⟨sc', Nh⟩ := afS.1 JS;obtain ⟨x, g1, g2, g3⟩ := n7 d2 σ (fun p hp => hp) y sc pk;obtain ⟨x', O0, Ob, YM⟩ := n7 d2 σ (fun p hp => hp) y' sc' Nh;have e1 : β x = some b := by unfold βX at h1; rw [g1] at h1; exact h1
            have e2 : β x' = some b := by unfold βX at h2; rw [O0] at h2; exact h2
            have := hr.aK.2 x x' b (by unfold bK; rw [g3]; rfl) (by unfold bK; rw [YM]; rfl) e1 e2;subst this;rw [g2] at Ob; injection Ob with Ob
        have ZD : ue (mz s.aK σ) (βX β σ) w := hr.lay.sub (fun y b hy hb => by obtain ⟨sc, pk⟩ := afS.1 hy;obtain ⟨x, g1, g2, g3⟩ := n7 d2 σ (fun p hp => hp) y sc pk;exact ⟨x, by unfold bK; rw [g3]; rfl, by unfold βX at hb; rw [g1] at hb; exact hb⟩)
        have fin : ∀ (hc : au P f (es ++ ex) (mz s.aK σ) r sout) {s2 : St}, (∀ v w' β', l6 (fun b => ∃ y, bK (mz s.aK σ) y ∧ βX β σ y = some b) w w' → (∀ y, bK (mz s.aK σ) y → ¬ gv y → β' y = βX β σ y) →
              xX β' (fun b => I b ∨ ((fresh w w' b ∨ Na (mz s.aK σ) (βX β σ) b) ∧ ∀ x, bK sout x → β' x ≠ some b)) w' sout → RE β' (bK sout) (fun b => I b ∨ ((fresh w w' b ∨ Na (mz s.aK σ) (βX β σ) b) ∧ ∀ x, bK sout x → β' x ≠ some b)) w' r v →
              (∀ x b, bK sout x → ¬ bK (mz s.aK σ) x → β' x = some b → fresh w w' b ∨ Na (mz s.aK σ) (βX β σ) b) → Rel Γ s2 (a.put o.dst v) w') → (∀ a' w', Rel Γ s2 a' w' → K a' w') → o.wp P a w K Q := by
          intro hc s2 Km hk;unfold Oper.wp;rw [Kl hc.1 ZB v7];rw [Oper.upon_enter];have Gh : args.size = es.length := by simpa using hl
          refine (hc.2 I w (βX β σ) (args.map a.eval ++ cap) hr.ib W2 (by rw [afW, ahI, aj5, Gh, ZC]) (fun j e v he hv => ?_) ZD).mono fun e w' hp => ?_
          · by_cases hj : j < es.length
            · rw [ah0 hj] at he;rw [ain (by rw [aj5]; omega), aiA] at hv;cases hx : args[j]? with
              | none => simp [hx] at hv
              | some x =>simp [hx] at hv;subst hv;exact vY j e x he (by simpa using hx)
            · rw [agD (by omega)] at he;rw [Array.getElem?_append_right (by rw [aj5]; omega), aj5, Gh] at hv;exact UH _ e v he hv
          · obtain ⟨v, β', rfl, p1, p2, p3, p4, p5⟩ := hp;exact hk _ _ (Km v w' β' p2 p1 p3 p4 p5)
        have Ng : ∀ p ∈ sout, p.1 < 999999 := fun p hp => by have := d4 p hp;simp only [Bool.and_eq_true] at this;exact afv this.1.1
        have UI : ∀ y sc, aT.get sout y = some sc → ke sc = true := by
          intro y sc hy;obtain ⟨p, hp, h1⟩ : ∃ p ∈ sout, p.2 = sc := by exact ⟨(y, sc), aT.Ip Ng hy, rfl⟩
          have := d4 p hp;simp only [Bool.and_eq_true] at this;rw [← h1]; exact this.1.2
        have W3 : ∀ y, wo y = true ↔ gv y := fun y => ⟨afv, agR⟩
        have To : ∀ p ∈ σ, ¬ gv p.2 → bK sout p.2 := fun p hp hg => by have := d3 p hp;rw [ah8.2 (fun h => hg ((W3 _).1 h)), afP] at this;exact this
        have xP := hr.fR (givenBy σ);have vj : ∀ x, bK (fR (givenBy σ) s).aK x → bK s.aK x := fun x hx => ((qM _).1 hx).1
        have HK : ∀ x y, bK (fR (givenBy σ) s).aK x → assoc σ x = some y → ¬ gv y := fun x y hx ha hg => ((qM _).1 hx).2 (agj.2 ⟨(x, y), ahZ.2 ⟨jN ha, (W3 y).2 hg⟩, rfl⟩)
        have OY : ∀ x y b, assoc σ x = some y → gv y → bK s.aK x → β x = some b → Γ.Nw b := fun x y b ha hg JQ hb => by have := d3 _ (jN ha);rw [(W3 y).2 hg, afz] at this;exact hr.new x b JQ (.inl (fun h => absurd (hs x h) (ahf (afv this)))) hb
        have pG : ∀ x y, lO σ y = some x → bK sout y → ¬ zP (nw.map (·.1)) y = true → bK (fR (givenBy σ) s).aK x ∧ ¬ gv y := by
          intro x y hx hy fT;obtain ⟨sc, pk⟩ := afS.1 hy;have := d4 _ (aT.Ip Ng pk);simp only [Bool.and_eq_true, Bool.or_eq_true, Bool.not_eq_true'] at this;have Tn : ¬ gv y := fun hg => by
            rcases this.2 with h | h
            · rw [(W3 y).2 hg] at h; exact absurd h.2 (by simp)
            · exact fT h
          obtain ⟨e1, _, ZE, e2, _⟩ := eZ d2 (kf hx);refine ⟨(qM _).2 ⟨by unfold bK; rw [e2]; rfl, fun hm => ?_⟩, Tn⟩;obtain ⟨⟨x', y'⟩, ZF, W4⟩ := agj.1 hm;obtain ⟨hm3, hm4⟩ := ahZ.1 ZF;have W4 : x' = x := W4;subst W4;obtain ⟨e3, _⟩ := eZ d2 hm3;rw [e1] at e3; injection e3 with e3; subst e3
          exact Tn ((W3 _).1 hm4)
        split at aO
        · split at aO
          · rename_i r' dS;injection aO with aO; injection aO with h1 h2
            subst h1; subst h2;refine fin cv (fun v w' β' p2 p1 p3 p4 p5 => ?_) hk;have hh := hr.handed xP vj HK OY (sout := sout) d2 To p1 p2 (fun y sc hy => ⟨UI y sc hy, (p3.1 y sc hy).1, fun b hb => ((p3.1 y sc hy).2 b hb).2⟩) (fun b hb => .inl hb) (fun b hb => hb.imp id (fun h => h.1));refine ⟨β, _, hh.put (fo d1) ?_⟩;cases r with
            | pv p => injection dS with dS; subst dS; exact p4
            | oY c => injection dS with dS; subst dS; exact p4
            | dead => cases dS
            | jB _ _ _ => cases dS
            | oD _ _ => cases dS
            | nC _ => cases dS
            | ptr y off =>
              simp only [wb] at dS;split at dS
              · rename_i x hx;injection dS with dS; subst dS
                have hm := kf hx;obtain ⟨UJ, b, hb, hv⟩ := p4;obtain ⟨k1, k2⟩ := pG x y hx UJ (by simp [zP]);exact ⟨kB.2 k1, b, by rw [p1 y (jD d2 σ (fun p hp => hp) x y hm) k2] at hb; unfold βX at hb; rw [hx] at hb; exact hb, hv⟩
              · cases dS
            | BI g y =>
              simp only [wb] at dS;split at dS
              · rename_i x hx;injection dS with dS; subst dS
                have hm := kf hx;obtain ⟨UJ, b, hb, hv⟩ := p4;obtain ⟨k1, k2⟩ := pG x y hx UJ (by simp [zP]);exact ⟨kB.2 k1, b, by rw [p1 y (jD d2 σ (fun p hp => hp) x y hm) k2] at hb; unfold βX at hb; rw [hx] at hb; exact hb, hv⟩
              · cases dS
            | row y off len sz =>
              simp only [wb] at dS;split at dS
              · rename_i x hx;injection dS with dS; subst dS
                have hm := kf hx;obtain ⟨UJ, p4⟩ := p4;obtain ⟨k1, k2⟩ := pG x y hx UJ (by simp [zP]);have Ro : β' y = β x := by rw [p1 y (jD d2 σ (fun p hp => hp) x y hm) k2]; unfold βX; rw [hx]; rfl
                exact ⟨kB.2 k1, by rw [← Ro]; exact p4⟩
              · cases dS
            | oZ y off len sz ps =>
              simp only [wb] at dS;split at dS
              · rename_i x hx;injection dS with dS; subst dS
                have hm := kf hx;obtain ⟨us, q1, q2, ⟨u, q3, UJ, q4⟩, q5⟩ := p4;obtain ⟨k1, k2⟩ := pG x y hx UJ (by simp [zP]);have Ro : β' y = β x := by rw [p1 y (jD d2 σ (fun p hp => hp) x y hm) k2]; unfold βX; rw [hx]; rfl
                exact ⟨us, q1, q2, ⟨u, q3, kB.2 k1, by rw [← Ro]; exact q4⟩, q5⟩
              · cases dS
          · cases aO
        · rename_i y d;split at aO
          · rename_i sc r' pk wh hnR dS;cases wi : Nat.blt d Γ.n with
            | false => simp [wi] at aO
            | true =>
              simp only [wi, cond_true] at aO;have W5 : d < Γ.n := afv wi;injection aO with aO; injection aO with h1 h2
              subst h1; subst h2;refine fin cv (fun v w' β' p2 p1 p3 p4 p5 => ?_) hk;have hh := hr.handed xP vj HK OY (sout := sout) d2 To p1 p2 (fun y sc hy => ⟨UI y sc hy, (p3.1 y sc hy).1, fun b hb => ((p3.1 y sc hy).2 b hb).2⟩) (fun b hb => .inl hb) (fun b hb => hb.imp id (fun h => h.1));have ZG : ¬ bK (mA σ sout (fR (givenBy σ) s).aK) d := fun h => by have := vj _ (kB.1 h);unfold bK at this; rw [wh] at this; cases this
              have hyn : ¬ bK (mz s.aK σ) y := fun h => by obtain ⟨ZE, RT⟩ := afS.1 h;obtain ⟨x, g1, _⟩ := n7 d2 σ (fun p hp => hp) y ZE RT;rw [hnR] at g1; cases g1
              have hyd : bK sout y := by unfold bK; rw [pk]; rfl
              have tU : d < 999999 := aga W5 Γ.small;have qL := hh.site (d := d) (sc := sc) tU ZG (fun h => absurd (hs d h) (ahf W5)) (β' := fun z => if z = d then β' y else β z) (fun r fT => by simp [fT]) (fun b hb => by
                have hb : β' y = some b := by simpa using hb
                rcases p5 y b hyd hyn hb with hf | hf
                · refine ⟨hf.2, ((p3.1 y sc pk).2 b hb).2, .inl (afJ hr.aG.size hf.1), fun x hx Rn => ?_⟩;have := hr.lb x b (vj _ (kB.1 hx)) Rn;have := hf.1; omega
                · obtain ⟨q1, q2, q3⟩ := hr.given vj HK OY d2 hf;exact ⟨aga q2 p2.size, ((p3.1 y sc pk).2 b hb).2, q1, fun x hx Rn => q3 x (kB.1 hx) Rn⟩) ((p3.1 y sc pk).1.closed (UI y sc pk) (by simp) (fun _ h => h))
              refine ⟨_, _, qL.put (fo d1) ?_⟩;have key : ∀ z x, (bif Nat.beq y z then some d else lO σ z) = some x → bK sout z → bK ((d, sc) :: mA σ sout (fR (givenBy σ) s).aK) x ∧ (fun z => if z = d then β' y else β z) x = β' z := by
                intro z x Tp LD;cases hb : Nat.beq y z with
                | true =>
                  have : y = z := afB hb;subst this;simp only [hb, cond_true] at Tp;injection Tp with Tp; subst Tp
                  exact ⟨(dY tU).2 (.inl rfl), by simp⟩
                | false =>
                  simp only [hb, cond_false] at Tp;have hm := kf Tp;obtain ⟨_, _, ZE, RT, _⟩ := eZ d2 hm;obtain ⟨k1, k2⟩ := pG x z Tp LD (by intro h; have : y = z := afB h; subst this; simp at hb);have fT : x ≠ d := fun e => by subst e; rw [wh] at RT; cases RT
                  refine ⟨(dY tU).2 (.inr (kB.2 k1)), ?_⟩;simp only [if_neg fT];rw [p1 z (jD d2 σ (fun p hp => hp) x z hm) k2]; unfold βX; rw [Tp]; rfl
              cases r with
              | pv p => injection dS with dS; subst dS; exact p4
              | oY c => injection dS with dS; subst dS; exact p4
              | dead => cases dS
              | jB _ _ _ => cases dS
              | oD _ _ => cases dS
              | nC _ => cases dS
              | ptr z off =>
                simp only [wb] at dS;split at dS
                · rename_i x hx;injection dS with dS; subst dS
                  obtain ⟨LD, p4⟩ := p4;obtain ⟨k1, k2⟩ := key z x hx LD;exact ⟨k1, by rw [k2]; exact p4⟩
                · cases dS
              | BI g z =>
                simp only [wb] at dS;split at dS
                · rename_i x hx;injection dS with dS; subst dS
                  obtain ⟨LD, p4⟩ := p4;obtain ⟨k1, k2⟩ := key z x hx LD;exact ⟨k1, by rw [k2]; exact p4⟩
                · cases dS
              | row z off len sz =>
                simp only [wb] at dS;split at dS
                · rename_i x hx;injection dS with dS; subst dS
                  obtain ⟨LD, p4⟩ := p4;obtain ⟨k1, k2⟩ := key z x hx LD;exact ⟨k1, by rw [k2]; exact p4⟩
                · cases dS
              | oZ z off len sz ps =>
                simp only [wb] at dS;split at dS
                · rename_i x hx;injection dS with dS; subst dS
                  obtain ⟨us, q1, q2, ⟨u, q3, LD, q4⟩, q5⟩ := p4;obtain ⟨k1, k2⟩ := key z x hx LD;exact ⟨us, q1, q2, ⟨u, q3, k1, by rw [k2]; exact q4⟩, q5⟩
                · cases dS
          · cases aO
    · cases aO
  · cases aO
end
end Go.Proofs.YtcpnocgollpbhaaGreatDoor.Sym
