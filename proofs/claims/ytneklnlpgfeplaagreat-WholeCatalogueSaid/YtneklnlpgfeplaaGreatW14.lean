/- Lemmas for the statements of this seat. -/
import Derived.Test.YtneklnlpgfeplaaGreatW13
namespace Go.Proofs.YtneklnlpgfeplaaGreat.Sym
open Go Go.RowKit
section
variable {P:Program} {T:ja} {Γ:Ctx} {s s':St} {a:Act} {w:World} {β:Nat→Option Nat} {I:Nat→Prop} {o:Oper} {h:Hint} {ob:List Prop}
def Gw(τ:Nat→Option Nat):List Nat→Option (List Nat)
 |[]=>some []
 |x::r=>match τ x,Gw τ r with
  |some y,some ys=>some (y::ys)
  |_,_=>none
def xz(τ:Nat→Option Nat):EV→Option EV
 |.pv p=>some (.pv p)
 |.mC c=>some (.mC c)
 |.dead=>some .dead
 |.ptr x o=>match τ x with
  |some y=>some (.ptr y o)
  |none=>none
 |.row x o l z=>match τ x with
  |some y=>some (.row y o l z)
  |none=>none
 |.jA x o l z ps=>match τ x with
  |some y=>some (.jA y o l z ps)
  |none=>none
 |.mD f x=>match τ x with
  |some y=>some (.mD f y)
  |none=>none
 |.iu x o ps=>match τ x with
  |some y=>some (.iu y o ps)
  |none=>none
 |.cM f bs rs=>match Gw τ bs,Gw τ rs with
  |some Rq,some Om=>some (.cM f Rq Om)
  |_,_=>none
 |.ig .. => none
 |.mE .. => none
 |.lz .. => none
def HW(τ:Nat→Option Nat):List EV→Option (List EV)
 |[]=>some []
 |e::r=>match xz τ e,HW τ r with
  |some e',some es=>some (e'::es)
  |_,_=>none
def zd(τ:Nat→Option Nat):SC→Option SC
 |.pure ps=>some (.pure ps)
 |.lit cs=>match HW τ cs with
  |some Ez=>some (.lit Ez)
  |none=>none
 |_=>none
def Ren(τ β β':Nat→Option Nat)(L L':Nat→Prop):Prop:=∀x y,τ x=some y→L x→L' y∧β' y=β x
theorem qD{τ β β':Nat→Option Nat}{L L':Nat→Prop}(hτ:Ren τ β β' L L'):∀{xs ys:List Nat},Gw τ xs=some ys→(∀x∈xs,L x)→(∀y∈ys,L' y)∧ys.map β'=xs.map β
 |[],ys,h,_=>by injection h with h;subst h;exact⟨fun y hy=>(by cases hy),rfl⟩
 |x::r,ys,h,hl=>by
  unfold Gw at h;split at h
  ·rename_i y Yn hy hr;injection h with h;subst h
   obtain⟨h1,h2⟩:=qD hτ hr (fun z hz=>hl z (acA _ hz));obtain⟨h3,h4⟩:=hτ x y hy (hl x (acO ..));exact⟨fun z hz=>(ac0.1 hz).elim (fun e=>e ▸ h3) (h1 z),by simp[h2,h4]⟩
  ·cases h
theorem RE.pH{τ β β':Nat→Option Nat}{L L' I:Nat→Prop}{w:World}{e e':EV}{v:Value}(hτ:Ren τ β β' L L')(h:RE β L I w e v)(hr:xz τ e=some e'):RE β' L' I w e' v:=by
 cases e with
 |pv p=>injection hr with hr;subst hr;exact h
 |mC c=>injection hr with hr;subst hr;exact h
 |dead=>injection hr with hr;subst hr;exact h
 |ig _ _ _=>cases hr
 |mE _ _=>cases hr
 |lz _=>cases hr
 |ptr x off =>
  simp only[xz] at hr;split at hr
  ·rename_i y hy;injection hr with hr;subst hr
   obtain⟨h1,b,h2,h3⟩:=h;obtain⟨k1,k2⟩:=hτ x y hy h1;exact⟨k1,b,k2.trans h2,h3⟩
  ·cases hr
 |mD f x =>
  simp only[xz] at hr;split at hr
  ·rename_i y hy;injection hr with hr;subst hr
   obtain⟨h1,b,h2,h3⟩:=h;obtain⟨k1,k2⟩:=hτ x y hy h1;exact⟨k1,b,k2.trans h2,h3⟩
  ·cases hr
 |row x off len sz =>
  simp only[xz] at hr;split at hr
  ·rename_i y hy;injection hr with hr;subst hr
   obtain⟨h1,h2⟩:=h;obtain⟨k1,k2⟩:=hτ x y hy h1;exact⟨k1,by rw[k2];exact h2⟩
  ·cases hr
 |jA x off len sz ps =>
  simp only[xz] at hr;split at hr
  ·rename_i y hy;injection hr with hr;subst hr
   obtain⟨us,g1,g2,⟨u,g3,h1,g4⟩,g5⟩:=h;obtain⟨k1,k2⟩:=hτ x y hy h1;exact⟨us,g1,g2,⟨u,g3,k1,by rw[k2];exact g4⟩,g5⟩
  ·cases hr
 |iu x off ps =>
  simp only[xz] at hr;split at hr
  ·rename_i y hy;injection hr with hr;subst hr
   obtain⟨us,g1,g2,⟨u,g3,h1,g4⟩,g5⟩:=h;obtain⟨k1,k2⟩:=hτ x y hy h1;exact⟨us,g1,g2,⟨u,g3,k1,by rw[k2];exact g4⟩,g5⟩
  ·cases hr
 |cM f bs rs =>
  simp only[xz] at hr;split at hr
  ·rename_i Rq Om hb hs;injection hr with hr;subst hr
   obtain⟨h1,ab,ac,h2,h3,h4⟩:=h;obtain⟨k1,k2⟩:=qD hτ hb (fun x hx=>h1 x (acH _ hx));obtain⟨k3,k4⟩:=qD hτ hs (fun x hx=>h1 x (acD _ hx));exact⟨fun y hy=>(acs.1 hy).elim (k1 y) (k3 y),ab,ac,k2.trans h2,k4.trans h3,h4⟩
  ·cases hr
theorem Cx{τ:Nat→Option Nat} : ∀{es HV:List EV},HW τ es=some HV→HV.length=es.length∧∀(j:Nat) e',HV[j]? = some e'→∃e,es[j]? = some e∧xz τ e=some e'
 |[],HV,h=>by injection h with h;subst h;exact⟨rfl,fun j e' he=>by simp at he⟩
 |e::r,HV,h=>by
  unfold HW at h;split at h
  ·rename_i e1 es1 h1 h2;injection h with h;subst h
   obtain⟨k1,k2⟩:=Cx h2;refine⟨by simp[k1],fun j e' he => ?_⟩;cases j with
   |zero=>simp at he;subst he;exact⟨e,by simp,h1⟩
   |succ j=>simpa using k2 j e' (by simpa using he)
  ·cases h
theorem RB.pH{τ β β':Nat→Option Nat}{L L' I:Nat→Prop}{w:World}{r r':Nat}{sc sc':SC}(hτ:Ren τ β β' L L')(h:RB β L I w r sc.oe)(hr:zd τ sc=some sc')(hb:β' r'=β r):RB β' L' I w r' sc'.oe:=by
 have hlen:sc'.oe.length=sc.oe.length∧∀(j:Nat) e',sc'.oe[j]? = some e'→∃e,sc.oe[j]? = some e∧∀v,RE β L I w e v→RE β' L' I w e' v:=by
  cases sc with
  |pure ps =>
   injection hr with hr;subst hr
   refine⟨rfl,fun j e' he=>⟨e',he,fun v hv => ?_⟩⟩;obtain⟨p,_,rfl⟩:=aca.1 (ac5 he);exact hv
  |lit cs =>
   simp only[zd] at hr;split at hr
   ·rename_i Ez vO;injection hr with hr;subst hr
    obtain⟨k1,k2⟩:=Cx vO;refine⟨k1,fun j e' he => ?_⟩;obtain⟨e,h1,h2⟩:=k2 j e' he;exact⟨e,h1,fun v hv=>hv.pH hτ h2⟩
   ·cases hr
  |heap _=>cases hr
  |Ew _ _=>cases hr
  |Ex _ _=>cases hr
 rcases h with ⟨h1,h2⟩|⟨b,arr,el,h1,h2,h3⟩
 ·refine .inl ⟨hb.trans h1,?_⟩;rw[h2] at hlen;exact abT hlen.1
 ·refine .inr ⟨b,arr,el,hb.trans h1,h2,fun j e' he => ?_⟩;obtain⟨e,g1,g2⟩:=hlen.2 j e' he;obtain⟨u,g3,g4,g5⟩:=h3 j e g1;exact⟨u,g3,g4,g2 u g5⟩
theorem Cy:∀{aP:aY} {x:Nat},(∀p∈aP,p.1≠x)→aP.cD x=none
 |[],_,_=>rfl
 |(r,sc)::s,x,h=>by rw[aY.cD,gm (h (r,sc) (by simp)),ac1];exact Cy fun p hp=>h p (by simp[hp])
theorem oA{aP:aY}(h:∀p∈aP,p.1<999999)(x:Nat):aP.get x=aP.cD x:=by
 have hn:∀y,999999≤y→aP.cD y=none:=fun y hy=>Cy fun p hp e=>by have:=h p hp;omega
 rcases Dn x with hx|rfl|⟨j,rfl⟩
 ·exact aY.jB hx
 ·rw[aY.gu,hn _ (abW _)]
 ·rw[aY.kI,hn (hc j) (by unfold hc;omega)];unfold aY.hp;rw[hn _ (abW _)];simp[qh]
theorem Al(f:Nat→SC→SC):∀(aP:aY) (x:Nat),aY.cD (aP.map fun p=>(p.1,f p.1 p.2)) x=(aP.cD x).map (f x)
 |[],x=>rfl
 |(r,sc)::s,x=>by
  rw[acI,aY.cD,aY.cD];cases hb:Nat.beq r x with
  |true =>have:r=x:=abO hb;subst this;rfl
  |false=>exact Al f s x
theorem zn:∀(a b:aY) (x:Nat),aY.cD (a++b) x=(a.cD x).or (b.cD x)
 |[],b,x=>by simp[aY.cD]
 |(r,sc)::s,b,x=>by
  rw[adV,aY.cD,aY.cD];cases Nat.beq r x with
  |true=>rfl
  |false=>exact zn s b x
theorem lI{aP:aY}{y:Nat}{sc:SC}(h:aP.cD y=some sc):(y,sc)∈aP:=aY.lI h
def x9(aP:aY)(σ:List (Nat×Nat)):Bool :=
 σ.all fun p=>(Nat.blt p.1 999999&&Nat.blt p.2 999999)&&sx (assoc σ p.1) p.2&&sx (ek σ p.2) p.1&&(match aP.get p.1 with
  |some sc=>(zd (assoc σ) sc).isSome
  |none=>false)
theorem jG{aP:aY}{σ:List (Nat×Nat)}(h:x9 aP σ=true){x y:Nat}(hm:(x,y)∈σ) :
  (x<999999∧y<999999)∧assoc σ x=some y∧ek σ y=some x∧∃sc sc',aP.get x=some sc∧zd (assoc σ) sc=some sc':=by
 unfold x9 at h;rw[abX] at h;have:=h (x,y) hm;simp only[Bool.and_eq_true] at this;obtain⟨⟨⟨h0,h1⟩,h2⟩,h3⟩:=this;refine⟨⟨abM h0.1,abM h0.2⟩,mH h1,mH h2,?_⟩;split at h3
 ·rename_i sc gS;obtain⟨sc',h4⟩:=abP.1 h3;exact⟨sc,sc',gS,h4⟩
 ·cases h3
def lg(aP:aY)(σ0:List (Nat×Nat)):List (Nat×Nat)→aY
 |[]=>[]
 |(x,y)::σ=>match (aP.get x).bind (zd (assoc σ0)) with
  |some sc=>(y,sc)::lg aP σ0 σ
  |none=>lg aP σ0 σ
theorem Dy{aP:aY}{σ0:List (Nat×Nat)}(gk:x9 aP σ0=true):∀(σ:List (Nat×Nat)),(∀p∈σ,p∈σ0)→∀p∈lg aP σ0 σ,p.1<999999
 |[],_,p,h=>by cases h
 |(x,y)::σ,hm,p,h=>by
  obtain⟨⟨_,h2⟩,_,_,sc,sc',g1,g2⟩:=jG gk (hm (x,y) (by simp));simp only[lg,g1,Option.bind_some,g2] at h;rcases ac0.1 h with rfl|h
  ·exact h2
  ·exact Dy gk σ (fun q hq=>hm q (by simp[hq])) p h
theorem Am{aP:aY}{σ0:List (Nat×Nat)}(gk:x9 aP σ0=true):∀(σ:List (Nat×Nat)),(∀p∈σ,p∈σ0)→∀(y:Nat) sc',aY.cD (lg aP σ0 σ) y=some sc'→∃x sc,ek σ0 y=some x∧assoc σ0 x=some y∧aP.get x=some sc∧zd (assoc σ0) sc=some sc'
 |[],_,y,sc,h=>by cases h
 |(x,y')::σ,hm,y,sc',h=>by
  obtain⟨_,g1,g2,sH,Oj,g3,g4⟩:=jG gk (hm (x,y') (by simp));simp only[lg,g3,Option.bind_some,g4,aY.cD] at h;cases hb:Nat.beq y' y with
  |true =>
   have:y'=y:=abO hb;subst this;simp only[hb,cond_true] at h;injection h with h;subst h
   exact⟨x,sH,g2,g1,g3,g4⟩
  |false =>simp only[hb,cond_false] at h;exact Am gk σ (fun p hp=>hm p (by simp[hp])) y sc' h
theorem tc{aP:aY}{σ0:List (Nat×Nat)}(gk:x9 aP σ0=true):∀(σ:List (Nat×Nat)),(∀p∈σ,p∈σ0)→∀x y,(x,y)∈σ→(aY.cD (lg aP σ0 σ) y).isSome=true
 |[],_,x,y,h=>by cases h
 |(x',y')::σ,hm,x,y,h=>by
  obtain⟨_,g1,g2,sH,Oj,g3,g4⟩:=jG gk (hm (x',y') (by simp));simp only[lg,g3,Option.bind_some,g4,aY.cD];cases hb:Nat.beq y' y with
  |true=>rfl
  |false =>
   simp only[cond_false];rcases ac0.1 h with h|h
   ·injection h with h1 h2;subst h2;simp at hb
   ·exact tc gk σ (fun p hp=>hm p (by simp[hp])) x y h
def HX(env:Env)(τ:Nat→Option Nat):List Operand→Option (List EV)
 |[]=>some []
 |x::r=>match cU env x,HX env τ r with
  |some e,some es=>match xz τ e with
   |some e'=>some (e'::es)
   |none=>none
  |_,_=>none
theorem An(hr:dh Γ s a w β I){τ β':Nat→Option Nat}{L':Nat→Prop}(hτ:Ren τ β β' (bz s.aP) L'):∀(xs:List Operand) (es:List EV),HX s.env τ xs=some es→xs.length=es.length ∧
  ∀(j:Nat) e x,es[j]? = some e→xs[j]? = some x→RE β' L' I w e (a.eval x)
 |[],es,h=>by injection h with h;subst h;exact⟨rfl,fun j p x hp=>by simp at hp⟩
 |x::r,es,h=>by
  unfold HX at h;split at h
  ·rename_i e HV he Cs;split at h
   ·rename_i e' gi;injection h with h;subst h
    obtain⟨h1,h2⟩:=An hr hτ r HV Cs;refine⟨by simp[h1],fun j q y hj hy => ?_⟩;cases j with
    |zero=>simp at hj hy;subst hj hy;exact(hr.zZ x _ he).pH hτ gi
    |succ j=>exact h2 j q y (by simpa using hj) (by simpa using hy)
   ·cases h
  ·cases h
def PB(τ:Nat→Option Nat)(env:Env):Operand→Option (FuncId×List EV×List EV)
 |.func f=>some (f,[],[])
 |x=>match cU env x with
  |some (.mD f r)=>match τ r with
   |some y=>some (f,[],[.ptr y 0])
   |none=>none
  |some (.cM f bs rs)=>match Gw τ bs,Gw τ rs with
   |some Rq,some Om=>some (f,Rq.map (EV.ptr · 0),Om.map (EV.ptr · 0))
   |_,_=>none
  |some (.pv (.fn f))=>some (f,[],[])
  |_=>none
theorem Dz{β':Nat→Option Nat}{L' I:Nat→Prop}{w:World} : ∀(ys ab:List Nat),(∀y∈ys,L' y)→ys.map β'=ab.map some→(ys.map (EV.ptr · 0)).length=(ab.map yJ).length ∧
  ∀(j:Nat) e v,(ys.map (EV.ptr · 0))[j]? = some e→(ab.map yJ)[j]? = some v→RE β' L' I w e v
 |[],[],_,_=>⟨rfl,fun j e v h=>by simp at h⟩
 |[],_::_,_,h=>by simp at h
 |_::_,[],_,h=>by simp at h
 |y::ys,b::ab,hl,h=>by
  simp only[List.map_cons,List.cons.injEq] at h;obtain⟨h1,h2⟩:=Dz (I:=I) (w:=w) ys ab (fun z hz=>hl z (acA _ hz)) h.2;refine⟨by simpa using h1,fun j e v he hv => ?_⟩;cases j with
  |zero =>simp at he hv;subst he;subst hv;exact⟨hl y (acO ..),b,h.1,rfl⟩
  |succ j=>exact h2 j e v (by simpa using he) (by simpa using hv)
theorem IU(hr:dh Γ s a w β I){τ β':Nat→Option Nat}{L':Nat→Prop}(hτ:Ren τ β β' (bz s.aP) L'){g:Operand}{f:FuncId}{PC ex2:List EV}(h:PB τ s.env g=some (f,PC,ex2)) :
  ∃Ao cap:List Value,a.eval g = .func (.func f) Ao.toArray cap.toArray∧PC.length=Ao.length∧ex2.length=cap.length ∧
   (∀(j:Nat) e v,PC[j]? = some e→Ao[j]? = some v→RE β' L' I w e v)∧∀(j:Nat) e v,ex2[j]? = some e→cap[j]? = some v→RE β' L' I w e v:=by
 unfold PB at h;split at h
 ·rename_i f';injection h with h;injection h with h1 h2;injection h2 with h2 h3
  subst h1;subst h2;subst h3;exact⟨[],[],by simp[Act.eval],rfl,rfl,fun j e v he=>by simp at he,fun j e v he=>by simp at he⟩
 ·split at h
  ·rename_i f' r he;split at h
   ·rename_i y hy;injection h with h;injection h with h1 h2;injection h2 with h2 h3
    subst h1;subst h2;subst h3;obtain⟨hl,b,hb,hv⟩:=hr.zZ g _ he;obtain⟨k1,k2⟩:=hτ r y hy hl;refine⟨[],[.pointer (some ⟨b,0,none⟩)],hv,rfl,rfl,fun j e v he=>by simp at he,fun j e v he hv => ?_⟩;cases j with
    |zero=>simp at he hv;subst he;subst hv;exact⟨k1,b,k2.trans hb,rfl⟩
    |succ j=>simp at he
   ·cases h
  ·rename_i f' bs rs he;split at h
   ·rename_i Rq Om hb hs;injection h with h;injection h with h1 h2;injection h2 with h2 h3
    subst h1;subst h2;subst h3;obtain⟨hl,ab,ac,e1,e2,hv⟩:=hr.zZ g _ he;obtain⟨k1,k2⟩:=qD hτ hb (fun x hx=>hl x (acH _ hx));obtain⟨k3,k4⟩:=qD hτ hs (fun x hx=>hl x (acD _ hx));obtain⟨q1,q2⟩:=Dz (I:=I) (w:=w) Rq ab k1 (k2.trans e1);obtain⟨q3,q4⟩:=Dz (I:=I) (w:=w) Om ac k3 (k4.trans e2);exact⟨ab.map yJ,ac.map yJ,hv,q1,q3,q2,q4⟩
   ·cases h
  ·rename_i f' he;injection h with h;injection h with h1 h2;injection h2 with h2 h3
   subst h1;subst h2;subst h3;have hv:Rd I w (.fn f') (a.eval g):=hr.zZ g _ he;refine⟨[],[],?_,rfl,rfl,fun j e v he=>by simp at he,fun j e v he=>by simp at he⟩;generalize a.eval g=v at hv;cases hv;rfl
  ·cases h
theorem Gx {f : FuncId} (hc : qA P f) {g : Operand} {Ao cap : List Value} (hv : a.eval g = .func (.func f) Ao.toArray cap.toArray) {args : Array Operand} {FZ : Array TypeId} (pB : o.op = .call ⟨.value g, args, FZ⟩) :
    (execOp a.eval o).run P w = .ok (.enter f (Ao.toArray ++ args.map a.eval ++ cap.toArray)) w := by
  obtain ⟨fn, h1, h2, h3⟩ := hc;have hb : fn.body ≠ none := by intro e; rw [e] at h2; cases h2
  have II : fn.name ≠ "runtime.NumGoroutine" := by simpa using h3
  simp [execOp, pB, resolve, hv, Deferred.ofValue, invoke, callFunc, h1, II, hb]
end
end Go.Proofs.YtneklnlpgfeplaaGreat.Sym
