/- Lemmas for the statements of this seat. -/
import Derived.Test.YtneklnlpgfeplaaGreatW14
namespace Go.Proofs.YtneklnlpgfeplaaGreat.Sym
open Go Go.RowKit
section
variable {P:Program} {T:ja} {Γ:Ctx} {s s':St} {a:Act} {w:World} {β:Nat→Option Nat} {I:Nat→Prop} {o:Oper} {h:Hint} {ob:List Prop}
def Ap(σ ν:List (Nat×Nat))(y:Nat):Option Nat:=match assoc ν y with
 |some d=>some d
 |none=>bif nP y then none else ek σ y
def ya(σ ν:List (Nat×Nat))(sout:aY)(y:Nat)(sc:SC):SC:=match (sout.cD y).bind (zd (Ap σ ν)) with
 |some sc'=>sc'
 |none=>sc
def updY(σ ν:List (Nat×Nat))(sout aP:aY):aY:=aP.map fun p=>(p.1,match assoc σ p.1 with
 |some y=>ya σ ν sout y p.2
 |none=>p.2)
def Ki(σ ν:List (Nat×Nat))(sout:aY):aY:=ν.map fun p=>(p.2,ya σ ν sout p.1 (.lit []))
def Vz(n:Nat)(s:St)(σ ν:List (Nat×Nat))(sout:aY):Bool :=
 x9 s.aP σ&&s.aP.all (fun p=>Nat.blt p.1 999999)&&σ.all (fun p=>bif nP p.2 then Nat.blt p.1 n else (sout.cD p.2).isSome) &&
 sout.all (fun p=>Nat.blt p.1 999999&&(((ek σ p.1).isSome && !nP p.1)||(assoc ν p.1).isSome)&&(zd (Ap σ ν) p.2).isSome) &&
 ν.all (fun p=>Nat.blt p.2 n&&Nat.blt p.2 999999&&(s.aP.cD p.2).isNone&&(ek σ p.1).isNone&&(sout.cD p.1).isSome&&sx (assoc ν p.1) p.2&&sx (ek ν p.2) p.1)
def xA(P:Program)(n:Nat)(o:Oper)(h:Hint)(s:St):Option (St×List Prop) :=
 match o.op,h with
 |.call c,.df σ ν r sout=>match c.callee with
  |.value g=>match PB (assoc σ) s.env g,HX s.env (assoc σ) c.args.toList,xz (Ap σ ν) r with
   |some (f,PC,ex2),some es,some r'=>bif jC n o.dst&&Vz n s σ ν sout then
     some (⟨nN (cm (givenBy σ) s).env o.dst r',Ki σ ν sout++updY σ ν sout (cm (givenBy σ) s).aP⟩,[ag P f (PC++es++ex2) (lg s.aP σ σ) r sout]) else none
   |_,_,_=>none
  |_=>none
 |_,_=>none
theorem HY{α β:Type}{R:α→β→Prop}{l1 l2:List α}{m1 m2:List β}(hl:l1.length=m1.length)(h1:∀(j:Nat) e v,l1[j]? = some e→m1[j]? = some v→R e v)(h2:∀(j:Nat) e v,l2[j]? = some e→m2[j]? = some v→R e v) :
  ∀(j:Nat) e v,(l1++l2)[j]? = some e→(m1++m2)[j]? = some v→R e v:=fun j e v he hv=>by
 by_cases hj:j<l1.length
 ·rw[ad9 hj] at he;rw[ad9 (by omega)] at hv;exact h1 j e v he hv
 ·rw[acS (by omega)] at he;rw[acS (by omega),←hl] at hv;exact h2 _ e v he hv
theorem Gy{aP:aY}{y:Nat}{sc:SC}(h:(y,sc)∈aP):(aP.cD y).isSome=true:=by
 induction aP with
 |nil=>cases h
 |cons p r ih =>
  obtain⟨x,sc'⟩:=p;rw[aY.cD];cases hb:Nat.beq x y with
  |true=>rfl
  |false =>
   rcases ac0.1 h with h|h
   ·injection h with h1 h2;subst h1;simp at hb
   ·exact ih h
theorem DA{r:Nat} : ∀{aP:aY},(∀q∈aP,q.1<999999)→∀q∈dE r aP,q.1<999999
 |[],_,q,hq=>by cases hq
 |(x,c)::s,h,q,hq=>by
  rw[dE] at hq;cases hb:Nat.beq x r&&Nat.blt r 999999 with
  |true=>rw[hb,abQ] at hq;exact DA (fun p hp=>h p (acA _ hp)) q hq
  |false =>
   rw[hb,ac1] at hq;rcases ac0.1 hq with rfl|hq
   ·exact h (x,c) (acO ..)
   ·exact DA (fun p hp=>h p (acA _ hp)) q hq
theorem ze(hs:∀r,bz Γ.sin r→Γ.n≤r)(hr:Rel Γ s a w)(bc:xA P Γ.n o h s=some (s',ob))(cf:dW ob){K:Act→World→Prop}{Q:Exit→Act→World→Prop}
  (hk:∀a' w',Rel Γ s' a' w'→K a' w'):o.wp P a w K Q:=by
 obtain⟨β,I,hr⟩:=hr;unfold xA at bc;split at bc
 case h_2=>cases bc
 rename_i c σ ν r sout pB;split at bc
 case h_2=>cases bc
 rename_i g nJ;split at bc
 case h_2=>cases bc
 rename_i f PC ex2 es r' hg Cs dx;cases hd:jC Γ.n o.dst&&Vz Γ.n s σ ν sout with
 |false=>simp[hd] at bc
 |true =>
 simp only[hd,cond_true] at bc;injection bc with bc;injection bc with VA PD
 subst VA;subst PD;unfold Vz at hd;simp only[Bool.and_eq_true] at hd;obtain⟨d1,⟨⟨⟨d2,d0⟩,d3⟩,d4⟩,d5⟩:=hd;rw[abX] at d0 d3 d4 d5;obtain⟨cl,args,FZ⟩:=c;have nJ:cl = .value g:=nJ;subst nJ;have R8:∀x,Nat.blt x 999999=true→x<999999:=fun x hx=>abM hx
 have pl:∀x,s.aP.get x=s.aP.cD x:=oA fun p hp=>R8 _ (d0 p hp)
 have wz:∀p∈σ,p∈σ:=fun p hp=>hp
 have PE:∀y,(lg s.aP σ σ).get y=(lg s.aP σ σ).cD y:=oA (Dy d2 σ wz);have Yq:∀p∈sout,p.1<999999∧(((ek σ p.1).isSome=true∧nP p.1=false)∨(assoc ν p.1).isSome=true)∧(zd (Ap σ ν) p.2).isSome=true:=fun p hp=>by have:=d4 p hp;simp only[Bool.and_eq_true,Bool.or_eq_true,Bool.not_eq_true'] at this;exact⟨R8 _ this.1.1,this.1.2,this.2⟩
 have M3:∀y,sout.get y=sout.cD y:=oA fun p hp=>(Yq p hp).1
 have IV:∀p∈ν,p.2<Γ.n∧p.2<999999∧s.aP.cD p.2=none∧ek σ p.1=none∧(sout.cD p.1).isSome=true∧assoc ν p.1=some p.2∧ek ν p.2=some p.1:=fun p hp=>by have:=d5 p hp;simp only[Bool.and_eq_true,Option.isNone_iff_eq_none] at this;obtain⟨⟨⟨⟨⟨⟨e1,e2⟩,e3⟩,e4⟩,e5⟩,e6⟩,e7⟩:=this;exact⟨abM e1,R8 _ e2,e3,e4,e5,mH e6,mH e7⟩
 have Kh:∀y,nP y=true↔gv y:=fun y=>⟨abM,acN⟩
 have hτ:Ren (assoc σ) β (βX β σ) (bz s.aP) (bz (lg s.aP σ σ)):=fun x y VB hx=>by have hm:=eA VB;obtain⟨_,_,hR,_⟩:=jG d2 hm;refine⟨by unfold bz;rw[PE];exact tc d2 σ wz x y hm,by unfold βX;rw[hR];rfl⟩
 have hinv:∀y sc',(lg s.aP σ σ).get y=some sc'→∃x sc,ek σ y=some x∧assoc σ x=some y∧s.aP.get x=some sc∧zd (assoc σ) sc=some sc':=fun y sc' hy=>Am d2 σ wz y sc' (by rw[←PE];exact hy)
 obtain⟨Ao,cap,Vr,IC,Rk,VC,VD⟩:=IU hr hτ hg;obtain⟨hl,uw⟩:=An hr hτ args.toList es Cs;have Ke:mw (βX β σ) I w (lg s.aP σ σ):=by
  refine⟨fun y sc' hy => ?_,fun y y' b hy Ak h1 h2 => ?_⟩
  ·obtain⟨x,sc,g1,g2,g3,g4⟩:=hinv y sc' hy;have F2:βX β σ y=β x:=by unfold βX;rw[g1];rfl
   obtain⟨k1,k2⟩:=hr.aP.1 x sc g3;exact⟨k1.pH hτ g4 F2,fun b hb=>k2 b (F2.symm.trans hb)⟩
  ·obtain⟨sc,gS⟩:=abP.1 hy;obtain⟨sc',B8⟩:=abP.1 Ak;obtain⟨x,_,g1,g2,g3,_⟩:=hinv y sc gS;obtain⟨x',_,Kf,Ad,Kg,_⟩:=hinv y' sc' B8;have e1:β x=some b:=by unfold βX at h1;rw[g1] at h1;exact h1
   have e2:β x'=some b:=by unfold βX at h2;rw[Kf] at h2;exact h2
   have:=hr.aP.2 x x' b (by unfold bz;rw[g3];rfl) (by unfold bz;rw[Kg];rfl) e1 e2;subst this;rw[g2] at Ad;injection Ad with Ad
 have kU:∀b y,bz (lg s.aP σ σ) y→βX β σ y=some b→∃x,assoc σ x=some y∧bz s.aP x∧β x=some b:=fun b y hy yY=>by obtain⟨sc,gS⟩:=abP.1 hy;obtain⟨x,_,g1,g2,g3,_⟩:=hinv y sc gS;unfold βX at yY;rw[g1] at yY;exact⟨x,g2,by unfold bz;rw[g3];rfl,yY⟩
 have Px:kh (lg s.aP σ σ) (βX β σ) w:=hr.lay.sub (fun y b hy hb=>by obtain⟨x,_,h1,h2⟩:=kU b y hy hb;exact⟨x,h1,h2⟩)
 have h1:=hr.cm (givenBy σ);have r8:∀x,bz (cm (givenBy σ) s).aP x→bz s.aP x:=fun x hx=>((jF _).1 hx).1
 have Er:∀x y,bz (cm (givenBy σ) s).aP x→assoc σ x=some y→¬gv y:=fun x y hx ha hg=>((jF _).1 hx).2 (aca.2 ⟨(x,y),adj.2 ⟨eA ha,(Kh y).2 hg⟩,rfl⟩)
 have IS:∀x y b,assoc σ x=some y→gv y→bz s.aP x→β x=some b→Γ.Nw b:=fun x y b ha hg vh hb=>by have:=d3 _ (eA ha);rw[(Kh y).2 hg,abQ] at this;exact hr.new x b vh (.inl (fun h=>absurd (hs x h) (acT (abM this)))) hb
 have R9:∀x y,ek σ y=some x→¬gv y→bz (cm (givenBy σ) s).aP x:=fun x y hx zc=>by
  obtain⟨_,e1,_,sc,_,e2,_⟩:=jG d2 (fZ hx);refine(jF _).2 ⟨by unfold bz;rw[e2];rfl,fun hm => ?_⟩;obtain⟨⟨x',y'⟩,Vu,PA⟩:=aca.1 hm;obtain⟨Vv,Vw⟩:=adj.1 Vu;have PA:x'=x:=PA;subst PA;obtain⟨_,e3,_⟩:=jG d2 Vv;rw[e1] at e3;injection e3 with e3;subst e3
  exact zc ((Kh _).1 Vw)
 have MX:∀b,B3 (lg s.aP σ σ) (βX β σ) b→Γ.Nw b∧b<w.heap.size∧∀x,bz (cm (givenBy σ) s).aP x→β x≠some b:=fun b hb=>by obtain⟨y,hg,hy,yY⟩:=hb;obtain⟨x,e1,e2,e3⟩:=kU b y hy yY;refine⟨IS x y b e1 hg e2 e3,hr.lb x b e2 e3,fun x' uJ e => ?_⟩;have:=hr.aP.2 x x' b e2 (r8 x' uJ) e3 e;subst this;exact Er x y uJ e1 hg
 have k0:∀x,bz (cm (givenBy σ) s).aP x→x<999999:=fun x hx=>by have:=r8 x hx;unfold bz at this;rw[pl] at this;obtain⟨sc,gS⟩:=abP.1 this;exact R8 _ (d0 _ (lI gS))
 have VE:∀x y,ek ν x=some y→s.aP.cD x=none:=fun x y hx=>(IV _ (fZ hx)).2.2.1
 unfold Oper.wp;rw[Gx cf.1 Vr pB,aeL];have ri:Ao.toArray++args.map a.eval++cap.toArray=(Ao++args.toList.map a.eval++cap).toArray:=by apply adN;simp
 rw[ri];refine(cf.2 I w (βX β σ) _ hr.ib Ke (by simp;rw[←IC,←Rk,←hl];simp) (fun j e v he hv => ?_) Px).mono fun e w' hp => ?_
 ·refine HY (R:=fun e v=>RE (βX β σ) (bz (lg s.aP σ σ)) I w e v) (l1:=PC++es) (m1:=Ao++args.toList.map a.eval) (by simp[IC,←hl]) (HY IC VC (fun j e v he hv => ?_)) VD j e v he (by simpa using hv);rw[abR] at hv;cases hx:args.toList[j]? with
  |none=>rw[hx] at hv;cases hv
  |some x=>rw[hx] at hv;injection hv with hv;subst hv;exact uw j e x he hx
 obtain⟨v,β',rfl,p1,p2,p3,p4,p5⟩:=hp;obtain⟨I',IQ⟩:∃I':Nat→Prop,I'=fun b=>I b∨((fresh w w' b∨B3 (lg s.aP σ σ) (βX β σ) b)∧∀x,bz sout x→β' x≠some b):=⟨_,rfl⟩
 rw[←IQ] at p3 p4;obtain⟨βn,Sa⟩:∃βn:Nat→Option Nat,βn=fun x=>match ek ν x with
  |some y=>β' y
  |none=>β x:=⟨_,rfl⟩
 have Aq:∀x,bz (cm (givenBy σ) s).aP x→βn x=β x:=fun x hx=>by
  rw[Sa];cases hν:ek ν x with
  |none=>simp only[hν]
  |some y =>have:=VE x y hν;have hx:=r8 x hx;unfold bz at hx;rw[pl,this] at hx;cases hx
 have IW:∀y d,assoc ν y=some d→βn d=β' y:=fun y d hy=>by have:=(IV _ (eA hy)).2.2.2.2.2.2;rw[Sa];simp only[this]
 have kl:∀p∈(cm (givenBy σ) s).aP,p.1<999999:=fun p hp=>by
  by_cases h9:p.1<999999
  ·exact h9
  ·exfalso;have:∀(rs:List Nat) (s0:St),(∀q∈s0.aP,q.1<999999)→∀q∈(cm rs s0).aP,q.1<999999:=by
    intro rs
    induction rs with
    |nil=>exact fun s0 h q hq=>h q hq
    |cons r rs ih =>intro s0 h q hq;refine ih (kill r s0) (fun q' B2 => ?_) q hq;exact DA h q' B2
   exact h9 (this _ s (fun q hq=>R8 _ (d0 q hq)) p hp)
 have pk:∀x,(cm (givenBy σ) s).aP.get x=(cm (givenBy σ) s).aP.cD x:=oA kl;obtain⟨Ms,Kj⟩:∃Ms:aY,Ms=Ki σ ν sout++updY σ ν sout (cm (givenBy σ) s).aP:=⟨_,rfl⟩;rw[←Kj] at hk;have pn:∀x,Ms.get x=Ms.cD x:=oA fun p hp=>by
  rw[Kj] at hp;rcases acs.1 hp with hp|hp
  ·obtain⟨q,hq,rfl⟩:=aca.1 hp;exact(IV q hq).2.1
  ·obtain⟨q,hq,rfl⟩:=aca.1 hp;exact kl q hq
 have gN:∀x sc,Ms.get x=some sc→(∃y,(y,x)∈ν∧sc=ya σ ν sout y (.lit []))∨∃sH,(cm (givenBy σ) s).aP.get x=some sH∧sc=match assoc σ x with
   |some y=>ya σ ν sout y sH
   |none=>sH:=fun x sc hx=>by
  rw[pn,Kj,zn] at hx;cases hn:(Ki σ ν sout).cD x with
  |some Oj =>
   rw[hn,Option.some_or] at hx;injection hx with hx;subst hx
   obtain⟨q,hq,he⟩:=aca.1 (lI hn);injection he with ZL Ri
   exact .inl ⟨q.1,by rw[←ZL];exact hq,Ri.symm⟩
  |none =>
   rw[hn,Option.none_or] at hx;unfold updY at hx;rw[Al (fun x sc=>match assoc σ x with
    |some y=>ya σ ν sout y sc
    |none=>sc)] at hx
   obtain⟨sH,h2,h3⟩:=acP.1 hx;exact .inr ⟨sH,by rw[pk];exact h2,h3.symm⟩
 have dN:∀x,bz (cm (givenBy σ) s).aP x→bz Ms x:=fun x hx=>by
  unfold bz at hx ⊢;rw[pn,Kj,zn];rw[pk] at hx;cases (Ki σ ν sout).cD x with
  |some _=>rfl
  |none =>
   rw[Option.none_or];unfold updY;rw[Al (fun x sc=>match assoc σ x with
    |some y=>ya σ ν sout y sc
    |none=>sc)]
   simpa using hx
 have VF:∀y d,(y,d)∈ν→bz Ms d:=fun y d hm=>by unfold bz;rw[pn,Kj,zn];have:((Ki σ ν sout).cD d).isSome=true:=Gy (aca.2 ⟨(y,d),hm,rfl⟩);obtain⟨sc,gS⟩:=abP.1 this;rw[gS];rfl
 have Kk:∀x,bz Ms x→(∃y,(y,x)∈ν)∨bz (cm (givenBy σ) s).aP x:=fun x hx=>by
  obtain⟨sc,gS⟩:=abP.1 hx;rcases gN x sc gS with ⟨y,hy,_⟩|⟨sH,h2,_⟩
  ·exact .inl ⟨y,hy⟩
  ·exact .inr (by unfold bz;rw[h2];rfl)
 have hρ:Ren (Ap σ ν) β' βn (bz sout) (bz Ms):=fun y x Jx hy=>by
  unfold Ap at Jx;cases hν:assoc ν y with
  |some d =>
   simp only[hν] at Jx;injection Jx with Jx;subst Jx
   exact⟨VF y d (eA hν),IW y d hν⟩
  |none =>
   simp only[hν] at Jx;cases hgv:nP y with
   |true=>rw[hgv] at Jx;cases Jx
   |false =>
    rw[hgv,ac1] at Jx;have zc:¬gv y:=fun hg=>by rw[(Kh y).2 hg] at hgv;cases hgv
    have hx:=R9 x y Jx zc;refine⟨dN x hx,?_⟩;rw[Aq x hx,p1 y (by unfold bz;rw[PE];exact tc d2 σ wz x y (fZ Jx)) zc];unfold βX;rw[Jx];rfl
 have On:∀y sc,bz sout y→∃sH,sout.get y=some sH∧zd (Ap σ ν) sH=some (ya σ ν sout y sc):=fun y sc hy=>by obtain⟨sH,h2⟩:=abP.1 hy;have h3:=h2;rw[M3] at h3;obtain⟨Oj,h4⟩:=abP.1 (Yq _ (lI h3)).2.2;refine⟨sH,h2,?_⟩;unfold ya;rw[h3,ada,h4]
 have hw:∀b o,I b→w'.cell? ⟨b,o,none⟩=w.cell? ⟨b,o,none⟩:=fun b o hI=>fh (p2.block b (hr.ib b hI) (fun ⟨y,hy,yY⟩=>by obtain⟨x,_,vh,Gu⟩:=kU b y hy yY;obtain⟨sc,gS⟩:=abP.1 vh;exact((hr.aP.1 x sc gS).2 b Gu).2 hI)) o
 have zW:∀r b,bz (cm (givenBy σ) s).aP r→β r=some b→w'.shape? b=w.shape? b:=fun r b we fc=>p2.shape b (h1.lb r b we fc)
 have Oo:∀b,I b→I' b:=fun b hb=>by rw[IQ];exact .inl hb
 have Mr:∀b,I' b→I b∨fresh w w' b∨B3 (lg s.aP σ σ) (βX β σ) b:=fun b hb=>by rw[IQ] at hb;exact hb.imp id (fun h=>h.1)
 have Oq:∀y d b,(y,d)∈ν→β' y=some b→(fresh w w' b∨B3 (lg s.aP σ σ) (βX β σ) b):=fun y d b hm hb=>by obtain⟨_,_,_,e4,e5,_⟩:=IV _ hm;refine p5 y b (by unfold bz;rw[M3];exact e5) (fun hy => ?_) hb;obtain⟨sc,gS⟩:=abP.1 hy;obtain⟨x,_,g1,_⟩:=hinv y sc gS;rw[e4] at g1;cases g1
 have PF:∀y d,(y,d)∈ν→bz sout y:=fun y d hm=>by unfold bz;rw[M3];exact(IV _ hm).2.2.2.2.1
 have rel:dh Γ ⟨(cm (givenBy σ) s).env,Ms⟩ a w' βn I':=by
  refine⟨fun t e he=>(h1.env t e he).mono Aq dN Oo hw zW,⟨fun x sc hx => ?_,fun x x' b hx uJ e1 e2 => ?_⟩,fun x hx Uq zc => ?_,fun x b hx Uq hb => ?_,fun b hb => ?_,fun b hb => ?_,?_,h1.size,h1.defers⟩
  ·rcases gN x sc hx with ⟨y,hy,rfl⟩|⟨sH,g1,rfl⟩
   ·obtain⟨Oj,g2,g3⟩:=On y (.lit []) (PF y x hy);obtain⟨q1,q2⟩:=p3.1 y Oj g2;have sG:=IW y x (IV _ hy).2.2.2.2.2.1;exact⟨q1.pH hρ g3 sG,fun b hb=>q2 b (sG.symm.trans hb)⟩
   ·have vh:bz (cm (givenBy σ) s).aP x:=by unfold bz;rw[g1];rfl
    obtain⟨k1,k2⟩:=h1.aP.1 x sH g1;cases ha:assoc σ x with
    |some y =>
     have zc:=Er x y vh ha;have hm:=eA ha;obtain⟨_,_,hR,_⟩:=jG d2 hm;have MY:bz sout y:=by have:=d3 _ hm;rw[acX.2 (fun h=>zc ((Kh _).1 h)),ac1] at this;unfold bz;rw[M3];exact this
     obtain⟨Oj,g2,g3⟩:=On y sH MY;obtain⟨q1,q2⟩:=p3.1 y Oj g2;have IM:βn x=β' y:=by rw[Aq x vh,p1 y (by unfold bz;rw[PE];exact tc d2 σ wz x y hm) zc];unfold βX;rw[hR];rfl
     exact⟨q1.pH hρ g3 IM,fun b hb=>q2 b (IM.symm.trans hb)⟩
    |none =>
     refine⟨k1.mono (Aq x vh) (fun b fc=>p2.block b (h1.lb x b vh fc) (fun ⟨y2,R6,Pw⟩ => ?_)) Aq dN Oo hw zW,fun b hb => ?_⟩
     ·obtain⟨x2,e1,e2,e3⟩:=kU b y2 R6 Pw;have:=hr.aP.2 x x2 b (r8 x vh) e2 fc e3;subst this;rw[ha] at e1;cases e1
     ·rw[Aq x vh] at hb;refine⟨ac4 (k2 b hb).1 p2.size,fun ZM => ?_⟩;rcases Mr b ZM with h|h|h
      ·exact(k2 b hb).2 h
      ·have:=(k2 b hb).1;have:=h.1;omega
      ·exact(MX b h).2.2 x vh hb
  ·have Ro:∀x,bz (cm (givenBy σ) s).aP x→∀y d,(y,d)∈ν→βn x=some b→β' y=some b→False:=fun x hx y d hm e1 e2=>by
    rw[Aq x hx] at e1;rcases Oq y d b hm e2 with h|h
    ·have:=h1.lb x b hx e1;have:=h.1;omega
    ·exact(MX b h).2.2 x hx e1
   rcases Kk x hx with ⟨y,hy⟩|Kl
   ·have ey:=IW y x (IV _ hy).2.2.2.2.2.1;rcases Kk x' uJ with ⟨y',Ak⟩|M4
    ·have VG:=IW y' x' (IV _ Ak).2.2.2.2.2.1;have:=p3.2 y y' b (PF y x hy) (PF y' x' Ak) (ey.symm.trans e1) (VG.symm.trans e2);subst this;have k1:=(IV _ hy).2.2.2.2.2.1;have k2:=(IV _ Ak).2.2.2.2.2.1;rw[k1] at k2;injection k2
    ·exact(Ro x' M4 y x hy e2 (ey.symm.trans e1)).elim
   ·rcases Kk x' uJ with ⟨y',Ak⟩|M4
    ·have VG:=IW y' x' (IV _ Ak).2.2.2.2.2.1;exact(Ro x Kl y' x' Ak e1 (VG.symm.trans e2)).elim
    ·rw[Aq x Kl] at e1;rw[Aq x' M4] at e2;exact h1.aP.2 x x' b Kl M4 e1 e2
  ·rcases Kk x hx with ⟨y,hy⟩|Kl
   ·exact absurd (hs x Uq) (acT (IV _ hy).1)
   ·rw[Aq x Kl];exact h1.par x Kl Uq zc
  ·rcases Kk x hx with ⟨y,hy⟩|Kl
   ·have ey:=IW y x (IV _ hy).2.2.2.2.2.1;rcases Oq y x b hy (ey.symm.trans hb) with h|h
    ·exact .inl (abZ hr.aW.size h.1)
    ·exact(MX b h).1
   ·rw[Aq x Kl] at hb;exact h1.new x b Kl Uq hb
  ·rcases Mr b hb with h|h|h
   ·exact ac4 (hr.ib b h) p2.size
   ·exact h.2
   ·exact ac4 (MX b h).2.1 p2.size
  ·rcases Mr b hb with h|h|h
   ·rcases hr.ii b h with h3|h3
    ·exact .inl h3
    ·exact .inr (h3.imp (fun h3=>⟨h3.1,ac4 h3.2 p2.size⟩) id)
   ·exact .inr (.inl ⟨abZ hr.aW.size h.1,h.2⟩)
   ·obtain⟨q1,q2,_⟩:=MX b h;exact .inr (q1.imp (fun q1=>⟨q1,ac4 q2 p2.size⟩) id)
  ·refine hr.aW.trans p2 (fun b cT hM => ?_);obtain⟨y,hy,yY⟩:=hM;obtain⟨x,_,vh,Gu⟩:=kU b y hy yY;by_cases BV:bz Γ.sin x∧¬gv x
   ·exact⟨x,BV.1,by rw[←hr.par x vh BV.1 BV.2];exact Gu⟩
   ·refine(hr.new x b vh ?_ Gu).m cT;by_cases h:bz Γ.sin x
    ·exact .inr (aco fun h2=>BV ⟨h,h2⟩)
    ·exact .inl h
 exact hk _ _ ⟨βn,I',rel.put (eO d1) (p4.pH hρ dx)⟩
end
end Go.Proofs.YtneklnlpgfeplaaGreat.Sym
