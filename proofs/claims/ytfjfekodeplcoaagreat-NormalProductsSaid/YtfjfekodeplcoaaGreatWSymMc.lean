/- Lemmas for the statements of this seat. -/
import Derived.Test.YtfjfekodeplcoaaGreatWSymMa
namespace Go.Proofs.YtfjfekodeplcoaaGreat.Sym
open Go Go.RowKit
section
variable {P:Program} {T:ja} {Γ:Ctx} {s s':St} {a:Act} {w:World} {β:Nat→Option Nat} {I:Nat→Prop} {o:Oper} {h:Hint} {ob:List Prop}
def wU(σ:Nat→Option Nat):List FE→Option (List FE)
 |[]=>some []
 |.pv p::r=>match wU σ r with
  |some fs=>some (.pv p::fs)
  |none=>none
 |.row y off len sz::r=>match σ y,wU σ r with
  |some d,some fs=>some (.row d off len sz::fs)
  |_,_=>none
 |.cv .. :: _=>none
theorem qt{σ:Nat→Option Nat} : ∀{fs gs:List FE},wU σ fs=some gs→gs.length=fs.length∧∀(j:Nat) g,gs[j]? = some g→∃f,fs[j]? = some f∧((∃p,f = .pv p∧g = .pv p)∨∃y d off len sz,f = .row y off len sz∧g = .row d off len sz∧σ y=some d)
 |[],gs,h=>by injection h with h;subst h;exact⟨rfl,fun j g hg=>by simp at hg⟩
 |.pv p::r,gs,h=>by
  simp only[wU] at h
  split at h
  ·rename_i fs BB
   injection h with h;subst h
   obtain⟨h1,h2⟩:=qt BB
   refine⟨by simp[h1],fun j g hg => ?_⟩
   cases j with
   |zero=>simp at hg;subst hg;exact⟨_,rfl,.inl ⟨p,rfl,rfl⟩⟩
   |succ j=>exact h2 j g (by simpa using hg)
  ·cases h
 |.row y off len sz::r,gs,h=>by
  simp only[wU] at h
  split at h
  ·rename_i d fs hd BB
   injection h with h;subst h
   obtain⟨h1,h2⟩:=qt BB
   refine⟨by simp[h1],fun j g hg => ?_⟩
   cases j with
   |zero=>simp at hg;subst hg;exact⟨_,rfl,.inr ⟨y,d,off,len,sz,rfl,rfl,hd⟩⟩
   |succ j=>exact h2 j g (by simpa using hg)
  ·cases h
 |.cv .. :: r,gs,h=>by simp[wU] at h
def xJ(news:List (Nat×Nat)):aG→aG→aG
 |[],sto=>sto
 |(y,sc)::r,sto=>match assoc news y with
  |some d=>(d,sc)::xJ news r sto
  |none=>xJ news r sto
def tJ(n:Nat)(sto:aG)(news:List (Nat×Nat)):Bool :=
 news.all fun p=>(Nat.blt p.2 n&&(sto.get p.2).isNone)&&(tG (assoc news p.1) p.2&&tG (et news p.2) p.1)
theorem jm{n:Nat}{sto:aG}{news:List (Nat×Nat)}(h:tJ n sto news=true){y d:Nat}(hm:(y,d)∈news):d<n∧sto.get d=none∧assoc news y=some d∧et news d=some y:=by
 unfold tJ at h
 rw[List.all_eq_true] at h
 have:=h (y,d) hm
 simp only[Bool.and_eq_true] at this
 exact⟨Nat.le_of_ble_eq_true this.1.1,Option.isNone_iff_eq_none.1 this.1.2,pS this.2.1,pS this.2.2⟩
theorem yY{n:Nat}(hn:n≤999999){Rx sto:aG}{news:List (Nat×Nat)}(mK:tJ n Rx news=true):∀(l:aG),(∀p∈l,p.1<999999)→∀x,(xJ news l sto).get x=match (et news x).bind l.get with
  |some sc=>some sc
  |none=>sto.get x
 |[],_,x=>by
  cases et news x with
  |none=>rfl
  |some y=>rw[show (some y).bind (aG.get [])=aG.get [] y from rfl,aG.get_nil];rfl
 |(y,sc)::l,hl,x=>by
  have ih:=yY (sto:=sto) hn mK l (fun p hp=>hl p (by simp[hp])) x
  have OA:y<999999:=hl (y,sc) (by simp)
  simp only[xJ]
  cases ha:assoc news y with
  |none =>
   rw[ih]
   cases hx:et news x with
   |none=>rfl
   |some y' =>
    have hm:=dY hx
    obtain⟨_,_,h3,_⟩:=jm mK hm
    have iO:y≠y':=fun e=>by subst e;rw[ha] at h3;cases h3
    simp only[Option.bind_some]
    rw[aG.bY OA,di iO,cond_false]
  |some d =>
   obtain⟨h1,_,_,h4⟩:=jm mK (fD ha)
   rw[aG.bY (by omega),ih]
   by_cases ru:d=x
   ·subst ru
    rw[h4,Nat.beq_refl,cond_true]
    simp only[Option.bind_some]
    rw[aG.bY OA,Nat.beq_refl,cond_true]
   ·rw[di ru,cond_false]
    cases hx:et news x with
    |none=>rfl
    |some y' =>
     have hm:=dY hx
     obtain⟨_,_,h3,_⟩:=jm mK hm
     have iO:y≠y':=fun e=>by subst e;rw[ha] at h3;injection h3 with h3;exact ru h3
     simp only[Option.bind_some]
     rw[aG.bY OA,di iO,cond_false]
def vY(P:Program)(n:Nat)(o:Oper)(h:Hint)(s:St):Option (St×List Prop) :=
 match o.op,h with
 |.call c,.HJ news fs sout=>match c.callee,kh s.env c.args.toList,wU (assoc news) fs with
  |.value (.func f),some ps,some gs=>bif (gp n o.dst&&tJ n s.sto news)&&sout.all (fun p=>(Nat.blt p.1 999999&&eT p.2)&&(assoc news p.1).isSome) then
    some (⟨jg s.env o.dst (.dV gs),xJ news sout s.sto⟩,[av P f (ps.map EV.pv) [] (.dV fs) sout]) else none
  |_,_,_=>none
 |_,_=>none
open Classical in
theorem xK(hs:∀r,aS Γ.sin r→Γ.n≤r)(hr:Rel Γ s a w)(aD:vY P Γ.n o h s=some (s',ob))(bK:cW ob){K:Act→World→Prop}{Q:Exit→Act→World→Prop}
  (hk:∀a' w',Rel Γ s' a' w'→K a' w'):o.wp P a w K Q:=by
 obtain⟨β,I,hr⟩:=hr
 unfold vY at aD
 split at aD
 ·rename_i c news fs sout ml
  split at aD
  ·rename_i f ps gs jb jf LK
   cases hb:((gp Γ.n o.dst&&tJ Γ.n s.sto news)&&sout.all (fun p=>(Nat.blt p.1 999999&&eT p.2)&&(assoc news p.1).isSome)) with
   |false=>simp[hb] at aD
   |true =>
    simp only[hb,cond_true] at aD
    simp only[Bool.and_eq_true] at hb
    obtain⟨⟨d1,d2⟩,d3⟩:=hb
    rw[List.all_eq_true] at d3
    have Ry:Γ.n≤999999:=Γ.small
    have yQ:∀p∈sout,p.1<999999:=fun p hp=>by
     have:=d3 p hp
     simp only[Bool.and_eq_true] at this
     exact Nat.le_of_ble_eq_true this.1.1
    have Ia:∀y sc,aG.get sout y=some sc→eT sc=true∧∃d,assoc news y=some d:=fun y sc hy=>by
     have:=d3 _ (aG.uN yQ hy)
     simp only[Bool.and_eq_true] at this
     exact⟨this.1.2,Option.isSome_iff_exists.1 this.2⟩
    injection aD with aD;injection aD with h1 h2
    subst h1;subst h2
    have hc:av P f (ps.map EV.pv) [] (.dV fs) sout:=bK
    obtain⟨cl,args,CY⟩:=c
    have jb:cl = .value (.func f):=jb
    subst jb
    obtain⟨MU,MV⟩:=mn hr args.toList ps jf
    unfold Oper.wp
    rw[pM hc.1 ml]
    rw[Oper.upon_enter]
    refine(hc.2 I w β (args.map a.eval) hr.ib (jF _ _ _) (by simp;simpa using MU.symm) (fun i e v he hv => ?_) hr.lay.nil).mono fun e w' hp => ?_
    ·rw[List.getElem?_map] at he
     obtain⟨p,hp,rfl⟩:=Option.map_eq_some_iff.1 he
     simp only[Array.getElem?_map] at hv
     obtain⟨x,hx,rfl⟩:=Option.map_eq_some_iff.1 hv
     exact MV i p x hp (by simpa using hx)
    ·obtain⟨v,β',rfl,_,p2,p3,p4,p5⟩:=hp
     have hM:∀b,¬∃x,aS [] x∧β x=some b:=fun b ⟨x,hx,_⟩=>ez hx
     have hG:∀b,¬xy [] β b:=fun b ⟨x,_,hx,_⟩=>ez hx
     generalize xZ:(fun b=>I b∨((fresh w w' b∨xy [] β b)∧∀x,aS sout x→β' x≠some b))=I' at p3 p4
     have hm:=hr.Da (M:=fun b=>∃x,aS [] x∧β x=some b) (I':=I') p2 (fun b _=>hM b) (fun _ b _ _=>hM b) (fun b _ hb=>absurd hb (hM b)) (fun b hI=>by rw[←xZ];exact .inl hI)
      (fun b hI=>by
       rw[←xZ] at hI
       rcases hI with hI|⟨hI|hI,_⟩
       ·exact .inl hI
       ·exact .inr (.inl hI)
       ·exact absurd hI (hG b))
     have Pd:∀x b,aS sout x→β' x=some b→fresh w w' b:=fun x b hx hb=>(p5 x b hx ez hb).resolve_right (hG b)
     generalize hN:(fun x:Nat=>∃y,et news x=some y∧aS sout y)=N
     generalize hβ2:(fun x:Nat=>if N x then (et news x).bind β' else β x)=β2
     have qX:=yY Ry (sto:=s.sto) d2 sout yQ
     have oG:∀x,N x→∃y,et news x=some y∧assoc news y=some x∧aS sout y∧β2 x=β' y∧x<Γ.n∧s.sto.get x=none:=fun x hx=>by
      have qV:=hx
      rw[←hN] at qV
      obtain⟨y,h1,h2⟩:=qV
      obtain⟨g1,g2,g3,g4⟩:=jm d2 (dY h1)
      exact⟨y,h1,g3,h2,by rw[←hβ2];simp only[if_pos hx,h1,Option.bind_some],g1,g2⟩
     have FT:∀y d,aS sout y→assoc news y=some d→N d∧β2 d=β' y∧aS (xJ news sout s.sto) d:=fun y d hy hd=>by
      obtain⟨g1,g2,g3,g4⟩:=jm d2 (fD hd)
      have Pf:N d:=by rw[←hN];exact⟨y,g4,hy⟩
      refine⟨Pf,by rw[←hβ2];simp only[if_pos Pf,g4,Option.bind_some],?_⟩
      obtain⟨sc,gD⟩:=Option.isSome_iff_exists.1 hy
      unfold aS
      rw[qX,g4,Option.bind_some,gD];rfl
     have hx:=hm.ext (sto':=xJ news sout s.sto) (β':=β2) (N:=N)
      (fun x hx=>by
       rw[qX]
       cases h1:et news x with
       |none=>rfl
       |some y =>
        rw[Option.bind_some]
        have:¬aS sout y:=fun h=>hx (by rw[←hN];exact⟨y,h1,h⟩)
        unfold aS at this
        cases h2:aG.get sout y with
        |none=>rfl
        |some sc=>rw[h2] at this;exact absurd rfl this)
      (fun x hx=>by
       obtain⟨y,_,_,_,_,h1,h2⟩:=oG x hx
       exact⟨by unfold aS;rw[h2];simp,.inl (fun h=>absurd (hs _ h) (Nat.not_le_of_lt h1))⟩)
      (fun x hx=>by rw[←hβ2];simp only[if_neg hx])
      (fun x b hx hb=>by
       obtain⟨y,MX,LG,hy,qT,_,_⟩:=oG x hx
       rw[qT] at hb
       obtain⟨sc,gD⟩:=Option.isSome_iff_exists.1 hy
       have GN:=Pd y b hy hb
       refine⟨((p3.1 y sc gD).2 b hb).1,((p3.1 y sc gD).2 b hb).2,.inl (Nat.le_trans hr.aN.size GN.1),fun q hq e => ?_,fun x' qV cI => ?_⟩
       ·have:=hr.lb q b hq e;have:=GN.1;omega
       ·obtain⟨y',_,MY,yT,Ig,_,_⟩:=oG x' qV
        rw[Ig] at cI
        have:=p3.2 y y' b hy yT hb cI
        subst this
        rw[LG] at MY;injection MY with MY)
      (fun x sc hx hg=>by
       obtain⟨y,MX,LG,hy,qT,_,hn⟩:=oG x hx
       rw[qX,MX,Option.bind_some] at hg
       obtain⟨sc',gD⟩:=Option.isSome_iff_exists.1 hy
       rw[gD] at hg
       injection hg with hg;subst hg
       exact(p3.1 y sc' gD).1.closed (Ia y sc' gD).1 qT (fun _ h=>h))
     refine hk _ _ ⟨β2,I',hx.put (c9 d1) ?_⟩
     obtain⟨us,q1,q2,q3⟩:=p4
     obtain⟨l1,l2⟩:=qt LK
     refine⟨us,q1,by rw[q2,l1],fun j g u hg hu => ?_⟩
     obtain⟨f0,Pg,Rz⟩:=l2 j g hg
     have h3:=q3 j f0 u Pg hu
     rcases Rz with ⟨p,rfl,rfl⟩|⟨y,d,off,len,sz,rfl,rfl,O8⟩
     ·exact h3
     ·obtain⟨r1,r2,r3⟩:=FT y d h3.1 O8
      exact⟨r3,by rw[r2];exact h3.2⟩
  ·cases aD
 ·cases aD
theorem av.sub{f:FuncId}{args:List EV}{sin sout pU:aG}{fs:List FE}(hc:av P f args sin (.dV fs) sout)
  (hs:∀x sc,aG.get pU x=some sc→aG.get sout x=some sc∧eT sc=true) (BB:∀r off len sz,FE.row r off len sz∈fs→aS pU r) (MZ:∀j len sz,FE.cv j len sz ∉ fs:=by simp):av P f args sin (.dV fs) pU:=by
 have hd:∀x,aS pU x→aS sout x:=fun x hx=>by
  obtain⟨sc,h⟩:=Option.isSome_iff_exists.1 hx
  unfold aS;rw[(hs x sc h).1];rfl
 refine⟨hc.1,fun I w β vs hI AD GO hv hy=>(hc.2 I w β vs hI AD GO hv hy).mono fun e w' hp => ?_⟩
 obtain⟨v,β',rfl,p1,p2,p3,p4,p5⟩:=hp
 have ER:∀b,(I b∨((fresh w w' b∨xy sin β b)∧∀x,aS sout x→β' x≠some b))→(I b∨((fresh w w' b∨xy sin β b)∧∀x,aS pU x→β' x≠some b)) :=
  fun b hb=>hb.imp id (fun h=>⟨h.1,fun x hx=>h.2 x (hd x hx)⟩)
 refine⟨v,β',rfl,p1,p2,⟨fun r sc hr => ?_,fun r r' b h1 h2 h3 h4=>p3.2 r r' b (hd r h1) (hd r' h2) h3 h4⟩,?_,fun x b hx=>p5 x b (hd x hx)⟩
 ·obtain⟨g1,g2⟩:=hs r sc hr
  obtain⟨q1,q2⟩:=p3.1 r sc g1
  refine⟨q1.closed g2 rfl ER,fun b hb=>⟨(q2 b hb).1,fun xZ => ?_⟩⟩
  rcases xZ with xZ|xZ
  ·exact(q2 b hb).2 (.inl xZ)
  ·exact xZ.2 r (by unfold aS;rw[hr];rfl) hb
 ·obtain⟨us,q1,q2,q3⟩:=p4
  refine⟨us,q1,q2,fun j g u hg hu => ?_⟩
  have:=q3 j g u hg hu
  cases g with
  |pv p=>exact⟨this.1,this.2.mono ER (fun _ _ _=>rfl)⟩
  |row r off len sz=>exact⟨BB r off len sz (List.mem_of_getElem? hg),this.2⟩
  |cv j len sz=>exact absurd (List.mem_of_getElem? hg) (MZ j len sz)
end
end Go.Proofs.YtfjfekodeplcoaaGreat.Sym
