/- Lemmas for the statements of this seat. -/
import Derived.Test.YtfjfekodeplcoaaGreatWSymMa
namespace Go.Proofs.YtfjfekodeplcoaaGreat.Sym
open Go Go.RowKit
section
variable {P:Program} {T:jZ} {Γ:Ctx} {s s':St} {a:Act} {w:World} {β:Nat→Option Nat} {I:Nat→Prop} {o:Oper} {h:Hint} {ob:List Prop}
def Ad(σ:Nat→Option Nat):List FE→Option (List FE)
 |[]=>some []
 |.pv p::r=>match Ad σ r with
  |some fs=>some (.pv p::fs)
  |none=>none
 |.row y off len sz::r=>match σ y,Ad σ r with
  |some d,some fs=>some (.row d off len sz::fs)
  |_,_=>none
theorem tj{σ:Nat→Option Nat} : ∀{fs gs:List FE},Ad σ fs=some gs→gs.length=fs.length∧∀(j:Nat) g,gs[j]? = some g→∃f,fs[j]? = some f∧((∃p,f = .pv p∧g = .pv p)∨∃y d off len sz,f = .row y off len sz∧g = .row d off len sz∧σ y=some d)
 |[],gs,h=>by injection h with h;subst h;exact⟨rfl,fun j g hg=>by simp at hg⟩
 |.pv p::r,gs,h=>by
  simp only[Ad] at h
  split at h
  ·rename_i fs EP
   injection h with h;subst h
   obtain⟨h1,h2⟩:=tj EP
   refine⟨by simp[h1],fun j g hg => ?_⟩
   cases j with
   |zero=>simp at hg;subst hg;exact⟨_,rfl,.inl ⟨p,rfl,rfl⟩⟩
   |succ j=>exact h2 j g (by simpa using hg)
  ·cases h
 |.row y off len sz::r,gs,h=>by
  simp only[Ad] at h
  split at h
  ·rename_i d fs hd EP
   injection h with h;subst h
   obtain⟨h1,h2⟩:=tj EP
   refine⟨by simp[h1],fun j g hg => ?_⟩
   cases j with
   |zero=>simp at hg;subst hg;exact⟨_,rfl,.inr ⟨y,d,off,len,sz,rfl,rfl,hd⟩⟩
   |succ j=>exact h2 j g (by simpa using hg)
  ·cases h
def D4(news:List (Nat×Nat)):aN→aN→aN
 |[],sto=>sto
 |(y,sc)::r,sto=>match assoc news y with
  |some d=>(d,sc)::D4 news r sto
  |none=>D4 news r sto
def xW(n:Nat)(sto:aN)(news:List (Nat×Nat)):Bool :=
 news.all fun p=>(Nat.blt p.2 n&&(sto.get p.2).isNone)&&(ti (assoc news p.1) p.2&&ti (fe news p.2) p.1)
theorem mv{n:Nat}{sto:aN}{news:List (Nat×Nat)}(h:xW n sto news=true){y d:Nat}(hm:(y,d)∈news):d<n∧sto.get d=none∧assoc news y=some d∧fe news d=some y:=by
 unfold xW at h
 rw[List.all_eq_true] at h
 have:=h (y,d) hm
 simp only[Bool.and_eq_true] at this
 exact⟨Nat.le_of_ble_eq_true this.1.1,Option.isNone_iff_eq_none.1 this.1.2,pS this.2.1,pS this.2.2⟩
theorem Ct{n:Nat}(hn:n≤999999){Qi sto:aN}{news:List (Nat×Nat)}(mL:xW n Qi news=true):∀(l:aN),(∀p∈l,p.1<999999)→∀x,(D4 news l sto).get x=match (fe news x).bind l.get with
  |some sc=>some sc
  |none=>sto.get x
 |[],_,x=>by
  cases fe news x with
  |none=>rfl
  |some y=>rw[show (some y).bind (aN.get [])=aN.get [] y from rfl,aN.get_nil];rfl
 |(y,sc)::l,hl,x=>by
  have ih:=Ct (sto:=sto) hn mL l (fun p hp=>hl p (by simp[hp])) x
  have Nr:y<999999:=hl (y,sc) (by simp)
  simp only[D4]
  cases ha:assoc news y with
  |none =>
   rw[ih]
   cases hx:fe news x with
   |none=>rfl
   |some y' =>
    have hm:=fM hx
    obtain⟨_,_,h3,_⟩:=mv mL hm
    have iN:y≠y':=fun e=>by subst e;rw[ha] at h3;cases h3
    simp only[Option.bind_some]
    rw[aN.bW Nr,fJ iN,cond_false]
  |some d =>
   obtain⟨h1,_,_,h4⟩:=mv mL (gf ha)
   rw[aN.bW (by omega),ih]
   by_cases wY:d=x
   ·subst wY
    rw[h4,Nat.beq_refl,cond_true]
    simp only[Option.bind_some]
    rw[aN.bW Nr,Nat.beq_refl,cond_true]
   ·rw[fJ wY,cond_false]
    cases hx:fe news x with
    |none=>rfl
    |some y' =>
     have hm:=fM hx
     obtain⟨_,_,h3,_⟩:=mv mL hm
     have iN:y≠y':=fun e=>by subst e;rw[ha] at h3;injection h3 with h3;exact wY h3
     simp only[Option.bind_some]
     rw[aN.bW Nr,fJ iN,cond_false]
def vf(P:Program)(n:Nat)(o:Oper)(h:Hint)(s:St):Option (St×List Prop) :=
 match o.op,h with
 |.call c,.vO news fs sout=>match c.callee,l3 s.env c.args.toList,Ad (assoc news) fs with
  |.value (.func f),some ps,some gs=>bif (jH n o.dst&&xW n s.sto news)&&sout.all (fun p=>(Nat.blt p.1 999999&&fL p.2)&&(assoc news p.1).isSome) then
    some (⟨nj s.env o.dst (.gj gs),D4 news sout s.sto⟩,[aw P f (ps.map EV.pv) [] (.gj fs) sout]) else none
  |_,_,_=>none
 |_,_=>none
open Classical in
theorem wK(hs:∀r,bk Γ.sin r→Γ.n≤r)(hr:Rel Γ s a w)(aP:vf P Γ.n o h s=some (s',ob))(cd:dw ob){K:Act→World→Prop}{Q:Exit→Act→World→Prop}
  (hk:∀a' w',Rel Γ s' a' w'→K a' w'):o.wp P a w K Q:=by
 obtain⟨β,I,hr⟩:=hr
 unfold vf at aP
 split at aP
 ·rename_i c news fs sout rh
  split at aP
  ·rename_i f ps gs oz mP Nu
   cases hb:((jH Γ.n o.dst&&xW Γ.n s.sto news)&&sout.all (fun p=>(Nat.blt p.1 999999&&fL p.2)&&(assoc news p.1).isSome)) with
   |false=>simp[hb] at aP
   |true =>
    simp only[hb,cond_true] at aP
    simp only[Bool.and_eq_true] at hb
    obtain⟨⟨d1,d2⟩,d3⟩:=hb
    rw[List.all_eq_true] at d3
    have TJ:Γ.n≤999999:=Γ.small
    have JS:∀p∈sout,p.1<999999:=fun p hp=>by
     have:=d3 p hp
     simp only[Bool.and_eq_true] at this
     exact Nat.le_of_ble_eq_true this.1.1
    have Hr:∀y sc,aN.get sout y=some sc→fL sc=true∧∃d,assoc news y=some d:=fun y sc hy=>by
     have:=d3 _ (aN.xT JS hy)
     simp only[Bool.and_eq_true] at this
     exact⟨this.1.2,Option.isSome_iff_exists.1 this.2⟩
    injection aP with aP;injection aP with h1 h2
    subst h1;subst h2
    have hc:aw P f (ps.map EV.pv) [] (.gj fs) sout:=cd
    obtain⟨cl,args,GC⟩:=c
    have oz:cl = .value (.func f):=oz
    subst oz
    obtain⟨TL,TM⟩:=rq hr args.toList ps mP
    unfold Oper.wp
    rw[Ab hc.1 rh]
    rw[Oper.upon_enter]
    refine(hc.2 I w β (args.map a.eval) hr.ib (iw _ _ _) (by simp;simpa using TL.symm) (fun i e v he hv => ?_)).mono fun e w' hp => ?_
    ·rw[List.getElem?_map] at he
     obtain⟨p,hp,rfl⟩:=Option.map_eq_some_iff.1 he
     simp only[Array.getElem?_map] at hv
     obtain⟨x,hx,rfl⟩:=Option.map_eq_some_iff.1 hv
     exact TM i p x hp (by simpa using hx)
    ·obtain⟨v,β',rfl,_,p2,p3,p4,p5⟩:=hp
     have hM:∀b,¬∃x,bk [] x∧β x=some b:=fun b ⟨x,hx,_⟩=>fY hx
     have hG:∀b,¬BV [] β b:=fun b ⟨x,_,hx,_⟩=>fY hx
     generalize GJ:(fun b=>I b∨((fresh w w' b∨BV [] β b)∧∀x,bk sout x→β' x≠some b))=I' at p3 p4
     have hm:=hr.N3 (M:=fun b=>∃x,bk [] x∧β x=some b) (I':=I') p2 (fun b _=>hM b) (fun _ b _ _=>hM b) (fun b _ hb=>absurd hb (hM b)) (fun b hI=>by rw[←GJ];exact .inl hI)
      (fun b hI=>by
       rw[←GJ] at hI
       rcases hI with hI|⟨hI|hI,_⟩
       ·exact .inl hI
       ·exact .inr (.inl hI)
       ·exact absurd hI (hG b))
     have TN:∀x b,bk sout x→β' x=some b→fresh w w' b:=fun x b hx hb=>(p5 x b hx fY hb).resolve_right (hG b)
     generalize hN:(fun x:Nat=>∃y,fe news x=some y∧bk sout y)=N
     generalize hβ2:(fun x:Nat=>if N x then (fe news x).bind β' else β x)=β2
     have Hs:=Ct TJ (sto:=s.sto) d2 sout JS
     have EY:∀x,N x→∃y,fe news x=some y∧assoc news y=some x∧bk sout y∧β2 x=β' y∧x<Γ.n∧s.sto.get x=none:=fun x hx=>by
      have uk:=hx
      rw[←hN] at uk
      obtain⟨y,h1,h2⟩:=uk
      obtain⟨g1,g2,g3,g4⟩:=mv d2 (fM h1)
      exact⟨y,h1,g3,h2,by rw[←hβ2];simp only[if_pos hx,h1,Option.bind_some],g1,g2⟩
     have GL:∀y d,bk sout y→assoc news y=some d→N d∧β2 d=β' y∧bk (D4 news sout s.sto) d:=fun y d hy hd=>by
      obtain⟨g1,g2,g3,g4⟩:=mv d2 (gf hd)
      have Sh:N d:=by rw[←hN];exact⟨y,g4,hy⟩
      refine⟨Sh,by rw[←hβ2];simp only[if_pos Sh,g4,Option.bind_some],?_⟩
      obtain⟨sc,lO⟩:=Option.isSome_iff_exists.1 hy
      unfold bk
      rw[Hs,g4,Option.bind_some,lO];rfl
     have hx:=hm.ext (sto':=D4 news sout s.sto) (β':=β2) (N:=N)
      (fun x hx=>by
       rw[Hs]
       cases h1:fe news x with
       |none=>rfl
       |some y =>
        rw[Option.bind_some]
        have:¬bk sout y:=fun h=>hx (by rw[←hN];exact⟨y,h1,h⟩)
        unfold bk at this
        cases h2:aN.get sout y with
        |none=>rfl
        |some sc=>rw[h2] at this;exact absurd rfl this)
      (fun x hx=>by
       obtain⟨y,_,_,_,_,h1,h2⟩:=EY x hx
       exact⟨by unfold bk;rw[h2];simp,.inl (fun h=>absurd (hs _ h) (Nat.not_le_of_lt h1))⟩)
      (fun x hx=>by rw[←hβ2];simp only[if_neg hx])
      (fun x b hx hb=>by
       obtain⟨y,Po,Ns,hy,Cn,_,_⟩:=EY x hx
       rw[Cn] at hb
       obtain⟨sc,lO⟩:=Option.isSome_iff_exists.1 hy
       have LH:=TN y b hy hb
       refine⟨((p3.1 y sc lO).2 b hb).1,((p3.1 y sc lO).2 b hb).2,.inl (Nat.le_trans hr.aH.size LH.1),fun q hq e => ?_,fun x' uk cX => ?_⟩
       ·have:=hr.lb q b hq e;have:=LH.1;omega
       ·obtain⟨y',_,LY,Cr,Qj,_,_⟩:=EY x' uk
        rw[Qj] at cX
        have:=p3.2 y y' b hy Cr hb cX
        subst this
        rw[Ns] at LY;injection LY with LY)
      (fun x sc hx hg=>by
       obtain⟨y,Po,Ns,hy,Cn,_,hn⟩:=EY x hx
       rw[Hs,Po,Option.bind_some] at hg
       obtain⟨sc',lO⟩:=Option.isSome_iff_exists.1 hy
       rw[lO] at hg
       injection hg with hg;subst hg
       exact(p3.1 y sc' lO).1.closed (Hr y sc' lO).1 Cn (fun _ h=>h))
     refine hk _ _ ⟨β2,I',hx.put (eb d1) ?_⟩
     obtain⟨us,q1,q2,q3⟩:=p4
     obtain⟨l1,l2⟩:=tj Nu
     refine⟨us,q1,by rw[q2,l1],fun j g u hg hu => ?_⟩
     obtain⟨f0,Qk,TP⟩:=l2 j g hg
     have h3:=q3 j f0 u Qk hu
     rcases TP with ⟨p,rfl,rfl⟩|⟨y,d,off,len,sz,rfl,rfl,Qh⟩
     ·exact h3
     ·obtain⟨r1,r2,r3⟩:=GL y d h3.1 Qh
      exact⟨r3,by rw[r2];exact h3.2⟩
  ·cases aP
 ·cases aP
theorem aw.sub{f:FuncId}{args:List EV}{sin sout Cu:aN}{fs:List FE}(hc:aw P f args sin (.gj fs) sout)
  (hs:∀x sc,aN.get Cu x=some sc→aN.get sout x=some sc∧fL sc=true) (EP:∀r off len sz,FE.row r off len sz∈fs→bk Cu r):aw P f args sin (.gj fs) Cu:=by
 have hd:∀x,bk Cu x→bk sout x:=fun x hx=>by
  obtain⟨sc,h⟩:=Option.isSome_iff_exists.1 hx
  unfold bk;rw[(hs x sc h).1];rfl
 refine⟨hc.1,fun I w β vs hI Co GD hv=>(hc.2 I w β vs hI Co GD hv).mono fun e w' hp => ?_⟩
 obtain⟨v,β',rfl,p1,p2,p3,p4,p5⟩:=hp
 have Ji:∀b,(I b∨((fresh w w' b∨BV sin β b)∧∀x,bk sout x→β' x≠some b))→(I b∨((fresh w w' b∨BV sin β b)∧∀x,bk Cu x→β' x≠some b)) :=
  fun b hb=>hb.imp id (fun h=>⟨h.1,fun x hx=>h.2 x (hd x hx)⟩)
 refine⟨v,β',rfl,p1,p2,⟨fun r sc hr => ?_,fun r r' b h1 h2 h3 h4=>p3.2 r r' b (hd r h1) (hd r' h2) h3 h4⟩,?_,fun x b hx=>p5 x b (hd x hx)⟩
 ·obtain⟨g1,g2⟩:=hs r sc hr
  obtain⟨q1,q2⟩:=p3.1 r sc g1
  refine⟨q1.closed g2 rfl Ji,fun b hb=>⟨(q2 b hb).1,fun GJ => ?_⟩⟩
  rcases GJ with GJ|GJ
  ·exact(q2 b hb).2 (.inl GJ)
  ·exact GJ.2 r (by unfold bk;rw[hr];rfl) hb
 ·obtain⟨us,q1,q2,q3⟩:=p4
  refine⟨us,q1,q2,fun j g u hg hu => ?_⟩
  have:=q3 j g u hg hu
  cases g with
  |pv p=>exact⟨this.1,this.2.mono Ji (fun _ _ _=>rfl)⟩
  |row r off len sz=>exact⟨EP r off len sz (List.mem_of_getElem? hg),this.2⟩
end
end Go.Proofs.YtfjfekodeplcoaaGreat.Sym
