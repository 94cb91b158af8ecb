/- Lemmas for the statements of this seat. -/
import Derived.Test.YtfjfekodeplcoaaGreatWSymR
namespace Go.Proofs.YtfjfekodeplcoaaGreat.Sym
open Go Go.RowKit
section
variable {P:Program} {T:ja} {Γ:Ctx} {s s':St} {a:Act} {w:World} {ops:Array Oper} {Q:Exit→Act→World→Prop}
theorem FZ{ms:List Nat}{hd:List Nat} : ∀{r pre:List Nat},c2 ops ms hd pre r=true→∀p i q,r=p++i::q→∀o,ops[i]? = some o→∀t∈looks ops o,∀j∈hd,∀oj,ops[j]? = some oj→oj.dst=some t→(j∈pre∨j∈p)∧(ms.getD i 0).testBit j=true
 |[],_,_,p,i,q,h=>by cases p<;>cases h
 |x::r,pre,h,p,i,q,he=>by
  simp only[c2,Bool.and_eq_true] at h
  cases p with
  |nil =>
   injection he with he _
   subst he
   intro o ho t ht j hj oj RV hd
   have h1:=h.1
   rw[ho] at h1
   simp only[List.all_eq_true] at h1
   have h2:=h1 t ht j hj
   rw[RV] at h2
   simp only[hd] at h2
   simp only[Nat.beq_refl,Bool.not_true,Bool.false_or,Bool.and_eq_true] at h2
   exact⟨.inl (by simpa using h2.1),h2.2⟩
  |cons y p =>
   injection he with he fj
   subst he
   intro o ho t ht j hj oj RV hd
   obtain⟨h3,h4⟩:=FZ h.2 p i q fj o ho t ht j hj oj RV hd
   refine⟨?_,h4⟩
   rcases h3 with h3|h3
   ·rcases List.mem_cons.1 h3 with rfl|h3
    ·exact .inr (by simp)
    ·exact .inl h3
   ·exact .inr (by simp[h3])
theorem tm{n:Nat} : ∀(rs:List HR) (hs:List Hint) (s:St),AH P T n ops rs hs s→distinct ops (rs.map (·.1))=true→tL rs
 |[],_,_,_,_=>trivial
 |(i,o,res)::rs,hs,s,aw,h=>by
  obtain⟨h1,_,h3⟩:=aw
  simp only[List.map_cons,distinct,Bool.and_eq_true] at h
  refine⟨fun d hd x hx e => ?_,tm rs _ _ h3 h.2⟩
  have h4:=h.1
  rw[h1] at h4
  simp only[Option.bind_some,hd,List.all_eq_true,List.mem_map] at h4
  obtain⟨pre,post,mQ⟩:=List.append_of_mem hx
  obtain⟨_,QN,_⟩:=AH.at h3 pre x post mQ
  have h5:=h4 x.1 ⟨x,hx,rfl⟩
  rw[QN] at h5
  simp only[Option.bind_some,e,Nat.beq_refl,Bool.not_true] at h5
  cases h5
theorem map_inj{α β:Type}(f:α→β)(l:List α)(h:(l.map f).Nodup):∀x∈l,∀y∈l,f x=f y→x=y:=by
 induction l with
 |nil=>intro x hx;cases hx
 |cons z l ih =>
  simp only[List.map_cons] at h
  obtain⟨h1,h2⟩:=List.nodup_cons.1 h
  intro x hx y hy e
  rcases List.mem_cons.1 hx with h3|h3<;>rcases List.mem_cons.1 hy with h4|h4
  ·rw[h3,h4]
  ·exact absurd (List.mem_map.2 ⟨y,h4,by rw[←e,h3]⟩) h1
  ·exact absurd (List.mem_map.2 ⟨x,h3,by rw[e,h4]⟩) h1
  ·exact ih h2 x h3 y h4 e
theorem G4{ms hd:List Nat}(tl:List Nat)(h:tQ ms hd tl=true):∀i∈tl,∀j∈hd,(ms.getD i 0).testBit j=true:=by
 induction tl with
 |nil=>intro i hi;cases hi
 |cons t tl ih =>
  simp only[tQ,Bool.and_eq_true,List.all_eq_true] at h
  intro i hi j hj
  rcases List.mem_cons.1 hi with hi|hi
  ·subst hi;exact h.1.1 j hj
  ·exact ih h.2 i hi j hj
theorem Ix(hT:lH P T)(hs:∀r,aS Γ.sin r→Γ.n≤r)(A9:∀i,i<ops.size→∀e∈ix ops i,e<ops.size){hd tl:List Nat}{rs:List HR}{hh ht:List Hint}{s1:St}{ob:List Prop}
  (G3:rs.map (·.1)=hd) (aw:AH P T Γ.n ops rs hh s1) (Ks:distinct ops hd=true) (EU:c2 ops (nS ops) hd [] hd=true) (wm:tQ (nS ops) hd tl=true) (Iy:tR (nS ops) rs=true) (rb:(hd++tl).Nodup)
  (jC:∀i∈hd++tl,i<ops.size) (Pu:∀r:List Nat,(∀i∈r,i∈hd++tl)→r≠[]→∃i∈r,∀e∈ix ops i,e ∉ r) (MB:∀x∈rs,cW x.2.2.ob)
  (aD:zn P T Γ.n ops tl ht (app [] rs s1)=some (s',ob)) (bK:cW ob) (hk:∀a' w',Rel Γ s' a' w'→Q .normal a' w') :
  ∀(fuel:Nat) (U:List Nat) (bQ:Array Bool) (a:Act) (w:World),U.length=fuel→U.Nodup→(∀i∈U,i∈hd++tl)→(∀i∈tl,i∈U)→Iu ops bQ U→(∀i,i<ops.size→i ∉ U→∀e∈ix ops i,e ∉ U) →
   Rel Γ (app U rs s1) a w→wpAny P .any ops Q fuel bQ a w:=by
 have My:=tm rs hh s1 aw (by rw[G3];exact Ks)
 have M5:hd.Nodup:=(List.nodup_append.1 rb).1
 have Iz:tl.Nodup:=(List.nodup_append.1 rb).2.1
 have LQ:∀i∈hd,i ∉ tl:=fun i hi uq=>(List.nodup_append.1 rb).2.2 i hi i uq rfl
 have IA:∀(U:List Nat) (bQ:Array Bool) (a:Act) (w:World),U.Nodup→(∀i,i∈U↔i∈tl)→Iu ops bQ U→(∀i,i<ops.size→i ∉ U→∀e∈ix ops i,e ∉ U)→Rel Γ (app U rs s1) a w →
   wpAny P .any ops Q U.length bQ a w:=by
  intro U bQ a w hn hU hl jb hr
  have RW:∀(l:List HR) (s:St),(∀x∈l,x.1 ∉ U)→app U l s=app [] l s:=by
   intro l
   induction l with
   |nil=>intro s _;rfl
   |cons x l ih =>
    intro s hx
    rw[qx]
    obtain⟨i,o,res⟩:=x
    show app U l (if i∈U then s else hAdd s o.dst res)=_
    rw[if_neg (hx (i,o,res) (by simp))]
    exact ih _ (fun y hy=>hx y (by simp[hy]))
  rw[RW rs s1 (fun x hx M4=>LQ x.1 (by rw[←G3];exact List.mem_map.2 ⟨x,hx,rfl⟩) ((hU _).1 M4))] at hr
  have hlen:U.length=tl.length:=by
   have h1:=List.Nodup.length_le_of_subset hn (fun i hi=>(hU i).1 hi)
   have h2:=List.Nodup.length_le_of_subset Iz (fun i hi=>(hU i).2 hi)
   omega
  rw[hlen]
  refine Iv hT hs (hd:=hd) A9 hk tl ht _ ob bQ a w Iz (fun i hi=>jC i (by simp[hi])) wm ⟨hl.1,fun j hj=>by rw[hl.2 j hj,hU]⟩
   (fun i hi KL e he het=>jb i hi (fun h=>KL ((hU i).1 h)) e he ((hU e).2 het)) (fun r hr iO=>Pu r (fun i hi=>by simp[hr.subset hi]) iO) hr aD bK
 intro fuel
 induction fuel with
 |zero =>
  intro U bQ a w hlen hn hU QO hl jb hr
  have:U=[]:=List.eq_nil_of_length_eq_zero hlen
  subst this
  have RX:∀i,i∈([]:List Nat)↔i∈tl:=fun i=>⟨fun h=>(by cases h),fun h=>QO i h⟩
  exact IA [] bQ a w hn RX hl jb hr
 |succ fuel ih =>
  intro U bQ a w hlen hn hU QO hl jb hr
  refine⟨fun BG => ?_,fun i hi => ?_⟩
  ·obtain⟨i,hi,lI⟩:=Pu U hU (fun e=>by rw[e] at hlen;cases hlen)
   have:i∈Region.ready .any ops bQ:=(jI hl (A9 i (jC i (hU i hi)))).2 ⟨jC i (hU i hi),hi,lI⟩
   rw[BG] at this;cases this
  ·have cQ:i<ops.size:=by
    have Kh:=hi
    rw[mem_ready] at Kh
    obtain⟨_,o,ho,_⟩:=Kh
    exact(Array.getElem?_eq_some_iff.1 ho).1
   obtain⟨_,Hx,lI⟩:=(jI hl (A9 i cQ)).1 hi
   have mask:∀j,((nS ops).getD i 0).testBit j=true→j ∉ U:=fun j hj =>
    (tO ops i j hj (fun x=>x<ops.size∧x ∉ U) (fun x hx e he=>⟨A9 x hx.1 e he,jb x hx.1 hx.2 e he⟩) (fun e he=>⟨A9 i cQ e he,lI e he⟩)).2
   rcases List.mem_append.1 (hU i Hx) with T1|KL
   ·
    rw[←G3] at T1
    obtain⟨x,hx,M6⟩:=List.mem_map.1 T1
    obtain⟨pre,post,mQ⟩:=List.append_of_mem hx
    obtain⟨h,QN,nP⟩:=AH.at aw pre x post mQ
    have QC:∀y∈pre,y∈rs:=fun y hy=>by rw[mQ];simp[hy]
    have Pv:tL pre:=zo (post:=x::post) (by rw[←mQ];exact My)
    have G5:∀y∈rs,y.1∈hd:=fun y hy=>by rw[←G3];exact List.mem_map.2 ⟨y,hy,rfl⟩
    have ml:∀y∈rs,ops[y.1]? = some y.2.1:=fun y hy=>by
     obtain⟨p,q,LR⟩:=List.append_of_mem hy
     obtain⟨_,VD,_⟩:=AH.at aw p y q LR
     exact VD
    have A8:∀y∈rs,∀z∈rs,y.1=z.1→y=z:=map_inj (·.1) rs (by rw[G3];exact M5)
    have T2:=wZ (nS ops) pre post x (by rw[←mQ];exact Iy)
    have Pw:∀y∈rs,((nS ops).getD y.1 0).testBit x.1=true→y.1∈U:=fun y hy hm=>Classical.byContradiction fun hc=>by
     have Px:y.1<ops.size:=jC y.1 (by simp[G5 y hy])
     have:=(tO ops y.1 x.1 hm (fun z=>z<ops.size∧z ∉ U) (fun z hz e he=>⟨A9 z hz.1 e he,jb z hz.1 hz.2 e he⟩) (fun e he=>⟨A9 y.1 Px e he,jb y.1 Px hc e he⟩)).2
     rw[M6] at this
     exact this Hx
    have VE:∀y∈post,y∈rs:=fun y hy=>by rw[mQ];simp[hy]
    have BT:∀r,(iT x=some r∨x.2.2.rd=some r)→(∀y∈pre,iT y=some r→y.1 ∉ U)∧(∀y∈post,iT y=some r→y.1∈U):=by
     intro r xX
     refine⟨fun y hy hw=>mask y.1 (by rw[←M6];exact T2.1 y hy (Dk hw xX)),fun y hy hw=>Pw y (VE y hy) (T2.2 y hy ?_)⟩
     rcases xX with xX|xX
     ·exact Dk xX (.inl hw)
     ·exact Iw xX hw
    have M4:x.1∈U:=by rw[M6];exact Hx
    have gE:∀r,(iT x=some r∨x.2.2.rd=some r)→(app U rs s1).sto.get r=(app [] pre s1).sto.get r:=fun r dy=>by
     rw[mQ];exact zl s1 (BT r dy).1 (BT r dy).2 M4
    have iO:∀y∈pre,y≠x:=fun y hy e=>by
     have Dl:=M5
     rw[←G3,mQ,List.map_append,List.map_cons] at Dl
     exact(List.nodup_append.1 Dl).2.2 y.1 (List.mem_map.2 ⟨y,hy,rfl⟩) x.1 (by simp) (by rw[e])
    have RY:x ∉ post:=fun hm=>by
     have Dl:=M5
     rw[←G3,mQ,List.map_append,List.map_cons] at Dl
     exact(List.nodup_cons.1 (List.nodup_append.1 Dl).2.1).1 (List.mem_map.2 ⟨x,hm,rfl⟩)
    have he:∀t∈looks ops x.2.1,(app U rs s1).env.get t=(app [] pre s1).env.get t:=by
     intro t ht
     by_cases hy:∃y∈rs,y.2.1.dst=some t
     ·obtain⟨y,hy,OG⟩:=hy
      have GD:hd=pre.map (·.1)++x.1::post.map (·.1):=by rw[←G3,mQ];simp
      obtain⟨h1,h2⟩:=FZ EU _ _ _ GD x.2.1 QN t ht y.1 (G5 y hy) y.2.1 (ml y hy) OG
      have QM:y.1 ∉ U:=mask y.1 (by rw[←M6];exact h2)
      have hyp:y∈pre:=by
       rcases h1 with h1|h1
       ·cases h1
       ·obtain⟨z,hz,VF⟩:=List.mem_map.1 h1
        rw[←A8 z (QC z hz) y hy VF];exact hz
      rw[kY U t y OG QM rs s1 My hy,kY [] t y OG (by simp) pre s1 Pv hyp]
     ·rw[jH U t rs s1 (fun y yT LN=>absurd ⟨y,yT,LN⟩ hy),jH [] t pre s1 (fun y yT LN=>absurd ⟨y,QC y yT,LN⟩ hy)]
    have F0:BR P T Γ.n ops x.2.1 h (app U rs s1)=some x.2.2:=by
     refine E5 nP he (fun r GZ=>gE r ?_) (fun d Ee hn oB => ?_)
     ·rcases GZ with h1|⟨h1,h2⟩
      ·exact .inr h1
      ·left;unfold iT;rw[h1];exact h2
     ·rw[gE d (.inl (by
       unfold iT
       cases CL:x.2.2.new with
       |none=>rw[CL] at hn;cases hn
       |some sc=>rw[Ee]))]
      exact oB
    unfold wpOp
    rw[←M6,QN]
    refine E1 hT hs hr F0 (MB x hx) (fun a' w' dy => ?_)
    have IB:=G2 mQ My (U:=U) (U':=Di U x.1) (fun j=>np) (fun y hy e=>A8 y hy x hx e) (fun hm=>iO x hm rfl) M4 (fun r Mq=>(BT r (.inl Mq)).1) (fun r Mq=>(BT r (.inl Mq)).2) RY s1
    have RZ:x.1<ops.size:=by rw[M6];exact cQ
    refine ih (Di U x.1) _ a' w' (by have:=FY hn M4;omega) (List.Pairwise.filter _ hn) (fun j hj=>hU j (np.1 hj).1) (fun j hj=>np.2 ⟨QO j hj,fun e=>LQ x.1 (G5 x hx) (e ▸ hj)⟩)
     (hl.set RZ) (fun j hj OH e fj R0 => ?_) (Rel.HY IB dy)
    have Py:=(np.1 R0).1
    by_cases hjx:j=x.1
    ·subst hjx
     rw[M6] at fj
     exact lI e fj Py
    ·exact jb j hj (fun h=>OH (np.2 ⟨h,hjx⟩)) e fj Py
   ·
    have VG:∀j∈hd,j ∉ U:=by
     intro j hj
     exact mask j (G4 tl wm i KL j hj)
    exact(IA U bQ a w hn (fun j=>⟨fun hj=>by
     rcases List.mem_append.1 (hU j hj) with h|h
     ·exact absurd hj (VG j h)
     ·exact h,QO j⟩) hl jb hr |> fun h=>by rw[hlen] at h;exact h.2 i hi)
end
end Go.Proofs.YtfjfekodeplcoaaGreat.Sym
