/- Lemmas for the statements of this seat. -/
import Derived.Test.YtllmkadmohkbfaaGreatDoorVSymR
namespace Go.Proofs.YtllmkadmohkbfaaGreatDoor.Sym
open Go Go.RowKit
section
variable {P:Program} {T:kL} {Γ:Ctx} {s s':St} {a:Act} {w:World} {ops:Array Oper} {Q:Exit→Act→World→Prop}
theorem Jf{ms:List Nat}{hd:List Nat} : ∀{r pre:List Nat},c2 ops ms hd pre r=true→∀p i q,r=p++i::q→∀o,ops[i]? = some o→∀t∈looks ops o,∀j∈hd,∀oj,ops[j]? = some oj→oj.dst=some t→(j∈pre∨j∈p)∧(ms.getD i 0).testBit j=true
 |[],_,_,p,i,q,h=>by cases p<;>cases h
 |x::r,pre,h,p,i,q,he=>by
  simp only[c2,Bool.and_eq_true] at h
  cases p with
  |nil =>
   injection he with he _
   subst he
   intro o ho t ht j hj oj Wf hd
   have h1:=h.1
   rw[ho] at h1
   simp only[List.all_eq_true] at h1
   have h2:=h1 t ht j hj
   rw[Wf] at h2
   simp only[hd] at h2
   simp only[Nat.beq_refl,Bool.not_true,Bool.false_or,Bool.and_eq_true] at h2
   exact⟨.inl (by simpa using h2.1),h2.2⟩
  |cons y p =>
   injection he with he hO
   subst he
   intro o ho t ht j hj oj Wf hd
   obtain⟨h3,h4⟩:=Jf h.2 p i q hO o ho t ht j hj oj Wf hd
   refine⟨?_,h4⟩
   rcases h3 with h3|h3
   ·rcases List.mem_cons.1 h3 with rfl|h3
    ·exact .inr (by simp)
    ·exact .inl h3
   ·exact .inr (by simp[h3])
theorem uU{n:Nat} : ∀(rs:List HR) (hs:List Hint) (s:St),CJ P T n ops rs hs s→distinct ops (rs.map (·.1))=true→vk rs
 |[],_,_,_,_=>trivial
 |(i,o,res)::rs,hs,s,aq,h=>by
  obtain⟨h1,_,h3⟩:=aq
  simp only[List.map_cons,distinct,Bool.and_eq_true] at h
  refine⟨fun d hd x hx e => ?_,uU rs _ _ h3 h.2⟩
  have h4:=h.1
  rw[h1] at h4
  simp only[Option.bind_some,hd,List.all_eq_true,List.mem_map] at h4
  obtain⟨pre,post,nS⟩:=List.append_of_mem hx
  obtain⟨_,U8,_⟩:=CJ.at h3 pre x post nS
  have h5:=h4 x.1 ⟨x,hx,rfl⟩
  rw[U8] at h5
  simp only[Option.bind_some,e,Nat.beq_refl,Bool.not_true] at h5
  cases h5
theorem map_inj{α β:Type}(f:α→β)(l:List α)(h:(l.map f).Nodup):∀x∈l,∀y∈l,f x=f y→x=y:=by
 induction l with
 |nil=>intro x hx;cases hx
 |cons z l ih =>
  simp only[List.map_cons] at h
  obtain⟨h1,h2⟩:=List.nodup_cons.1 h
  intro x hx y hy e
  rcases List.mem_cons.1 hx with h3|h3<;>rcases List.mem_cons.1 hy with h4|h4
  ·rw[h3,h4]
  ·exact absurd (List.mem_map.2 ⟨y,h4,by rw[←e,h3]⟩) h1
  ·exact absurd (List.mem_map.2 ⟨x,h3,by rw[e,h4]⟩) h1
  ·exact ih h2 x h3 y h4 e
theorem KB{ms hd:List Nat}(tl:List Nat)(h:vp ms hd tl=true):∀i∈tl,∀j∈hd,(ms.getD i 0).testBit j=true:=by
 induction tl with
 |nil=>intro i hi;cases hi
 |cons t tl ih =>
  simp only[vp,Bool.and_eq_true,List.all_eq_true] at h
  intro i hi j hj
  rcases List.mem_cons.1 hi with hi|hi
  ·subst hi;exact h.1.1 j hj
  ·exact ih h.2 i hi j hj
theorem L9(hT:nM P T)(hs:∀r,bS Γ.sin r→Γ.n≤r)(Dc:∀i,i<ops.size→∀e∈jc ops i,e<ops.size){hd tl:List Nat}{rs:List HR}{hh ht:List Hint}{s1:St}{ob:List Prop}
  (Kz:rs.map (·.1)=hd) (aq:CJ P T Γ.n ops rs hh s1) (Oh:distinct ops hd=true) (Cx:c2 ops (oI ops) hd [] hd=true) (xw:vp (oI ops) hd tl=true) (Ma:vq (oI ops) rs=true) (zZ:(hd++tl).Nodup)
  (lI:∀i∈hd++tl,i<ops.size) (Tv:∀r:List Nat,(∀i∈r,i∈hd++tl)→r≠[]→∃i∈r,∀e∈jc ops i,e ∉ r) (QK:∀x∈rs,dP x.2.2.ob)
  (aI:Bg P T Γ.n ops tl ht (app [] rs s1)=some (s',ob)) (cr:dP ob) (hk:∀a' w',Rel Γ s' a' w'→Q .normal a' w') :
  ∀(fuel:Nat) (U:List Nat) (listed:Array Bool) (a:Act) (w:World),U.length=fuel→U.Nodup→(∀i∈U,i∈hd++tl)→(∀i∈tl,i∈U)→L6 ops listed U→(∀i,i<ops.size→i ∉ U→∀e∈jc ops i,e ∉ U) →
   Rel Γ (app U rs s1) a w→wpAny P .any ops Q fuel listed a w:=by
 have QI:=uU rs hh s1 aq (by rw[Kz];exact Oh)
 have Q8:hd.Nodup:=(List.nodup_append.1 zZ).1
 have Mb:tl.Nodup:=(List.nodup_append.1 zZ).2.1
 have PY:∀i∈hd,i ∉ tl:=fun i hi uP=>(List.nodup_append.1 zZ).2.2 i hi i uP rfl
 have Mc:∀(U:List Nat) (listed:Array Bool) (a:Act) (w:World),U.Nodup→(∀i,i∈U↔i∈tl)→L6 ops listed U→(∀i,i<ops.size→i ∉ U→∀e∈jc ops i,e ∉ U)→Rel Γ (app U rs s1) a w →
   wpAny P .any ops Q U.length listed a w:=by
  intro U listed a w hn hU hl sD hr
  have Wg:∀(l:List HR) (s:St),(∀x∈l,x.1 ∉ U)→app U l s=app [] l s:=by
   intro l
   induction l with
   |nil=>intro s _;rfl
   |cons x l ih =>
    intro s hx
    rw[rM]
    obtain⟨i,o,res⟩:=x
    show app U l (if i∈U then s else hAdd s o.dst res)=_
    rw[if_neg (hx (i,o,res) (by simp))]
    exact ih _ (fun y hy=>hx y (by simp[hy]))
  rw[Wg rs s1 (fun x hx Q6=>PY x.1 (by rw[←Kz];exact List.mem_map.2 ⟨x,hx,rfl⟩) ((hU _).1 Q6))] at hr
  have hlen:U.length=tl.length:=by
   have h1:=List.Nodup.length_le_of_subset hn (fun i hi=>(hU i).1 hi)
   have h2:=List.Nodup.length_le_of_subset Mb (fun i hi=>(hU i).2 hi)
   omega
  rw[hlen]
  refine L7 hT hs (hd:=hd) Dc hk tl ht _ ob listed a w Mb (fun i hi=>lI i (by simp[hi])) xw ⟨hl.1,fun j hj=>by rw[hl.2 j hj,hU]⟩
   (fun i hi Q7 e he het=>sD i hi (fun h=>Q7 ((hU i).1 h)) e he ((hU e).2 het)) (fun r hr di=>Tv r (fun i hi=>by simp[hr.subset hi]) di) hr aI cr
 intro fuel
 induction fuel with
 |zero =>
  intro U listed a w hlen hn hU U9 hl sD hr
  have:U=[]:=List.eq_nil_of_length_eq_zero hlen
  subst this
  have Wh:∀i,i∈([]:List Nat)↔i∈tl:=fun i=>⟨fun h=>(by cases h),fun h=>U9 i h⟩
  exact Mc [] listed a w hn Wh hl sD hr
 |succ fuel ih =>
  intro U listed a w hlen hn hU U9 hl sD hr
  refine⟨fun D5 => ?_,fun i hi => ?_⟩
  ·obtain⟨i,hi,oB⟩:=Tv U hU (fun e=>by rw[e] at hlen;cases hlen)
   have:i∈Region.ready .any ops listed:=(jW hl (Dc i (lI i (hU i hi)))).2 ⟨lI i (hU i hi),hi,oB⟩
   rw[D5] at this;cases this
  ·have ba:i<ops.size:=by
    have hi':=hi
    rw[mem_ready] at hi'
    obtain⟨_,o,ho,_⟩:=hi'
    exact(Array.getElem?_eq_some_iff.1 ho).1
   obtain⟨_,Lj,oB⟩:=(jW hl (Dc i ba)).1 hi
   have mask:∀j,((oI ops).getD i 0).testBit j=true→j ∉ U:=fun j hj =>
    (vn ops i j hj (fun x=>x<ops.size∧x ∉ U) (fun x hx e he=>⟨Dc x hx.1 e he,sD x hx.1 hx.2 e he⟩) (fun e he=>⟨Dc i ba e he,oB e he⟩)).2
   rcases List.mem_append.1 (hU i Lj) with Yi|Q7
   ·
    rw[←Kz] at Yi
    obtain⟨x,hx,Q9⟩:=List.mem_map.1 Yi
    obtain⟨pre,post,nS⟩:=List.append_of_mem hx
    obtain⟨h,U8,oD⟩:=CJ.at aq pre x post nS
    have UX:∀y∈pre,y∈rs:=fun y hy=>by rw[nS];simp[hy]
    have Tw:vk pre:=Bh (post:=x::post) (by rw[←nS];exact QI)
    have KC:∀y∈rs,y.1∈hd:=fun y hy=>by rw[←Kz];exact List.mem_map.2 ⟨y,hy,rfl⟩
    have uH:∀y∈rs,ops[y.1]? = some y.2.1:=fun y hy=>by
     obtain⟨p,q,PZ⟩:=List.append_of_mem hy
     obtain⟨_,ZH,_⟩:=CJ.at aq p y q PZ
     exact ZH
    have Db:∀y∈rs,∀z∈rs,y.1=z.1→y=z:=map_inj (·.1) rs (by rw[Kz];exact Q8)
    have Yj:=yP (oI ops) pre post x (by rw[←nS];exact Ma)
    have Tx:∀y∈rs,((oI ops).getD y.1 0).testBit x.1=true→y.1∈U:=fun y hy hm=>Classical.byContradiction fun hc=>by
     have Ty:y.1<ops.size:=lI y.1 (by simp[KC y hy])
     have:=(vn ops y.1 x.1 hm (fun z=>z<ops.size∧z ∉ U) (fun z hz e he=>⟨Dc z hz.1 e he,sD z hz.1 hz.2 e he⟩) (fun e he=>⟨Dc y.1 Ty e he,sD y.1 Ty hc e he⟩)).2
     rw[Q9] at this
     exact this Lj
    have ZI:∀y∈post,y∈rs:=fun y hy=>by rw[nS];simp[hy]
    have Ef:∀r,(ju x=some r∨x.2.2.rd=some r)→(∀y∈pre,ju y=some r→y.1 ∉ U)∧(∀y∈post,ju y=some r→y.1∈U):=by
     intro r CB
     refine⟨fun y hy hw=>mask y.1 (by rw[←Q9];exact Yj.1 y hy (FY hw CB)),fun y hy hw=>Tx y (ZI y hy) (Yj.2 y hy ?_)⟩
     rcases CB with CB|CB
     ·exact FY CB (.inl hw)
     ·exact L8 CB hw
    have Q6:x.1∈U:=by rw[Q9];exact Lj
    have il:∀r,(ju x=some r∨x.2.2.rd=some r)→(app U rs s1).aG.get r=(app [] pre s1).aG.get r:=fun r eb=>by
     rw[nS];exact Be s1 (Ef r eb).1 (Ef r eb).2 Q6
    have di:∀y∈pre,y≠x:=fun y hy e=>by
     have FZ:=Q8
     rw[←Kz,nS,List.map_append,List.map_cons] at FZ
     exact(List.nodup_append.1 FZ).2.2 y.1 (List.mem_map.2 ⟨y,hy,rfl⟩) x.1 (by simp) (by rw[e])
    have KD:x ∉ post:=fun hm=>by
     have FZ:=Q8
     rw[←Kz,nS,List.map_append,List.map_cons] at FZ
     exact(List.nodup_cons.1 (List.nodup_append.1 FZ).2.1).1 (List.mem_map.2 ⟨x,hm,rfl⟩)
    have he:∀t∈looks ops x.2.1,(app U rs s1).env.get t=(app [] pre s1).env.get t:=by
     intro t ht
     by_cases hy:∃y∈rs,y.2.1.dst=some t
     ·obtain⟨y,hy,SM⟩:=hy
      have NY:hd=pre.map (·.1)++x.1::post.map (·.1):=by rw[←Kz,nS];simp
      obtain⟨h1,h2⟩:=Jf Cx _ _ _ NY x.2.1 U8 t ht y.1 (KC y hy) y.2.1 (uH y hy) SM
      have U7:y.1 ∉ U:=mask y.1 (by rw[←Q9];exact h2)
      have hyp:y∈pre:=by
       rcases h1 with h1|h1
       ·cases h1
       ·obtain⟨z,hz,ZJ⟩:=List.mem_map.1 h1
        rw[←Db z (UX z hz) y hy ZJ];exact hz
      rw[lS U t y SM U7 rs s1 QI hy,lS [] t y SM (by simp) pre s1 Tw hyp]
     ·rw[jV U t rs s1 (fun y Lg OH=>absurd ⟨y,Lg,OH⟩ hy),jV [] t pre s1 (fun y Lg OH=>absurd ⟨y,UX y Lg,OH⟩ hy)]
    have Jg:Ed P T Γ.n ops x.2.1 h (app U rs s1)=some x.2.2:=by
     refine H3 oD he (fun r OK=>il r ?_) (fun d PL hn uQ => ?_)
     ·rcases OK with h1|⟨h1,h2⟩
      ·exact .inr h1
      ·left;unfold ju;rw[h1];exact h2
     ·rw[il d (.inl (by
       unfold ju
       cases LW:x.2.2.new with
       |none=>rw[LW] at hn;cases hn
       |some sc=>rw[PL]))]
      exact uQ
    unfold wpOp
    rw[←Q9,U8]
    refine HY hT hs hr Jg (QK x hx) (fun a' w' eb => ?_)
    have Md:=Ky nS QI (U:=U) (U':=FX U x.1) (fun j=>og) (fun y hy e=>Db y hy x hx e) (fun hm=>di x hm rfl) Q6 (fun r Wi=>(Ef r (.inl Wi)).1) (fun r Wi=>(Ef r (.inl Wi)).2) KD s1
    have Wj:x.1<ops.size:=by rw[Q9];exact ba
    refine ih (FX U x.1) _ a' w' (by have:=Je hn Q6;omega) (List.Pairwise.filter _ hn) (fun j hj=>hU j (og.1 hj).1) (fun j hj=>og.2 ⟨U9 j hj,fun e=>PY x.1 (KC x hx) (e ▸ hj)⟩)
     (hl.set Wj) (fun j hj SN e hO Wk => ?_) (Rel.Ox Md eb)
    have Tz:=(og.1 Wk).1
    by_cases hjx:j=x.1
    ·subst hjx
     rw[Q9] at hO
     exact oB e hO Tz
    ·exact sD j hj (fun h=>SN (og.2 ⟨h,hjx⟩)) e hO Tz
   ·
    have ZK:∀j∈hd,j ∉ U:=by
     intro j hj
     exact mask j (KB tl xw i Q7 j hj)
    exact(Mc U listed a w hn (fun j=>⟨fun hj=>by
     rcases List.mem_append.1 (hU j hj) with h|h
     ·exact absurd hj (ZK j h)
     ·exact h,U9 j⟩) hl sD hr |> fun h=>by rw[hlen] at h;exact h.2 i hi)
end
end Go.Proofs.YtllmkadmohkbfaaGreatDoor.Sym
