/- Lemmas for the statements of this seat. -/
import Derived.Test.YtfjfekodeplcoaaGreatWSymR
namespace Go.Proofs.YtfjfekodeplcoaaGreat.Sym
open Go Go.RowKit
section
variable {P:Program} {T:jZ} {Γ:Ctx} {s s':St} {a:Act} {w:World} {ops:Array Oper} {Q:Exit→Act→World→Prop}
theorem E3{ms:List Nat}{hd:List Nat} : ∀{r pre:List Nat},c2 ops ms hd pre r=true→∀p i q,r=p++i::q→∀o,ops[i]? = some o→∀t∈looks ops o,∀j∈hd,∀oj,ops[j]? = some oj→oj.dst=some t→(j∈pre∨j∈p)∧(ms.getD i 0).testBit j=true
 |[],_,_,p,i,q,h=>by cases p<;>cases h
 |x::r,pre,h,p,i,q,he=>by
  simp only[c2,Bool.and_eq_true] at h
  cases p with
  |nil =>
   injection he with he _
   subst he
   intro o ho t ht j hj oj Qy hd
   have h1:=h.1
   rw[ho] at h1
   simp only[List.all_eq_true] at h1
   have h2:=h1 t ht j hj
   rw[Qy] at h2
   simp only[hd] at h2
   simp only[Nat.beq_refl,Bool.not_true,Bool.false_or,Bool.and_eq_true] at h2
   exact⟨.inl (by simpa using h2.1),h2.2⟩
  |cons y p =>
   injection he with he gr
   subst he
   intro o ho t ht j hj oj Qy hd
   obtain⟨h3,h4⟩:=E3 h.2 p i q gr o ho t ht j hj oj Qy hd
   refine⟨?_,h4⟩
   rcases h3 with h3|h3
   ·rcases List.mem_cons.1 h3 with rfl|h3
    ·exact .inr (by simp)
    ·exact .inl h3
   ·exact .inr (by simp[h3])
theorem sS{n:Nat} : ∀(rs:List HR) (hs:List Hint) (s:St),zF P T n ops rs hs s→distinct ops (rs.map (·.1))=true→tk rs
 |[],_,_,_,_=>trivial
 |(i,o,res)::rs,hs,s,ax,h=>by
  obtain⟨h1,_,h3⟩:=ax
  simp only[List.map_cons,distinct,Bool.and_eq_true] at h
  refine⟨fun d hd x hx e => ?_,sS rs _ _ h3 h.2⟩
  have h4:=h.1
  rw[h1] at h4
  simp only[Option.bind_some,hd,List.all_eq_true,List.mem_map] at h4
  obtain⟨pre,post,mS⟩:=List.append_of_mem hx
  obtain⟨_,Pu,_⟩:=zF.at h3 pre x post mS
  have h5:=h4 x.1 ⟨x,hx,rfl⟩
  rw[Pu] at h5
  simp only[Option.bind_some,e,Nat.beq_refl,Bool.not_true] at h5
  cases h5
theorem map_inj{α β:Type}(f:α→β)(l:List α)(h:(l.map f).Nodup):∀x∈l,∀y∈l,f x=f y→x=y:=by
 induction l with
 |nil=>intro x hx;cases hx
 |cons z l ih =>
  simp only[List.map_cons] at h
  obtain⟨h1,h2⟩:=List.nodup_cons.1 h
  intro x hx y hy e
  rcases List.mem_cons.1 hx with h3|h3<;>rcases List.mem_cons.1 hy with h4|h4
  ·rw[h3,h4]
  ·exact absurd (List.mem_map.2 ⟨y,h4,by rw[←e,h3]⟩) h1
  ·exact absurd (List.mem_map.2 ⟨x,h3,by rw[e,h4]⟩) h1
  ·exact ih h2 x h3 y h4 e
theorem F5{ms hd:List Nat}(tl:List Nat)(h:tu ms hd tl=true):∀i∈tl,∀j∈hd,(ms.getD i 0).testBit j=true:=by
 induction tl with
 |nil=>intro i hi;cases hi
 |cons t tl ih =>
  simp only[tu,Bool.and_eq_true,List.all_eq_true] at h
  intro i hi j hj
  rcases List.mem_cons.1 hi with hi|hi
  ·subst hi;exact h.1.1 j hj
  ·exact ih h.2 i hi j hj
theorem HD(hT:mN P T)(hs:∀r,bk Γ.sin r→Γ.n≤r)(Ah:∀i,i<ops.size→∀e∈iq ops i,e<ops.size){hd tl:List Nat}{rs:List HR}{hh ht:List Hint}{s1:St}{ob:List Prop}
  (F4:rs.map (·.1)=hd) (ax:zF P T Γ.n ops rs hh s1) (JD:distinct ops hd=true) (HE:c2 ops (nV ops) hd [] hd=true) (vn:tu (nV ops) hd tl=true) (HF:tv (nV ops) rs=true) (sN:(hd++tl).Nodup)
  (jo:∀i∈hd++tl,i<ops.size) (Oa:∀r:List Nat,(∀i∈r,i∈hd++tl)→r≠[]→∃i∈r,∀e∈iq ops i,e ∉ r) (LI:∀x∈rs,dw x.2.2.ob)
  (aP:yb P T Γ.n ops tl ht (app [] rs s1)=some (s',ob)) (cd:dw ob) (hk:∀a' w',Rel Γ s' a' w'→Q .normal a' w') :
  ∀(fuel:Nat) (U:List Nat) (bI:Array Bool) (a:Act) (w:World),U.length=fuel→U.Nodup→(∀i∈U,i∈hd++tl)→(∀i∈tl,i∈U)→HA ops bI U→(∀i,i<ops.size→i ∉ U→∀e∈iq ops i,e ∉ U) →
   Rel Γ (app U rs s1) a w→wpAny P .any ops Q fuel bI a w:=by
 have LD:=sS rs hh s1 ax (by rw[F4];exact JD)
 have L6:hd.Nodup:=(List.nodup_append.1 sN).1
 have HG:tl.Nodup:=(List.nodup_append.1 sN).2.1
 have K4:∀i∈hd,i ∉ tl:=fun i hi zZ=>(List.nodup_append.1 sN).2.2 i hi i zZ rfl
 have HH:∀(U:List Nat) (bI:Array Bool) (a:Act) (w:World),U.Nodup→(∀i,i∈U↔i∈tl)→HA ops bI U→(∀i,i<ops.size→i ∉ U→∀e∈iq ops i,e ∉ U)→Rel Γ (app U rs s1) a w →
   wpAny P .any ops Q U.length bI a w:=by
  intro U bI a w hn hU hl oz hr
  have Qz:∀(l:List HR) (s:St),(∀x∈l,x.1 ∉ U)→app U l s=app [] l s:=by
   intro l
   induction l with
   |nil=>intro s _;rfl
   |cons x l ih =>
    intro s hx
    rw[qw]
    obtain⟨i,o,res⟩:=x
    show app U l (if i∈U then s else hAdd s o.dst res)=_
    rw[if_neg (hx (i,o,res) (by simp))]
    exact ih _ (fun y hy=>hx y (by simp[hy]))
  rw[Qz rs s1 (fun x hx L4=>K4 x.1 (by rw[←F4];exact List.mem_map.2 ⟨x,hx,rfl⟩) ((hU _).1 L4))] at hr
  have hlen:U.length=tl.length:=by
   have h1:=List.Nodup.length_le_of_subset hn (fun i hi=>(hU i).1 hi)
   have h2:=List.Nodup.length_le_of_subset HG (fun i hi=>(hU i).2 hi)
   omega
  rw[hlen]
  refine HB hT hs (hd:=hd) Ah hk tl ht _ ob bI a w HG (fun i hi=>jo i (by simp[hi])) vn ⟨hl.1,fun j hj=>by rw[hl.2 j hj,hU]⟩
   (fun i hi JZ e he het=>oz i hi (fun h=>JZ ((hU i).1 h)) e he ((hU e).2 het)) (fun r hr iN=>Oa r (fun i hi=>by simp[hr.subset hi]) iN) hr aP cd
 intro fuel
 induction fuel with
 |zero =>
  intro U bI a w hlen hn hU Pv hl oz hr
  have:U=[]:=List.eq_nil_of_length_eq_zero hlen
  subst this
  have QA:∀i,i∈([]:List Nat)↔i∈tl:=fun i=>⟨fun h=>(by cases h),fun h=>Pv i h⟩
  exact HH [] bI a w hn QA hl oz hr
 |succ fuel ih =>
  intro U bI a w hlen hn hU Pv hl oz hr
  refine⟨fun AO => ?_,fun i hi => ?_⟩
  ·obtain⟨i,hi,oA⟩:=Oa U hU (fun e=>by rw[e] at hlen;cases hlen)
   have:i∈Region.ready .any ops bI:=(ju hl (Ah i (jo i (hU i hi)))).2 ⟨jo i (hU i hi),hi,oA⟩
   rw[AO] at this;cases this
  ·have cN:i<ops.size:=by
    have HI:=hi
    rw[mem_ready] at HI
    obtain⟨_,o,ho,_⟩:=HI
    exact(Array.getElem?_eq_some_iff.1 ho).1
   obtain⟨_,GM,oA⟩:=(ju hl (Ah i cN)).1 hi
   have mask:∀j,((nV ops).getD i 0).testBit j=true→j ∉ U:=fun j hj =>
    (tq ops i j hj (fun x=>x<ops.size∧x ∉ U) (fun x hx e he=>⟨Ah x hx.1 e he,oz x hx.1 hx.2 e he⟩) (fun e he=>⟨Ah i cN e he,oA e he⟩)).2
   rcases List.mem_append.1 (hU i GM) with Sq|JZ
   ·
    rw[←F4] at Sq
    obtain⟨x,hx,L7⟩:=List.mem_map.1 Sq
    obtain⟨pre,post,mS⟩:=List.append_of_mem hx
    obtain⟨h,Pu,nQ⟩:=zF.at ax pre x post mS
    have Pk:∀y∈pre,y∈rs:=fun y hy=>by rw[mS];simp[hy]
    have Ob:tk pre:=yc (post:=x::post) (by rw[←mS];exact LD)
    have F6:∀y∈rs,y.1∈hd:=fun y hy=>by rw[←F4];exact List.mem_map.2 ⟨y,hy,rfl⟩
    have rh:∀y∈rs,ops[y.1]? = some y.2.1:=fun y hy=>by
     obtain⟨p,q,K5⟩:=List.append_of_mem hy
     obtain⟨_,TX,_⟩:=zF.at ax p y q K5
     exact TX
    have Ag:∀y∈rs,∀z∈rs,y.1=z.1→y=z:=map_inj (·.1) rs (by rw[F4];exact L6)
    have Sr:=vZ (nV ops) pre post x (by rw[←mS];exact HF)
    have Oc:∀y∈rs,((nV ops).getD y.1 0).testBit x.1=true→y.1∈U:=fun y hy hm=>Classical.byContradiction fun hc=>by
     have Od:y.1<ops.size:=jo y.1 (by simp[F6 y hy])
     have:=(tq ops y.1 x.1 hm (fun z=>z<ops.size∧z ∉ U) (fun z hz e he=>⟨Ah z hz.1 e he,oz z hz.1 hz.2 e he⟩) (fun e he=>⟨Ah y.1 Od e he,oz y.1 Od hc e he⟩)).2
     rw[L7] at this
     exact this GM
    have TY:∀y∈post,y∈rs:=fun y hy=>by rw[mS];simp[hy]
    have AY:∀r,(iF x=some r∨x.2.2.rd=some r)→(∀y∈pre,iF y=some r→y.1 ∉ U)∧(∀y∈post,iF y=some r→y.1∈U):=by
     intro r zy
     refine⟨fun y hy hw=>mask y.1 (by rw[←L7];exact Sr.1 y hy (CD hw zy)),fun y hy hw=>Oc y (TY y hy) (Sr.2 y hy ?_)⟩
     rcases zy with zy|zy
     ·exact CD zy (.inl hw)
     ·exact HC zy hw
    have L4:x.1∈U:=by rw[L7];exact GM
    have gF:∀r,(iF x=some r∨x.2.2.rd=some r)→(app U rs s1).sto.get r=(app [] pre s1).sto.get r:=fun r dx=>by
     rw[mS];exact x9 s1 (AY r dx).1 (AY r dx).2 L4
    have iN:∀y∈pre,y≠x:=fun y hy e=>by
     have CE:=L6
     rw[←F4,mS,List.map_append,List.map_cons] at CE
     exact(List.nodup_append.1 CE).2.2 y.1 (List.mem_map.2 ⟨y,hy,rfl⟩) x.1 (by simp) (by rw[e])
    have QB:x ∉ post:=fun hm=>by
     have CE:=L6
     rw[←F4,mS,List.map_append,List.map_cons] at CE
     exact(List.nodup_cons.1 (List.nodup_append.1 CE).2.1).1 (List.mem_map.2 ⟨x,hm,rfl⟩)
    have he:∀t∈looks ops x.2.1,(app U rs s1).env.get t=(app [] pre s1).env.get t:=by
     intro t ht
     by_cases hy:∃y∈rs,y.2.1.dst=some t
     ·obtain⟨y,hy,Nv⟩:=hy
      have FN:hd=pre.map (·.1)++x.1::post.map (·.1):=by rw[←F4,mS];simp
      obtain⟨h1,h2⟩:=E3 HE _ _ _ FN x.2.1 Pu t ht y.1 (F6 y hy) y.2.1 (rh y hy) Nv
      have Ps:y.1 ∉ U:=mask y.1 (by rw[←L7];exact h2)
      have hyp:y∈pre:=by
       rcases h1 with h1|h1
       ·cases h1
       ·obtain⟨z,hz,TZ⟩:=List.mem_map.1 h1
        rw[←Ag z (Pk z hz) y hy TZ];exact hz
      rw[kY U t y Nv Ps rs s1 LD hy,kY [] t y Nv (by simp) pre s1 Ob hyp]
     ·rw[jt U t rs s1 (fun y Cr K0=>absurd ⟨y,Cr,K0⟩ hy),jt [] t pre s1 (fun y Cr K0=>absurd ⟨y,Pk y Cr,K0⟩ hy)]
    have E4:AW P T Γ.n ops x.2.1 h (app U rs s1)=some x.2.2:=by
     refine Ec nQ he (fun r QC=>gF r ?_) (fun d KT hn sM => ?_)
     ·rcases QC with h1|⟨h1,h2⟩
      ·exact .inr h1
      ·left;unfold iF;rw[h1];exact h2
     ·rw[gF d (.inl (by
       unfold iF
       cases F2:x.2.2.new with
       |none=>rw[F2] at hn;cases hn
       |some sc=>rw[KT]))]
      exact sM
    unfold wpOp
    rw[←L7,Pu]
    refine D8 hT hs hr E4 (LI x hx) (fun a' w' dx => ?_)
    have HJ:=F3 mS LD (U:=U) (U':=CC U x.1) (fun j=>np) (fun y hy e=>Ag y hy x hx e) (fun hm=>iN x hm rfl) L4 (fun r Lw=>(AY r (.inl Lw)).1) (fun r Lw=>(AY r (.inl Lw)).2) QB s1
    have QD:x.1<ops.size:=by rw[L7];exact cN
    refine ih (CC U x.1) _ a' w' (by have:=E2 hn L4;omega) (List.Pairwise.filter _ hn) (fun j hj=>hU j (np.1 hj).1) (fun j hj=>np.2 ⟨Pv j hj,fun e=>K4 x.1 (F6 x hx) (e ▸ hj)⟩)
     (hl.set QD) (fun j hj Nx e gr QE => ?_) (Rel.JK HJ dx)
    have Oe:=(np.1 QE).1
    by_cases hjx:j=x.1
    ·subst hjx
     rw[L7] at gr
     exact oA e gr Oe
    ·exact oz j hj (fun h=>Nx (np.2 ⟨h,hjx⟩)) e gr Oe
   ·
    have T0:∀j∈hd,j ∉ U:=by
     intro j hj
     exact mask j (F5 tl vn i JZ j hj)
    exact(HH U bI a w hn (fun j=>⟨fun hj=>by
     rcases List.mem_append.1 (hU j hj) with h|h
     ·exact absurd hj (T0 j h)
     ·exact h,Pv j⟩) hl oz hr |> fun h=>by rw[hlen] at h;exact h.2 i hi)
end
end Go.Proofs.YtfjfekodeplcoaaGreat.Sym
