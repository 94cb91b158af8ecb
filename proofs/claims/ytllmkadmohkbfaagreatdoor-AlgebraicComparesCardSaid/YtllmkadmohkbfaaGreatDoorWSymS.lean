/- Lemmas for the statements of this seat. -/
import Derived.Test.YtllmkadmohkbfaaGreatDoorWSymR
namespace Go.Proofs.YtllmkadmohkbfaaGreatDoor.Sym
open Go Go.RowKit
section
variable {P:Program} {T:qU} {Γ:Ctx} {s s':St} {a:Act} {w:World} {ops:Array Oper} {Q:Exit→Act→World→Prop}
theorem N6{ms:List Nat}{hd:List Nat} : ∀{r pre:List Nat},c2 ops ms hd pre r=true→∀p i q,r=p++i::q→∀o,ops[i]? = some o→∀t∈looks ops o,∀j∈hd,∀oj,ops[j]? = some oj→oj.dst=some t→(j∈pre∨j∈p)∧(ms.getD i 0).testBit j=true
 |[],_,_,p,i,q,h=>by cases p<;>cases h
 |x::r,pre,h,p,i,q,he=>by
  simp only[c2,Bool.and_eq_true] at h
  cases p with
  |nil =>
   injection he with he _
   subst he
   intro o ho t ht j hj oj Zk hd
   have h1:=h.1
   rw[ho] at h1
   simp only[List.all_eq_true] at h1
   have h2:=h1 t ht j hj
   rw[Zk] at h2
   simp only[hd] at h2
   simp only[Nat.beq_refl,Bool.not_true,Bool.false_or,Bool.and_eq_true] at h2
   exact⟨.inl (by simpa using h2.1),h2.2⟩
  |cons y p =>
   injection he with he mJ
   subst he
   intro o ho t ht j hj oj Zk hd
   obtain⟨h3,h4⟩:=N6 h.2 p i q mJ o ho t ht j hj oj Zk hd
   refine⟨?_,h4⟩
   rcases h3 with h3|h3
   ·rcases List.mem_cons.1 h3 with rfl|h3
    ·exact .inr (by simp)
    ·exact .inl h3
   ·exact .inr (by simp[h3])
theorem Bq{n:Nat} : ∀(rs:List HR) (hs:List Hint) (s:St),Iq P T n ops rs hs s→distinct ops (rs.map (·.1))=true→BF rs
 |[],_,_,_,_=>trivial
 |(i,o,res)::rs,hs,s,aH,h=>by
  obtain⟨h1,_,h3⟩:=aH
  simp only[List.map_cons,distinct,Bool.and_eq_true] at h
  refine⟨fun d hd x hx e => ?_,Bq rs _ _ h3 h.2⟩
  have h4:=h.1
  rw[h1] at h4
  simp only[Option.bind_some,hd,List.all_eq_true,List.mem_map] at h4
  obtain⟨pre,post,ur⟩:=List.append_of_mem hx
  obtain⟨_,Yh,_⟩:=Iq.at h3 pre x post ur
  have h5:=h4 x.1 ⟨x,hx,rfl⟩
  rw[Yh] at h5
  simp only[Option.bind_some,e,Nat.beq_refl,Bool.not_true] at h5
  cases h5
theorem map_inj{α β:Type}(f:α→β)(l:List α)(h:(l.map f).Nodup):∀x∈l,∀y∈l,f x=f y→x=y:=by
 induction l with
 |nil=>intro x hx;cases hx
 |cons z l ih =>
  simp only[List.map_cons] at h
  obtain⟨h1,h2⟩:=List.nodup_cons.1 h
  intro x hx y hy e
  rcases List.mem_cons.1 hx with h3|h3<;>rcases List.mem_cons.1 hy with h4|h4
  ·rw[h3,h4]
  ·exact absurd (List.mem_map.2 ⟨y,h4,by rw[←e,h3]⟩) h1
  ·exact absurd (List.mem_map.2 ⟨x,h3,by rw[e,h4]⟩) h1
  ·exact ih h2 x h3 y h4 e
theorem Pf{ms hd:List Nat}(tl:List Nat)(h:BK ms hd tl=true):∀i∈tl,∀j∈hd,(ms.getD i 0).testBit j=true:=by
 induction tl with
 |nil=>intro i hi;cases hi
 |cons t tl ih =>
  simp only[BK,Bool.and_eq_true,List.all_eq_true] at h
  intro i hi j hj
  rcases List.mem_cons.1 hi with hi|hi
  ·subst hi;exact h.1.1 j hj
  ·exact ih h.2 i hi j hj
theorem QH(hT:uj P T)(hs:∀r,ee Γ.sin r→Γ.n≤r)(IZ:∀i,i<ops.size→∀e∈oe ops i,e<ops.size){hd tl:List Nat}{rs:List HR}{hh ht:List Hint}{s1:St}{ob:List Prop}
  (Pe:rs.map (·.1)=hd) (aH:Iq P T Γ.n ops rs hh s1) (Sr:distinct ops hd=true) (AM:c2 ops (vd ops) hd [] hd=true) (DM:BK (vd ops) hd tl=true) (QI:BL (vd ops) rs=true) (DY:(hd++tl).Nodup)
  (rD:∀i∈hd++tl,i<ops.size) (W5:∀r:List Nat,(∀i∈r,i∈hd++tl)→r≠[]→∃i∈r,∀e∈oe ops i,e ∉ r) (Ux:∀x∈rs,je x.2.2.ob)
  (bz:GO P T Γ.n ops tl ht (app [] rs s1)=some (s',ob)) (fK:je ob) (hk:∀a' w',Rel Γ s' a' w'→Q .normal a' w') :
  ∀(fuel:Nat) (U:List Nat) (listed:Array Bool) (a:Act) (w:World),U.length=fuel→U.Nodup→(∀i∈U,i∈hd++tl)→(∀i∈tl,i∈U)→QC ops listed U→(∀i,i<ops.size→i ∉ U→∀e∈oe ops i,e ∉ U) →
   Rel Γ (app U rs s1) a w→wpAny P .any ops Q fuel listed a w:=by
 have Uv:=Bq rs hh s1 aH (by rw[Pe];exact Sr)
 have UU:hd.Nodup:=(List.nodup_append.1 DY).1
 have QJ:tl.Nodup:=(List.nodup_append.1 DY).2.1
 have TY:∀i∈hd,i ∉ tl:=fun i hi ql=>(List.nodup_append.1 DY).2.2 i hi i ql rfl
 have QK:∀(U:List Nat) (listed:Array Bool) (a:Act) (w:World),U.Nodup→(∀i,i∈U↔i∈tl)→QC ops listed U→(∀i,i<ops.size→i ∉ U→∀e∈oe ops i,e ∉ U)→Rel Γ (app U rs s1) a w →
   wpAny P .any ops Q U.length listed a w:=by
  intro U listed a w hn hU hl zv hr
  have Zl:∀(l:List HR) (s:St),(∀x∈l,x.1 ∉ U)→app U l s=app [] l s:=by
   intro l
   induction l with
   |nil=>intro s _;rfl
   |cons x l ih =>
    intro s hx
    rw[yw]
    obtain⟨i,o,res⟩:=x
    show app U l (if i∈U then s else hAdd s o.dst res)=_
    rw[if_neg (hx (i,o,res) (by simp))]
    exact ih _ (fun y hy=>hx y (by simp[hy]))
  rw[Zl rs s1 (fun x hx US=>TY x.1 (by rw[←Pe];exact List.mem_map.2 ⟨x,hx,rfl⟩) ((hU _).1 US))] at hr
  have hlen:U.length=tl.length:=by
   have h1:=List.Nodup.length_le_of_subset hn (fun i hi=>(hU i).1 hi)
   have h2:=List.Nodup.length_le_of_subset QJ (fun i hi=>(hU i).2 hi)
   omega
  rw[hlen]
  refine QD hT hs (hd:=hd) IZ hk tl ht _ ob listed a w QJ (fun i hi=>rD i (by simp[hi])) DM ⟨hl.1,fun j hj=>by rw[hl.2 j hj,hU]⟩
   (fun i hi UT e he het=>zv i hi (fun h=>UT ((hU i).1 h)) e he ((hU e).2 het)) (fun r hr dk=>W5 r (fun i hi=>by simp[hr.subset hi]) dk) hr bz fK
 intro fuel
 induction fuel with
 |zero =>
  intro U listed a w hlen hn hU Yi hl zv hr
  have:U=[]:=List.eq_nil_of_length_eq_zero hlen
  subst this
  have Zm:∀i,i∈([]:List Nat)↔i∈tl:=fun i=>⟨fun h=>(by cases h),fun h=>Yi i h⟩
  exact QK [] listed a w hn Zm hl zv hr
 |succ fuel ih =>
  intro U listed a w hlen hn hU Yi hl zv hr
  refine⟨fun Jz => ?_,fun i hi => ?_⟩
  ·obtain⟨i,hi,u5⟩:=W5 U hU (fun e=>by rw[e] at hlen;cases hlen)
   have:i∈Region.ready .any ops listed:=(pX hl (IZ i (rD i (hU i hi)))).2 ⟨rD i (hU i hi),hi,u5⟩
   rw[Jz] at this;cases this
  ·have bH:i<ops.size:=by
    have hi':=hi
    rw[mem_ready] at hi'
    obtain⟨_,o,ho,_⟩:=hi'
    exact(Array.getElem?_eq_some_iff.1 ho).1
   obtain⟨_,PT,u5⟩:=(pX hl (IZ i bH)).1 hi
   have mask:∀j,((vd ops).getD i 0).testBit j=true→j ∉ U:=fun j hj =>
    (BI ops i j hj (fun x=>x<ops.size∧x ∉ U) (fun x hx e he=>⟨IZ x hx.1 e he,zv x hx.1 hx.2 e he⟩) (fun e he=>⟨IZ i bH e he,u5 e he⟩)).2
   rcases List.mem_append.1 (hU i PT) with hih|UT
   ·
    rw[←Pe] at hih
    obtain⟨x,hx,UW⟩:=List.mem_map.1 hih
    obtain⟨pre,post,ur⟩:=List.append_of_mem hx
    obtain⟨h,Yh,u7⟩:=Iq.at aH pre x post ur
    have Ya:∀y∈pre,y∈rs:=fun y hy=>by rw[ur];simp[hy]
    have W6:BF pre:=GP (post:=x::post) (by rw[←ur];exact Uv)
    have Pg:∀y∈rs,y.1∈hd:=fun y hy=>by rw[←Pe];exact List.mem_map.2 ⟨y,hy,rfl⟩
    have Bc:∀y∈rs,ops[y.1]? = some y.2.1:=fun y hy=>by
     obtain⟨p,q,SR⟩:=List.append_of_mem hy
     obtain⟨_,hoy,_⟩:=Iq.at aH p y q SR
     exact hoy
    have IY:∀y∈rs,∀z∈rs,y.1=z.1→y=z:=map_inj (·.1) rs (by rw[Pe];exact UU)
    have hap:=ER (vd ops) pre post x (by rw[←ur];exact QI)
    have W7:∀y∈rs,((vd ops).getD y.1 0).testBit x.1=true→y.1∈U:=fun y hy hm=>Classical.byContradiction fun hc=>by
     have W8:y.1<ops.size:=rD y.1 (by simp[Pg y hy])
     have:=(BI ops y.1 x.1 hm (fun z=>z<ops.size∧z ∉ U) (fun z hz e he=>⟨IZ z hz.1 e he,zv z hz.1 hz.2 e he⟩) (fun e he=>⟨IZ y.1 W8 e he,zv y.1 W8 hc e he⟩)).2
     rw[UW] at this
     exact this PT
    have hys:∀y∈post,y∈rs:=fun y hy=>by rw[ur];simp[hy]
    have JJ:∀r,(oQ x=some r∨x.2.2.rd=some r)→(∀y∈pre,oQ y=some r→y.1 ∉ U)∧(∀y∈post,oQ y=some r→y.1∈U):=by
     intro r Ii
     refine⟨fun y hy hw=>mask y.1 (by rw[←UW];exact hap.1 y hy (K7 hw Ii)),fun y hy hw=>W7 y (hys y hy) (hap.2 y hy ?_)⟩
     rcases Ii with Ii|Ii
     ·exact K7 Ii (.inl hw)
     ·exact QG Ii hw
    have US:x.1∈U:=by rw[UW];exact PT
    have mQ:∀r,(oQ x=some r∨x.2.2.rd=some r)→(app U rs s1).bp.get r=(app [] pre s1).bp.get r:=fun r jn=>by
     rw[ur];exact GM s1 (JJ r jn).1 (JJ r jn).2 US
    have dk:∀y∈pre,y≠x:=fun y hy e=>by
     have K8:=UU
     rw[←Pe,ur,List.map_append,List.map_cons] at K8
     exact(List.nodup_append.1 K8).2.2 y.1 (List.mem_map.2 ⟨y,hy,rfl⟩) x.1 (by simp) (by rw[e])
    have Fx:x ∉ post:=fun hm=>by
     have K8:=UU
     rw[←Pe,ur,List.map_append,List.map_cons] at K8
     exact(List.nodup_cons.1 (List.nodup_append.1 K8).2.1).1 (List.mem_map.2 ⟨x,hm,rfl⟩)
    have he:∀t∈looks ops x.2.1,(app U rs s1).env.get t=(app [] pre s1).env.get t:=by
     intro t ht
     by_cases hy:∃y∈rs,y.2.1.dst=some t
     ·obtain⟨y,hy,Wm⟩:=hy
      have R9:hd=pre.map (·.1)++x.1::post.map (·.1):=by rw[←Pe,ur];simp
      obtain⟨h1,h2⟩:=N6 AM _ _ _ R9 x.2.1 Yh t ht y.1 (Pg y hy) y.2.1 (Bc y hy) Wm
      have Yg:y.1 ∉ U:=mask y.1 (by rw[←UW];exact h2)
      have hyp:y∈pre:=by
       rcases h1 with h1|h1
       ·cases h1
       ·obtain⟨z,hz,hze⟩:=List.mem_map.1 h1
        rw[←IY z (Ya z hz) y hy hze];exact hz
      rw[rO U t y Wm Yg rs s1 Uv hy,rO [] t y Wm (by simp) pre s1 W6 hyp]
     ·rw[pW U t rs s1 (fun y IV PS=>absurd ⟨y,IV,PS⟩ hy),pW [] t pre s1 (fun y IV PS=>absurd ⟨y,Ya y IV,PS⟩ hy)]
    have N7:JH P T Γ.n ops x.2.1 h (app U rs s1)=some x.2.2:=by
     refine MO u7 he (fun r SS=>mQ r ?_) (fun d TP hn Bm => ?_)
     ·rcases SS with h1|⟨h1,h2⟩
      ·exact .inr h1
      ·left;unfold oQ;rw[h1];exact h2
     ·rw[mQ d (.inl (by
       unfold oQ
       cases Fu:x.2.2.new with
       |none=>rw[Fu] at hn;cases hn
       |some sc=>rw[TP]))]
      exact Bm
    unfold wpOp
    rw[←UW,Yh]
    refine MK hT hs hr N7 (Ux x hx) (fun a' w' jn => ?_)
    have QL:=Pd ur Uv (U:=U) (U':=K6 U x.1) (fun j=>uJ) (fun y hy e=>IY y hy x hx e) (fun hm=>dk x hm rfl) US (fun r Zn=>(JJ r (.inl Zn)).1) (fun r Zn=>(JJ r (.inl Zn)).2) Fx s1
    have Zo:x.1<ops.size:=by rw[UW];exact bH
    refine ih (K6 U x.1) _ a' w' (by have:=N5 hn US;omega) (List.Pairwise.filter _ hn) (fun j hj=>hU j (uJ.1 hj).1) (fun j hj=>uJ.2 ⟨Yi j hj,fun e=>TY x.1 (Pg x hx) (e ▸ hj)⟩)
     (hl.set Zo) (fun j hj Wn e mJ Zp => ?_) (Rel.SD QL jn)
    have W9:=(uJ.1 Zp).1
    by_cases hjx:j=x.1
    ·subst hjx
     rw[UW] at mJ
     exact u5 e mJ W9
    ·exact zv j hj (fun h=>Wn (uJ.2 ⟨h,hjx⟩)) e mJ W9
   ·
    have hhd:∀j∈hd,j ∉ U:=by
     intro j hj
     exact mask j (Pf tl DM i UT j hj)
    exact(QK U listed a w hn (fun j=>⟨fun hj=>by
     rcases List.mem_append.1 (hU j hj) with h|h
     ·exact absurd hj (hhd j h)
     ·exact h,Yi j⟩) hl zv hr |> fun h=>by rw[hlen] at h;exact h.2 i hi)
end
end Go.Proofs.YtllmkadmohkbfaaGreatDoor.Sym
