/- The comparison of algebraic numbers is a total order that agrees with the comparison with fractions. The law AlgebraicOrder returns true for every input, with the tables of numerals of the Go library that the row lists as they are laid. -/
import Derived.Test.YtllmkadmohkbfaaGreatDoorYSymR
namespace Go.Proofs.YtllmkadmohkbfaaGreatDoor.Sym
open Go Go.RowKit
section
variable {P:Program} {T:j0} {Γ:Ctx} {s s':St} {a:Act} {w:World} {ops:Array Oper} {Q:Exit→Act→World→Prop}
theorem Hg{ms:List Nat}{hd:List Nat} : ∀{r pre:List Nat},c2 ops ms hd pre r=true→∀p i q,r=p++i::q→∀o,ops[i]? = some o→∀t∈looks ops o,∀j∈hd,∀oj,ops[j]? = some oj→oj.dst=some t→(j∈pre∨j∈p)∧(ms.getD i 0).testBit j=true
 |[],_,_,p,i,q,h=>by cases p<;>cases h
 |x::r,pre,h,p,i,q,he=>by
  simp only[c2,Bool.and_eq_true] at h
  cases p with
  |nil =>
   injection he with he _
   subst he
   intro o ho t ht j hj oj T4 hd
   have h1:=h.1
   rw[ho] at h1
   simp only[List.all_eq_true] at h1
   have h2:=h1 t ht j hj
   rw[T4] at h2
   simp only[hd] at h2
   simp only[Nat.beq_refl,Bool.not_true,Bool.false_or,Bool.and_eq_true] at h2
   exact⟨.inl (by simpa using h2.1),h2.2⟩
  |cons y p =>
   injection he with he gn
   subst he
   intro o ho t ht j hj oj T4 hd
   obtain⟨h3,h4⟩:=Hg h.2 p i q gn o ho t ht j hj oj T4 hd
   refine⟨?_,h4⟩
   rcases h3 with h3|h3
   ·rcases List.mem_cons.1 h3 with rfl|h3
    ·exact .inr (by simp)
    ·exact .inl h3
   ·exact .inr (by simp[h3])
theorem tn{n:Nat} : ∀(rs:List HR) (hs:List Hint) (s:St),Ba P T n ops rs hs s→distinct ops (rs.map (·.1))=true→tM rs
 |[],_,_,_,_=>trivial
 |(i,o,res)::rs,hs,s,aq,h=>by
  obtain⟨h1,_,h3⟩:=aq
  simp only[List.map_cons,distinct,Bool.and_eq_true] at h
  refine⟨fun d hd x hx e => ?_,tn rs _ _ h3 h.2⟩
  have h4:=h.1
  rw[h1] at h4
  simp only[Option.bind_some,hd,List.all_eq_true,List.mem_map] at h4
  obtain⟨pre,post,mJ⟩:=List.append_of_mem hx
  obtain⟨_,SZ,_⟩:=Ba.at h3 pre x post mJ
  have h5:=h4 x.1 ⟨x,hx,rfl⟩
  rw[SZ] at h5
  simp only[Option.bind_some,e,Nat.beq_refl,Bool.not_true] at h5
  cases h5
theorem map_inj{α β:Type}(f:α→β)(l:List α)(h:(l.map f).Nodup):∀x∈l,∀y∈l,f x=f y→x=y:=by
 induction l with
 |nil=>intro x hx;cases hx
 |cons z l ih =>
  simp only[List.map_cons] at h
  obtain⟨h1,h2⟩:=List.nodup_cons.1 h
  intro x hx y hy e
  rcases List.mem_cons.1 hx with h3|h3<;>rcases List.mem_cons.1 hy with h4|h4
  ·rw[h3,h4]
  ·exact absurd (List.mem_map.2 ⟨y,h4,by rw[←e,h3]⟩) h1
  ·exact absurd (List.mem_map.2 ⟨x,h3,by rw[e,h4]⟩) h1
  ·exact ih h2 x h3 y h4 e
theorem IB{ms hd:List Nat}(tl:List Nat)(h:tR ms hd tl=true):∀i∈tl,∀j∈hd,(ms.getD i 0).testBit j=true:=by
 induction tl with
 |nil=>intro i hi;cases hi
 |cons t tl ih =>
  simp only[tR,Bool.and_eq_true,List.all_eq_true] at h
  intro i hi j hj
  rcases List.mem_cons.1 hi with hi|hi
  ·subst hi;exact h.1.1 j hj
  ·exact ih h.2 i hi j hj
theorem J2(hT:mC P T)(hs:∀r,bM Γ.sin r→Γ.n≤r)(BE:∀i,i<ops.size→∀e∈ig ops i,e<ops.size){hd tl:List Nat}{rs:List HR}{hh ht:List Hint}{s1:St}{ob:List Prop}
  (CH:rs.map (·.1)=hd) (aq:Ba P T Γ.n ops rs hh s1) (Ml:distinct ops hd=true) (AV:c2 ops (nv ops) hd [] hd=true) (vO:tR (nv ops) hd tl=true) (J3:tS (nv ops) rs=true) (ye:(hd++tl).Nodup)
  (kF:∀i∈hd++tl,i<ops.size) (Rq:∀r:List Nat,(∀i∈r,i∈hd++tl)→r≠[]→∃i∈r,∀e∈ig ops i,e ∉ r) (OJ:∀x∈rs,dA x.2.2.ob)
  (aI:zA P T Γ.n ops tl ht (app [] rs s1)=some (s',ob)) (cb:dA ob) (hk:∀a' w',Rel Γ s' a' w'→Q .normal a' w') :
  ∀(fuel:Nat) (U:List Nat) (listed:Array Bool) (a:Act) (w:World),U.length=fuel→U.Nodup→(∀i∈U,i∈hd++tl)→(∀i∈tl,i∈U)→JZ ops listed U→(∀i,i<ops.size→i ∉ U→∀e∈ig ops i,e ∉ U) →
   Rel Γ (app U rs s1) a w→wpAny P .any ops Q fuel listed a w:=by
 have OH:=tn rs hh s1 aq (by rw[CH];exact Ml)
 have O4:hd.Nodup:=(List.nodup_append.1 ye).1
 have J4:tl.Nodup:=(List.nodup_append.1 ye).2.1
 have N1:∀i∈hd,i ∉ tl:=fun i hi tg=>(List.nodup_append.1 ye).2.2 i hi i tg rfl
 have J5:∀(U:List Nat) (listed:Array Bool) (a:Act) (w:World),U.Nodup→(∀i,i∈U↔i∈tl)→JZ ops listed U→(∀i,i<ops.size→i ∉ U→∀e∈ig ops i,e ∉ U)→Rel Γ (app U rs s1) a w →
   wpAny P .any ops Q U.length listed a w:=by
  intro U listed a w hn hU hl qQ hr
  have T5:∀(l:List HR) (s:St),(∀x∈l,x.1 ∉ U)→app U l s=app [] l s:=by
   intro l
   induction l with
   |nil=>intro s _;rfl
   |cons x l ih =>
    intro s hx
    rw[qf]
    obtain⟨i,o,res⟩:=x
    show app U l (if i∈U then s else hAdd s o.dst res)=_
    rw[if_neg (hx (i,o,res) (by simp))]
    exact ih _ (fun y hy=>hx y (by simp[hy]))
  rw[T5 rs s1 (fun x hx O2=>N1 x.1 (by rw[←CH];exact List.mem_map.2 ⟨x,hx,rfl⟩) ((hU _).1 O2))] at hr
  have hlen:U.length=tl.length:=by
   have h1:=List.Nodup.length_le_of_subset hn (fun i hi=>(hU i).1 hi)
   have h2:=List.Nodup.length_le_of_subset J4 (fun i hi=>(hU i).2 hi)
   omega
  rw[hlen]
  refine J0 hT hs (hd:=hd) BE hk tl ht _ ob listed a w J4 (fun i hi=>kF i (by simp[hi])) vO ⟨hl.1,fun j hj=>by rw[hl.2 j hj,hU]⟩
   (fun i hi O3 e he het=>qQ i hi (fun h=>O3 ((hU i).1 h)) e he ((hU e).2 het)) (fun r hr df=>Rq r (fun i hi=>by simp[hr.subset hi]) df) hr aI cb
 intro fuel
 induction fuel with
 |zero =>
  intro U listed a w hlen hn hU S0 hl qQ hr
  have:U=[]:=List.eq_nil_of_length_eq_zero hlen
  subst this
  have T6:∀i,i∈([]:List Nat)↔i∈tl:=fun i=>⟨fun h=>(by cases h),fun h=>S0 i h⟩
  exact J5 [] listed a w hn T6 hl qQ hr
 |succ fuel ih =>
  intro U listed a w hlen hn hU S0 hl qQ hr
  refine⟨fun Cy => ?_,fun i hi => ?_⟩
  ·obtain⟨i,hi,nk⟩:=Rq U hU (fun e=>by rw[e] at hlen;cases hlen)
   have:i∈Region.ready .any ops listed:=(ji hl (BE i (kF i (hU i hi)))).2 ⟨kF i (hU i hi),hi,nk⟩
   rw[Cy] at this;cases this
  ·have bh:i<ops.size:=by
    have hi':=hi
    rw[mem_ready] at hi'
    obtain⟨_,o,ho,_⟩:=hi'
    exact(Array.getElem?_eq_some_iff.1 ho).1
   obtain⟨_,Ji,nk⟩:=(ji hl (BE i bh)).1 hi
   have mask:∀j,((nv ops).getD i 0).testBit j=true→j ∉ U:=fun j hj =>
    (tP ops i j hj (fun x=>x<ops.size∧x ∉ U) (fun x hx e he=>⟨BE x hx.1 e he,qQ x hx.1 hx.2 e he⟩) (fun e he=>⟨BE i bh e he,nk e he⟩)).2
   rcases List.mem_append.1 (hU i Ji) with V7|O3
   ·
    rw[←CH] at V7
    obtain⟨x,hx,O5⟩:=List.mem_map.1 V7
    obtain⟨pre,post,mJ⟩:=List.append_of_mem hx
    obtain⟨h,SZ,np⟩:=Ba.at aq pre x post mJ
    have SQ:∀y∈pre,y∈rs:=fun y hy=>by rw[mJ];simp[hy]
    have Rr:tM pre:=zB (post:=x::post) (by rw[←mJ];exact OH)
    have IC:∀y∈rs,y.1∈hd:=fun y hy=>by rw[←CH];exact List.mem_map.2 ⟨y,hy,rfl⟩
    have s6:∀y∈rs,ops[y.1]? = some y.2.1:=fun y hy=>by
     obtain⟨p,q,N2⟩:=List.append_of_mem hy
     obtain⟨_,Xw,_⟩:=Ba.at aq p y q N2
     exact Xw
    have BD:∀y∈rs,∀z∈rs,y.1=z.1→y=z:=map_inj (·.1) rs (by rw[CH];exact O4)
    have V8:=xl (nv ops) pre post x (by rw[←mJ];exact J3)
    have Rt:∀y∈rs,((nv ops).getD y.1 0).testBit x.1=true→y.1∈U:=fun y hy hm=>Classical.byContradiction fun hc=>by
     have Ru:y.1<ops.size:=kF y.1 (by simp[IC y hy])
     have:=(tP ops y.1 x.1 hm (fun z=>z<ops.size∧z ∉ U) (fun z hz e he=>⟨BE z hz.1 e he,qQ z hz.1 hz.2 e he⟩) (fun e he=>⟨BE y.1 Ru e he,qQ y.1 Ru hc e he⟩)).2
     rw[O5] at this
     exact this Ji
    have Xx:∀y∈post,y∈rs:=fun y hy=>by rw[mJ];simp[hy]
    have CJ:∀r,(iD x=some r∨x.2.2.rd=some r)→(∀y∈pre,iD y=some r→y.1 ∉ U)∧(∀y∈post,iD y=some r→y.1∈U):=by
     intro r A2
     refine⟨fun y hy hw=>mask y.1 (by rw[←O5];exact V8.1 y hy (Ep hw A2)),fun y hy hw=>Rt y (Xx y hy) (V8.2 y hy ?_)⟩
     rcases A2 with A2|A2
     ·exact Ep A2 (.inl hw)
     ·exact J1 A2 hw
    have O2:x.1∈U:=by rw[O5];exact Ji
    have gA:∀r,(iD x=some r∨x.2.2.rd=some r)→(app U rs s1).aG.get r=(app [] pre s1).aG.get r:=fun r dG=>by
     rw[mJ];exact zw s1 (CJ r dG).1 (CJ r dG).2 O2
    have df:∀y∈pre,y≠x:=fun y hy e=>by
     have Er:=O4
     rw[←CH,mJ,List.map_append,List.map_cons] at Er
     exact(List.nodup_append.1 Er).2.2 y.1 (List.mem_map.2 ⟨y,hy,rfl⟩) x.1 (by simp) (by rw[e])
    have MK:x ∉ post:=fun hm=>by
     have Er:=O4
     rw[←CH,mJ,List.map_append,List.map_cons] at Er
     exact(List.nodup_cons.1 (List.nodup_append.1 Er).2.1).1 (List.mem_map.2 ⟨x,hm,rfl⟩)
    have he:∀t∈looks ops x.2.1,(app U rs s1).env.get t=(app [] pre s1).env.get t:=by
     intro t ht
     by_cases hy:∃y∈rs,y.2.1.dst=some t
     ·obtain⟨y,hy,QM⟩:=hy
      have LZ:hd=pre.map (·.1)++x.1::post.map (·.1):=by rw[←CH,mJ];simp
      obtain⟨h1,h2⟩:=Hg AV _ _ _ LZ x.2.1 SZ t ht y.1 (IC y hy) y.2.1 (s6 y hy) QM
      have SY:y.1 ∉ U:=mask y.1 (by rw[←O5];exact h2)
      have hyp:y∈pre:=by
       rcases h1 with h1|h1
       ·cases h1
       ·obtain⟨z,hz,Xy⟩:=List.mem_map.1 h1
        rw[←BD z (SQ z hz) y hy Xy];exact hz
      rw[kP U t y QM SY rs s1 OH hy,kP [] t y QM (by simp) pre s1 Rr hyp]
     ·rw[jh U t rs s1 (fun y Je MH=>absurd ⟨y,Je,MH⟩ hy),jh [] t pre s1 (fun y Je MH=>absurd ⟨y,SQ y Je,MH⟩ hy)]
    have Hh:CG P T Γ.n ops x.2.1 h (app U rs s1)=some x.2.2:=by
     refine Gf np he (fun r ML=>gA r ?_) (fun d NR hn th => ?_)
     ·rcases ML with h1|⟨h1,h2⟩
      ·exact .inr h1
      ·left;unfold iD;rw[h1];exact h2
     ·rw[gA d (.inl (by
       unfold iD
       cases JU:x.2.2.new with
       |none=>rw[JU] at hn;cases hn
       |some sc=>rw[NR]))]
      exact th
    unfold wpOp
    rw[←O5,SZ]
    refine Gb hT hs hr Hh (OJ x hx) (fun a' w' dG => ?_)
    have J6:=IA mJ OH (U:=U) (U':=Eo U x.1) (fun j=>mT) (fun y hy e=>BD y hy x hx e) (fun hm=>df x hm rfl) O2 (fun r T7=>(CJ r (.inl T7)).1) (fun r T7=>(CJ r (.inl T7)).2) MK s1
    have T8:x.1<ops.size:=by rw[O5];exact bh
    refine ih (Eo U x.1) _ a' w' (by have:=Hf hn O2;omega) (List.Pairwise.filter _ hn) (fun j hj=>hU j (mT.1 hj).1) (fun j hj=>mT.2 ⟨S0 j hj,fun e=>N1 x.1 (IC x hx) (e ▸ hj)⟩)
     (hl.set T8) (fun j hj QN e gn T9 => ?_) (Rel.Mx J6 dG)
    have Rv:=(mT.1 T9).1
    by_cases hjx:j=x.1
    ·subst hjx
     rw[O5] at gn
     exact nk e gn Rv
    ·exact qQ j hj (fun h=>QN (mT.2 ⟨h,hjx⟩)) e gn Rv
   ·
    have Xz:∀j∈hd,j ∉ U:=by
     intro j hj
     exact mask j (IB tl vO i O3 j hj)
    exact(J5 U listed a w hn (fun j=>⟨fun hj=>by
     rcases List.mem_append.1 (hU j hj) with h|h
     ·exact absurd hj (Xz j h)
     ·exact h,S0 j⟩) hl qQ hr |> fun h=>by rw[hlen] at h;exact h.2 i hi)
end
end Go.Proofs.YtllmkadmohkbfaaGreatDoor.Sym
