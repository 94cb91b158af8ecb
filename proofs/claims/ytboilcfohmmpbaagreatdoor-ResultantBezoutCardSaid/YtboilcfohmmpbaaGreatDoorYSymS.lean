/- Bezout and Accepts of the program answer as the reference does. -/
import Derived.Test.YtboilcfohmmpbaaGreatDoorYSymR
namespace Go.Proofs.YtboilcfohmmpbaaGreatDoor.Sym
open Go Go.RowKit
section
variable {P:Program} {T:Tab} {Γ:Ctx} {s s':St} {a:Act} {w:World} {ops:Array Oper} {Q:Exit→Act→World→Prop}
theorem c2_spec{ms:List Nat}{hd:List Nat} : ∀{r pre:List Nat},c2 ops ms hd pre r=true→∀p i q,r=p++i::q→∀o,ops[i]? = some o→∀t∈looks ops o,∀j∈hd,∀oj,ops[j]? = some oj→oj.dst=some t→(j∈pre∨j∈p)∧(ms.getD i 0).testBit j=true
 |[],_,_,p,i,q,h=>by cases p<;>cases h
 |x::r,pre,h,p,i,q,he=>by
  simp only[c2,Bool.and_eq_true] at h
  cases p with
  |nil =>
   injection he with he _
   subst he
   intro o ho t ht j hj oj hoj hd
   have h1:=h.1
   rw[ho] at h1
   simp only[List.all_eq_true] at h1
   have h2:=h1 t ht j hj
   rw[hoj] at h2
   simp only[hd] at h2
   simp only[Nat.beq_refl,Bool.not_true,Bool.false_or,Bool.and_eq_true] at h2
   exact⟨.inl (by simpa using h2.1),h2.2⟩
  |cons y p =>
   injection he with he he'
   subst he
   intro o ho t ht j hj oj hoj hd
   obtain⟨h3,h4⟩:=c2_spec h.2 p i q he' o ho t ht j hj oj hoj hd
   refine⟨?_,h4⟩
   rcases h3 with h3|h3
   ·rcases List.mem_cons.1 h3 with rfl|h3
    ·exact .inr (by simp)
    ·exact .inl h3
   ·exact .inr (by simp[h3])
theorem distinct_spec{n:Nat} : ∀(rs:List HR) (hs:List Hint) (s:St),HRun P T n ops rs hs s→distinct ops (rs.map (·.1))=true→dstsOk rs
 |[],_,_,_,_=>trivial
 |(i,o,res)::rs,hs,s,hrun,h=>by
  obtain⟨h1,_,h3⟩:=hrun
  simp only[List.map_cons,distinct,Bool.and_eq_true] at h
  refine⟨fun d hd x hx e => ?_,distinct_spec rs _ _ h3 h.2⟩
  have h4:=h.1
  rw[h1] at h4
  simp only[Option.bind_some,hd,List.all_eq_true,List.mem_map] at h4
  obtain⟨pre,post,hsplit⟩:=List.append_of_mem hx
  obtain⟨_,hox,_⟩:=HRun.at h3 pre x post hsplit
  have h5:=h4 x.1 ⟨x,hx,rfl⟩
  rw[hox] at h5
  simp only[Option.bind_some,e,Nat.beq_refl,Bool.not_true] at h5
  cases h5
theorem map_inj{α β:Type}(f:α→β)(l:List α)(h:(l.map f).Nodup):∀x∈l,∀y∈l,f x=f y→x=y:=by
 induction l with
 |nil=>intro x hx;cases hx
 |cons z l ih =>
  simp only[List.map_cons] at h
  obtain⟨h1,h2⟩:=List.nodup_cons.1 h
  intro x hx y hy e
  rcases List.mem_cons.1 hx with h3|h3<;>rcases List.mem_cons.1 hy with h4|h4
  ·rw[h3,h4]
  ·exact absurd (List.mem_map.2 ⟨y,h4,by rw[←e,h3]⟩) h1
  ·exact absurd (List.mem_map.2 ⟨x,h3,by rw[e,h4]⟩) h1
  ·exact ih h2 x h3 y h4 e
theorem tailOk_hd{ms hd:List Nat}(tl:List Nat)(h:tailOk ms hd tl=true):∀i∈tl,∀j∈hd,(ms.getD i 0).testBit j=true:=by
 induction tl with
 |nil=>intro i hi;cases hi
 |cons t tl ih =>
  simp only[tailOk,Bool.and_eq_true,List.all_eq_true] at h
  intro i hi j hj
  rcases List.mem_cons.1 hi with hi|hi
  ·subst hi;exact h.1.1 j hj
  ·exact ih h.2 i hi j hj
theorem head_any(hT:TOk P T)(hs:∀r,dom Γ.sin r→Γ.n≤r)(hfw:∀i,i<ops.size→∀e∈dirOf ops i,e<ops.size){hd tl:List Nat}{rs:List HR}{hh ht:List Hint}{s1:St}{ob:List Prop}
  (hrs:rs.map (·.1)=hd) (hrun:HRun P T Γ.n ops rs hh s1) (hds:distinct ops hd=true) (hc2:c2 ops (masks ops) hd [] hd=true) (htl:tailOk (masks ops) hd tl=true) (hind:indepB (masks ops) rs=true) (hnd:(hd++tl).Nodup)
  (hsz:∀i∈hd++tl,i<ops.size) (hfwd:∀r:List Nat,(∀i∈r,i∈hd++tl)→r≠[]→∃i∈r,∀e∈dirOf ops i,e ∉ r) (hobs:∀x∈rs,Alls x.2.2.ob)
  (hst:stepsI P T Γ.n ops tl ht (app [] rs s1)=some (s',ob)) (hob:Alls ob) (hk:∀a' w',Rel Γ s' a' w'→Q .normal a' w') :
  ∀(fuel:Nat) (U:List Nat) (listed:Array Bool) (a:Act) (w:World),U.length=fuel→U.Nodup→(∀i∈U,i∈hd++tl)→(∀i∈tl,i∈U)→Lst ops listed U→(∀i,i<ops.size→i ∉ U→∀e∈dirOf ops i,e ∉ U) →
   Rel Γ (app U rs s1) a w→wpAny P .any ops Q fuel listed a w:=by
 have hdo:=distinct_spec rs hh s1 hrun (by rw[hrs];exact hds)
 have hnd1:hd.Nodup:=(List.nodup_append.1 hnd).1
 have hnd2:tl.Nodup:=(List.nodup_append.1 hnd).2.1
 have hdisj:∀i∈hd,i ∉ tl:=fun i hi hi2=>(List.nodup_append.1 hnd).2.2 i hi i hi2 rfl
 have toTail:∀(U:List Nat) (listed:Array Bool) (a:Act) (w:World),U.Nodup→(∀i,i∈U↔i∈tl)→Lst ops listed U→(∀i,i<ops.size→i ∉ U→∀e∈dirOf ops i,e ∉ U)→Rel Γ (app U rs s1) a w →
   wpAny P .any ops Q U.length listed a w:=by
  intro U listed a w hn hU hl hcl hr
  have happ:∀(l:List HR) (s:St),(∀x∈l,x.1 ∉ U)→app U l s=app [] l s:=by
   intro l
   induction l with
   |nil=>intro s _;rfl
   |cons x l ih =>
    intro s hx
    rw[app_nil_cons]
    obtain⟨i,o,res⟩:=x
    show app U l (if i∈U then s else hAdd s o.dst res)=_
    rw[if_neg (hx (i,o,res) (by simp))]
    exact ih _ (fun y hy=>hx y (by simp[hy]))
  rw[happ rs s1 (fun x hx hxU=>hdisj x.1 (by rw[←hrs];exact List.mem_map.2 ⟨x,hx,rfl⟩) ((hU _).1 hxU))] at hr
  have hlen:U.length=tl.length:=by
   have h1:=List.Nodup.length_le_of_subset hn (fun i hi=>(hU i).1 hi)
   have h2:=List.Nodup.length_le_of_subset hnd2 (fun i hi=>(hU i).2 hi)
   omega
  rw[hlen]
  refine tail_any hT hs (hd:=hd) hfw hk tl ht _ ob listed a w hnd2 (fun i hi=>hsz i (by simp[hi])) htl ⟨hl.1,fun j hj=>by rw[hl.2 j hj,hU]⟩
   (fun i hi hit e he het=>hcl i hi (fun h=>hit ((hU i).1 h)) e he ((hU e).2 het)) (fun r hr hne=>hfwd r (fun i hi=>by simp[hr.subset hi]) hne) hr hst hob
 intro fuel
 induction fuel with
 |zero =>
  intro U listed a w hlen hn hU htU hl hcl hr
  have:U=[]:=List.eq_nil_of_length_eq_zero hlen
  subst this
  have htl0:∀i,i∈([]:List Nat)↔i∈tl:=fun i=>⟨fun h=>(by cases h),fun h=>htU i h⟩
  exact toTail [] listed a w hn htl0 hl hcl hr
 |succ fuel ih =>
  intro U listed a w hlen hn hU htU hl hcl hr
  refine⟨fun hnil => ?_,fun i hi => ?_⟩
  ·obtain⟨i,hi,hde⟩:=hfwd U hU (fun e=>by rw[e] at hlen;cases hlen)
   have:i∈Region.ready .any ops listed:=(ready_iff hl (hfw i (hsz i (hU i hi)))).2 ⟨hsz i (hU i hi),hi,hde⟩
   rw[hnil] at this;cases this
  ·have hlt:i<ops.size:=by
    have hi':=hi
    rw[mem_ready] at hi'
    obtain⟨_,o,ho,_⟩:=hi'
    exact(Array.getElem?_eq_some_iff.1 ho).1
   obtain⟨_,hiU,hde⟩:=(ready_iff hl (hfw i hlt)).1 hi
   have mask:∀j,((masks ops).getD i 0).testBit j=true→j ∉ U:=fun j hj =>
    (masks_spec ops i j hj (fun x=>x<ops.size∧x ∉ U) (fun x hx e he=>⟨hfw x hx.1 e he,hcl x hx.1 hx.2 e he⟩) (fun e he=>⟨hfw i hlt e he,hde e he⟩)).2
   rcases List.mem_append.1 (hU i hiU) with hih|hit
   ·
    rw[←hrs] at hih
    obtain⟨x,hx,hxi⟩:=List.mem_map.1 hih
    obtain⟨pre,post,hsplit⟩:=List.append_of_mem hx
    obtain⟨h,hox,hres⟩:=HRun.at hrun pre x post hsplit
    have hxs:∀y∈pre,y∈rs:=fun y hy=>by rw[hsplit];simp[hy]
    have hdpre:dstsOk pre:=dstsOk_app (post:=x::post) (by rw[←hsplit];exact hdo)
    have hidx:∀y∈rs,y.1∈hd:=fun y hy=>by rw[←hrs];exact List.mem_map.2 ⟨y,hy,rfl⟩
    have hop:∀y∈rs,ops[y.1]? = some y.2.1:=fun y hy=>by
     obtain⟨p,q,hpq⟩:=List.append_of_mem hy
     obtain⟨_,hoy,_⟩:=HRun.at hrun p y q hpq
     exact hoy
    have huniq:∀y∈rs,∀z∈rs,y.1=z.1→y=z:=map_inj (·.1) rs (by rw[hrs];exact hnd1)
    have hap:=indepB_spec (masks ops) pre post x (by rw[←hsplit];exact hind)
    have hlate:∀y∈rs,((masks ops).getD y.1 0).testBit x.1=true→y.1∈U:=fun y hy hm=>Classical.byContradiction fun hc=>by
     have hylt:y.1<ops.size:=hsz y.1 (by simp[hidx y hy])
     have:=(masks_spec ops y.1 x.1 hm (fun z=>z<ops.size∧z ∉ U) (fun z hz e he=>⟨hfw z hz.1 e he,hcl z hz.1 hz.2 e he⟩) (fun e he=>⟨hfw y.1 hylt e he,hcl y.1 hylt hc e he⟩)).2
     rw[hxi] at this
     exact this hiU
    have hys:∀y∈post,y∈rs:=fun y hy=>by rw[hsplit];simp[hy]
    have htouch:∀r,(wsite x=some r∨x.2.2.rd=some r)→(∀y∈pre,wsite y=some r→y.1 ∉ U)∧(∀y∈post,wsite y=some r→y.1∈U):=by
     intro r hxr
     refine⟨fun y hy hw=>mask y.1 (by rw[←hxi];exact hap.1 y hy (clash_wr hw hxr)),fun y hy hw=>hlate y (hys y hy) (hap.2 y hy ?_)⟩
     rcases hxr with hxr|hxr
     ·exact clash_wr hxr (.inl hw)
     ·exact clash_rd hxr hw
    have hxU:x.1∈U:=by rw[hxi];exact hiU
    have hsame:∀r,(wsite x=some r∨x.2.2.rd=some r)→(app U rs s1).sto.get r=(app [] pre s1).sto.get r:=fun r hr'=>by
     rw[hsplit];exact app_sto_at s1 (htouch r hr').1 (htouch r hr').2 hxU
    have hne:∀y∈pre,y≠x:=fun y hy e=>by
     have hnd1':=hnd1
     rw[←hrs,hsplit,List.map_append,List.map_cons] at hnd1'
     exact(List.nodup_append.1 hnd1').2.2 y.1 (List.mem_map.2 ⟨y,hy,rfl⟩) x.1 (by simp) (by rw[e])
    have hne2:x ∉ post:=fun hm=>by
     have hnd1':=hnd1
     rw[←hrs,hsplit,List.map_append,List.map_cons] at hnd1'
     exact(List.nodup_cons.1 (List.nodup_append.1 hnd1').2.1).1 (List.mem_map.2 ⟨x,hm,rfl⟩)
    have he:∀t∈looks ops x.2.1,(app U rs s1).env.get t=(app [] pre s1).env.get t:=by
     intro t ht
     by_cases hy:∃y∈rs,y.2.1.dst=some t
     ·obtain⟨y,hy,hyt⟩:=hy
      have hsp:hd=pre.map (·.1)++x.1::post.map (·.1):=by rw[←hrs,hsplit];simp
      obtain⟨h1,h2⟩:=c2_spec hc2 _ _ _ hsp x.2.1 hox t ht y.1 (hidx y hy) y.2.1 (hop y hy) hyt
      have hyU:y.1 ∉ U:=mask y.1 (by rw[←hxi];exact h2)
      have hyp:y∈pre:=by
       rcases h1 with h1|h1
       ·cases h1
       ·obtain⟨z,hz,hze⟩:=List.mem_map.1 h1
        rw[←huniq z (hxs z hz) y hy hze];exact hz
      rw[app_env_some U t y hyt hyU rs s1 hdo hy,app_env_some [] t y hyt (by simp) pre s1 hdpre hyp]
     ·rw[app_env_none U t rs s1 (fun y hy' ht'=>absurd ⟨y,hy',ht'⟩ hy),app_env_none [] t pre s1 (fun y hy' ht'=>absurd ⟨y,hxs y hy',ht'⟩ hy)]
    have hres':hRes P T Γ.n ops x.2.1 h (app U rs s1)=some x.2.2:=by
     refine hRes_congr hres he (fun r hrr=>hsame r ?_) (fun d hd' hn hnone => ?_)
     ·rcases hrr with h1|⟨h1,h2⟩
      ·exact .inr h1
      ·left;unfold wsite;rw[h1];exact h2
     ·rw[hsame d (.inl (by
       unfold wsite
       cases hx2:x.2.2.new with
       |none=>rw[hx2] at hn;cases hn
       |some sc=>rw[hd']))]
      exact hnone
    unfold wpOp
    rw[←hxi,hox]
    refine hRes_sound hT hs hr hres' (hobs x hx) (fun a' w' hr' => ?_)
    have hlike:=app_erase hsplit hdo (U:=U) (U':=ErU U x.1) (fun j=>mem_ErU) (fun y hy e=>huniq y hy x hx e) (fun hm=>hne x hm rfl) hxU (fun r hr2=>(htouch r (.inl hr2)).1) (fun r hr2=>(htouch r (.inl hr2)).2) hne2 s1
    have hxlt:x.1<ops.size:=by rw[hxi];exact hlt
    refine ih (ErU U x.1) _ a' w' (by have:=ErU_len hn hxU;omega) (List.Pairwise.filter _ hn) (fun j hj=>hU j (mem_ErU.1 hj).1) (fun j hj=>mem_ErU.2 ⟨htU j hj,fun e=>hdisj x.1 (hidx x hx) (e ▸ hj)⟩)
     (hl.set hxlt) (fun j hj hjU e he' heU => ?_) (Rel.like hlike hr')
    have heU':=(mem_ErU.1 heU).1
    by_cases hjx:j=x.1
    ·subst hjx
     rw[hxi] at he'
     exact hde e he' heU'
    ·exact hcl j hj (fun h=>hjU (mem_ErU.2 ⟨h,hjx⟩)) e he' heU'
   ·
    have hhd:∀j∈hd,j ∉ U:=by
     intro j hj
     exact mask j (tailOk_hd tl htl i hit j hj)
    exact(toTail U listed a w hn (fun j=>⟨fun hj=>by
     rcases List.mem_append.1 (hU j hj) with h|h
     ·exact absurd hj (hhd j h)
     ·exact h,htU j⟩) hl hcl hr |> fun h=>by rw[hlen] at h;exact h.2 i hi)
end
end Go.Proofs.YtboilcfohmmpbaaGreatDoor.Sym
