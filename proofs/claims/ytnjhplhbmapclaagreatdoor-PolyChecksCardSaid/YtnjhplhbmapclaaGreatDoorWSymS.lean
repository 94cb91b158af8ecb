/- Lemmas for the statements of this seat. -/
import Derived.Test.YtnjhplhbmapclaaGreatDoorWSymR
namespace Go.Proofs.YtnjhplhbmapclaaGreatDoor.Sym
open Go Go.RowKit
section
variable {P:Program} {T:gi} {Γ:Ctx} {s s':St} {a:Act} {w:World} {ops:Array Oper} {Q:Exit→Act→World→Prop}
theorem AF{ms:List Nat}{hd:List Nat} : ∀{r pre:List Nat},c2 ops ms hd pre r=true→∀p i q,r=p++i::q→∀o,ops[i]? = some o→∀t∈looks ops o,∀j∈hd,∀oj,ops[j]? = some oj→oj.dst=some t→(j∈pre∨j∈p)∧(ms.getD i 0).testBit j=true
 |[],_,_,p,i,q,h=>by cases p<;>cases h
 |x::r,pre,h,p,i,q,he=>by
  simp only[c2,Bool.and_eq_true] at h
  cases p with
  |nil =>
   injection he with he _
   subst he
   intro o ho t ht j hj oj K9 hd
   have h1:=h.1
   rw[ho] at h1
   simp only[List.all_eq_true] at h1
   have h2:=h1 t ht j hj
   rw[K9] at h2
   simp only[hd] at h2
   simp only[Nat.beq_refl,Bool.not_true,Bool.false_or,Bool.and_eq_true] at h2
   exact⟨.inl (by simpa using h2.1),h2.2⟩
  |cons y p =>
   injection he with he dN
   subst he
   intro o ho t ht j hj oj K9 hd
   obtain⟨h3,h4⟩:=AF h.2 p i q dN o ho t ht j hj oj K9 hd
   refine⟨?_,h4⟩
   rcases h3 with h3|h3
   ·rcases List.mem_cons.1 h3 with rfl|h3
    ·exact .inr (by simp)
    ·exact .inl h3
   ·exact .inr (by simp[h3])
theorem oi{n:Nat} : ∀(rs:List HR) (hs:List Hint) (s:St),uU P T n ops rs hs s→distinct ops (rs.map (·.1))=true→oA rs
 |[],_,_,_,_=>trivial
 |(i,o,res)::rs,hs,s,ai,h=>by
  obtain⟨h1,_,h3⟩:=ai
  simp only[List.map_cons,distinct,Bool.and_eq_true] at h
  refine⟨fun d hd x hx e => ?_,oi rs _ _ h3 h.2⟩
  have h4:=h.1
  rw[h1] at h4
  simp only[Option.bind_some,hd,List.all_eq_true,List.mem_map] at h4
  obtain⟨pre,post,jq⟩:=List.append_of_mem hx
  obtain⟨_,Ka,_⟩:=uU.at h3 pre x post jq
  have h5:=h4 x.1 ⟨x,hx,rfl⟩
  rw[Ka] at h5
  simp only[Option.bind_some,e,Nat.beq_refl,Bool.not_true] at h5
  cases h5
theorem map_inj{α β:Type}(f:α→β)(l:List α)(h:(l.map f).Nodup):∀x∈l,∀y∈l,f x=f y→x=y:=by
 induction l with
 |nil=>intro x hx;cases hx
 |cons z l ih =>
  simp only[List.map_cons] at h
  obtain⟨h1,h2⟩:=List.nodup_cons.1 h
  intro x hx y hy e
  rcases List.mem_cons.1 hx with h3|h3<;>rcases List.mem_cons.1 hy with h4|h4
  ·rw[h3,h4]
  ·exact absurd (List.mem_map.2 ⟨y,h4,by rw[←e,h3]⟩) h1
  ·exact absurd (List.mem_map.2 ⟨x,h3,by rw[e,h4]⟩) h1
  ·exact ih h2 x h3 y h4 e
theorem By{ms hd:List Nat}(tl:List Nat)(h:oG ms hd tl=true):∀i∈tl,∀j∈hd,(ms.getD i 0).testBit j=true:=by
 induction tl with
 |nil=>intro i hi;cases hi
 |cons t tl ih =>
  simp only[oG,Bool.and_eq_true,List.all_eq_true] at h
  intro i hi j hj
  rcases List.mem_cons.1 hi with hi|hi
  ·subst hi;exact h.1.1 j hj
  ·exact ih h.2 i hi j hj
theorem C6(hT:jh P T)(hs:∀r,aT Γ.sin r→Γ.n≤r)(vl:∀i,i<ops.size→∀e∈eJ ops i,e<ops.size){hd tl:List Nat}{rs:List HR}{hh ht:List Hint}{s1:St}{ob:List Prop}
  (zn:rs.map (·.1)=hd) (ai:uU P T Γ.n ops rs hh s1) (Cz:distinct ops hd=true) (C7:c2 ops (jY ops) hd [] hd=true) (qP:oG (jY ops) hd tl=true) (C8:oH (jY ops) rs=true) (sr:(hd++tl).Nodup)
  (gn:∀i∈hd++tl,i<ops.size) (I7:∀r:List Nat,(∀i∈r,i∈hd++tl)→r≠[]→∃i∈r,∀e∈eJ ops i,e ∉ r) (GK:∀x∈rs,bV x.2.2.ob)
  (ay:tE P T Γ.n ops tl ht (app [] rs s1)=some (s',ob)) (bj:bV ob) (hk:∀a' w',Rel Γ s' a' w'→Q .normal a' w') :
  ∀(fuel:Nat) (U:List Nat) (listed:Array Bool) (a:Act) (w:World),U.length=fuel→U.Nodup→(∀i∈U,i∈hd++tl)→(∀i∈tl,i∈U)→C3 ops listed U→(∀i,i<ops.size→i ∉ U→∀e∈eJ ops i,e ∉ U) →
   Rel Γ (app U rs s1) a w→wpAny P .any ops Q fuel listed a w:=by
 have GI:=oi rs hh s1 ai (by rw[zn];exact Cz)
 have G8:hd.Nodup:=(List.nodup_append.1 sr).1
 have C9:tl.Nodup:=(List.nodup_append.1 sr).2.1
 have Gc:∀i∈hd,i ∉ tl:=fun i hi vd=>(List.nodup_append.1 sr).2.2 i hi i vd rfl
 have Da:∀(U:List Nat) (listed:Array Bool) (a:Act) (w:World),U.Nodup→(∀i,i∈U↔i∈tl)→C3 ops listed U→(∀i,i<ops.size→i ∉ U→∀e∈eJ ops i,e ∉ U)→Rel Γ (app U rs s1) a w →
   wpAny P .any ops Q U.length listed a w:=by
  intro U listed a w hn hU hl lF hr
  have La:∀(l:List HR) (s:St),(∀x∈l,x.1 ∉ U)→app U l s=app [] l s:=by
   intro l
   induction l with
   |nil=>intro s _;rfl
   |cons x l ih =>
    intro s hx
    rw[lV]
    obtain⟨i,o,res⟩:=x
    show app U l (if i∈U then s else hAdd s o.dst res)=_
    rw[if_neg (hx (i,o,res) (by simp))]
    exact ih _ (fun y hy=>hx y (by simp[hy]))
  rw[La rs s1 (fun x hx G6=>Gc x.1 (by rw[←zn];exact List.mem_map.2 ⟨x,hx,rfl⟩) ((hU _).1 G6))] at hr
  have hlen:U.length=tl.length:=by
   have h1:=List.Nodup.length_le_of_subset hn (fun i hi=>(hU i).1 hi)
   have h2:=List.Nodup.length_le_of_subset C9 (fun i hi=>(hU i).2 hi)
   omega
  rw[hlen]
  refine C4 hT hs (hd:=hd) vl hk tl ht _ ob listed a w C9 (fun i hi=>gn i (by simp[hi])) qP ⟨hl.1,fun j hj=>by rw[hl.2 j hj,hU]⟩
   (fun i hi G7 e he het=>lF i hi (fun h=>G7 ((hU i).1 h)) e he ((hU e).2 het)) (fun r hr fP=>I7 r (fun i hi=>by simp[hr.subset hi]) fP) hr ay bj
 intro fuel
 induction fuel with
 |zero =>
  intro U listed a w hlen hn hU Kb hl lF hr
  have:U=[]:=List.eq_nil_of_length_eq_zero hlen
  subst this
  have Lb:∀i,i∈([]:List Nat)↔i∈tl:=fun i=>⟨fun h=>(by cases h),fun h=>Kb i h⟩
  exact Da [] listed a w hn Lb hl lF hr
 |succ fuel ih =>
  intro U listed a w hlen hn hU Kb hl lF hr
  refine⟨fun v7 => ?_,fun i hi => ?_⟩
  ·obtain⟨i,hi,kp⟩:=I7 U hU (fun e=>by rw[e] at hlen;cases hlen)
   have:i∈Region.ready .any ops listed:=(fE hl (vl i (gn i (hU i hi)))).2 ⟨gn i (hU i hi),hi,kp⟩
   rw[v7] at this;cases this
  ·have cS:i<ops.size:=by
    have I8:=hi
    rw[mem_ready] at I8
    obtain⟨_,o,ho,_⟩:=I8
    exact(Array.getElem?_eq_some_iff.1 ho).1
   obtain⟨_,Cf,kp⟩:=(fE hl (vl i cS)).1 hi
   have mask:∀j,((jY ops).getD i 0).testBit j=true→j ∉ U:=fun j hj =>
    (oE ops i j hj (fun x=>x<ops.size∧x ∉ U) (fun x hx e he=>⟨vl x hx.1 e he,lF x hx.1 hx.2 e he⟩) (fun e he=>⟨vl i cS e he,kp e he⟩)).2
   rcases List.mem_append.1 (hU i Cf) with MG|G7
   ·
    rw[←zn] at MG
    obtain⟨x,hx,G9⟩:=List.mem_map.1 MG
    obtain⟨pre,post,jq⟩:=List.append_of_mem hx
    obtain⟨h,Ka,jV⟩:=uU.at ai pre x post jq
    have J3:∀y∈pre,y∈rs:=fun y hy=>by rw[jq];simp[hy]
    have I9:oA pre:=tF (post:=x::post) (by rw[←jq];exact GI)
    have Bz:∀y∈rs,y.1∈hd:=fun y hy=>by rw[←zn];exact List.mem_map.2 ⟨y,hy,rfl⟩
    have nZ:∀y∈rs,ops[y.1]? = some y.2.1:=fun y hy=>by
     obtain⟨p,q,Gd⟩:=List.append_of_mem hy
     obtain⟨_,N7,_⟩:=uU.at ai p y q Gd
     exact N7
    have vj:∀y∈rs,∀z∈rs,y.1=z.1→y=z:=map_inj (·.1) rs (by rw[zn];exact G8)
    have MH:=rz (jY ops) pre post x (by rw[←jq];exact C8)
    have Ja:∀y∈rs,((jY ops).getD y.1 0).testBit x.1=true→y.1∈U:=fun y hy hm=>Classical.byContradiction fun hc=>by
     have Jb:y.1<ops.size:=gn y.1 (by simp[Bz y hy])
     have:=(oE ops y.1 x.1 hm (fun z=>z<ops.size∧z ∉ U) (fun z hz e he=>⟨vl z hz.1 e he,lF z hz.1 hz.2 e he⟩) (fun e he=>⟨vl y.1 Jb e he,lF y.1 Jb hc e he⟩)).2
     rw[G9] at this
     exact this Cf
    have N8:∀y∈post,y∈rs:=fun y hy=>by rw[jq];simp[hy]
    have wj:∀r,(eT x=some r∨x.2.2.rd=some r)→(∀y∈pre,eT y=some r→y.1 ∉ U)∧(∀y∈post,eT y=some r→y.1∈U):=by
     intro r uK
     refine⟨fun y hy hw=>mask y.1 (by rw[←G9];exact MH.1 y hy (xS hw uK)),fun y hy hw=>Ja y (N8 y hy) (MH.2 y hy ?_)⟩
     rcases uK with uK|uK
     ·exact xS uK (.inl hw)
     ·exact C5 uK hw
    have G6:x.1∈U:=by rw[G9];exact Cf
    have dy:∀r,(eT x=some r∨x.2.2.rd=some r)→(app U rs s1).aw.get r=(app [] pre s1).aw.get r:=fun r bU=>by
     rw[jq];exact tC s1 (wj r bU).1 (wj r bU).2 G6
    have fP:∀y∈pre,y≠x:=fun y hy e=>by
     have xT:=G8
     rw[←zn,jq,List.map_append,List.map_cons] at xT
     exact(List.nodup_append.1 xT).2.2 y.1 (List.mem_map.2 ⟨y,hy,rfl⟩) x.1 (by simp) (by rw[e])
    have Lc:x ∉ post:=fun hm=>by
     have xT:=G8
     rw[←zn,jq,List.map_append,List.map_cons] at xT
     exact(List.nodup_cons.1 (List.nodup_append.1 xT).2.1).1 (List.mem_map.2 ⟨x,hm,rfl⟩)
    have he:∀t∈looks ops x.2.1,(app U rs s1).env.get t=(app [] pre s1).env.get t:=by
     intro t ht
     by_cases hy:∃y∈rs,y.2.1.dst=some t
     ·obtain⟨y,hy,It⟩:=hy
      have Bm:hd=pre.map (·.1)++x.1::post.map (·.1):=by rw[←zn,jq];simp
      obtain⟨h1,h2⟩:=AF C7 _ _ _ Bm x.2.1 Ka t ht y.1 (Bz y hy) y.2.1 (nZ y hy) It
      have J9:y.1 ∉ U:=mask y.1 (by rw[←G9];exact h2)
      have hyp:y∈pre:=by
       rcases h1 with h1|h1
       ·cases h1
       ·obtain⟨z,hz,N9⟩:=List.mem_map.1 h1
        rw[←vj z (J3 z hz) y hy N9];exact hz
      rw[gX U t y It J9 rs s1 GI hy,gX [] t y It (by simp) pre s1 I9 hyp]
     ·rw[fD U t rs s1 (fun y Cd F8=>absurd ⟨y,Cd,F8⟩ hy),fD [] t pre s1 (fun y Cd F8=>absurd ⟨y,J3 y Cd,F8⟩ hy)]
    have AG:wh P T Γ.n ops x.2.1 h (app U rs s1)=some x.2.2:=by
     refine zw jV he (fun r Ld=>dy r ?_) (fun d EM hn oa => ?_)
     ·rcases Ld with h1|⟨h1,h2⟩
      ·exact .inr h1
      ·left;unfold eT;rw[h1];exact h2
     ·rw[dy d (.inl (by
       unfold eT
       cases E4:x.2.2.new with
       |none=>rw[E4] at hn;cases hn
       |some sc=>rw[EM]))]
      exact oa
    unfold wpOp
    rw[←G9,Ka]
    refine zm hT hs hr AG (GK x hx) (fun a' w' bU => ?_)
    have Db:=Bx jq GI (U:=U) (U':=xR U x.1) (fun j=>jJ) (fun y hy e=>vj y hy x hx e) (fun hm=>fP x hm rfl) G6 (fun r Gy=>(wj r (.inl Gy)).1) (fun r Gy=>(wj r (.inl Gy)).2) Lc s1
    have Le:x.1<ops.size:=by rw[G9];exact cS
    refine ih (xR U x.1) _ a' w' (by have:=AE hn G6;omega) (List.Pairwise.filter _ hn) (fun j hj=>hU j (jJ.1 hj).1) (fun j hj=>jJ.2 ⟨Kb j hj,fun e=>Gc x.1 (Bz x hx) (e ▸ hj)⟩)
     (hl.set Le) (fun j hj Iu e dN Lf => ?_) (Rel.ER Db bU)
    have Jc:=(jJ.1 Lf).1
    by_cases hjx:j=x.1
    ·subst hjx
     rw[G9] at dN
     exact kp e dN Jc
    ·exact lF j hj (fun h=>Iu (jJ.2 ⟨h,hjx⟩)) e dN Jc
   ·
    have Oa:∀j∈hd,j ∉ U:=by
     intro j hj
     exact mask j (By tl qP i G7 j hj)
    exact(Da U listed a w hn (fun j=>⟨fun hj=>by
     rcases List.mem_append.1 (hU j hj) with h|h
     ·exact absurd hj (Oa j h)
     ·exact h,Kb j⟩) hl lF hr |> fun h=>by rw[hlen] at h;exact h.2 i hi)
end
end Go.Proofs.YtnjhplhbmapclaaGreatDoor.Sym
