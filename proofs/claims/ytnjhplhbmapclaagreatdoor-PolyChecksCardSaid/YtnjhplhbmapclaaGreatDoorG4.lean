/- Lemmas for the statements of this seat. -/
import Derived.Test.YtnjhplhbmapclaaGreatDoorG3
import Derived.Test.YtnjhplhbmapclaaGreatDoorP3
import Derived.Test.YtnjhplhbmapclaaGreatDoorP2
import Derived.Test.YtnjhplhbmapclaaGreatDoorG2
import Derived.Shelf.LaysM
namespace Go.Proofs.YtnjhplhbmapclaaGreatDoor.Sym
open Go Path ct
set_option linter.unusedVariables false
theorem getTop{q:List Rat}(h:q≠[]):q[q.length-1]? = some (dx q):=je (by have:=List.length_pos_iff.2 h;omega)
theorem Aj{h:Nat}{q:List Rat}(hq:Ch h q)(h1:1≤h):ht (dx q)≤h:=by have:=hq.ht (q.length-1);unfold dx;omega
namespace EB
theorem H6:∀(n:Nat) (q:List Rat),q.length=n→n<4611686018427387904→Fl 274877906944 q→ew.aM (q.map ba) [] (.row 0 0 ((aL q).map ba).length 3) [(0,(.pure (((aL q).map ba).map ae.cells).flatten))]:=by
 intro n
 induction n with
 |zero =>
  intro q hq _ _
  have:q=[]:=List.eq_nil_of_length_eq_zero hq
  subst this
  exact ew.BI [] rfl rfl (by simp)
 |succ n ih =>
  intro q hq hb hf
  obtain⟨v,hv⟩:∃v,q[n]? = some v:=⟨_,List.getElem?_eq_getElem (by omega)⟩
  have hs:=wZ hv hq
  have hm:(q.map ba)[n]? = some (ba v):=by rw[List.getElem?_map,hv];rfl
  have wR:=hf v (List.mem_of_getElem? hv)
  have sg:=rM.Sign (ba v) (iq wR)
  rw[cu] at sg
  have hl:(q.map ba).length=n+1:=by rw[List.length_map];exact hq
  by_cases h0:v=0
  ·have e:aL q=aL (q.take n):=by
    conv=>lhs;rw[hs,h0,mq]
   rw[e]
   refine ew.tY (q.map ba) n (ba v) _ n rfl (by omega) (by unfold ar;omega) (by omega) (by omega) hm sg (dR.2 h0) (by omega) (by omega) ?_
   have:=ih (q.take n) (by rw[List.length_take];omega) (by omega) (fun x hx=>hf x (List.mem_of_mem_take hx))
   rwa[List.map_take] at this
  ·have e:aL q=q:=by rw[hs,qa h0]
   rw[e]
   exact ew.sf (q.map ba) n (ba v) _ rfl rfl (by omega) (by unfold ar;omega) (by omega) (by omega) hm sg (fun e=>h0 (dR.1 e))
theorem Gu{k:Nat}(q:List Rat)(hl:q.length≤1000000)(hf:Fl k q)(hk:k≤68719476736):aq bh 12 [.pv (pq q)] [] (.row 0 0 ((aL q).map ba).length 3) [(0,(.pure (((aL q).map ba).map ae.cells).flatten))]:=by
 have loop:∀(j t:Nat) (site:List ae),q.length-t=j→t≤q.length→site=(q.take t).map ba→ew.ag site (q.map ba) t [] (.row 0 0 ((aL q).map ba).length 3) [(0,(.pure (((aL q).map ba).map ae.cells).flatten))]:=by
  intro j
  induction j with
  |zero =>
   intro t site hj ht hs
   refine ew.cW site _ _ rfl (by rw[bS];omega) ?_
   rw[List.take_of_length_le (by omega)] at hs
   rw[hs]
   exact H6 q.length q rfl (by omega) (mu hf (by omega))
  |succ j ih =>
   intro t site hj ht hs
   obtain⟨v,hv⟩:∃v,q[t]? = some v:=⟨_,List.getElem?_eq_getElem (by omega)⟩
   have OW:=hf v (List.mem_of_getElem? hv)
   have Ki:site.length=t:=by rw[hs,List.length_map,List.length_take];omega
   refine ew.l10 site _ t _ _ rfl (by rw[bS];omega) (getM hv) (QF.DX v (by omega)) (by simp;omega) (by omega) (ih (t+1) _ (by omega) (by omega) ?_)
   rw[hs,List.take_add_one,hv];simp
 exact ew.e0 _ (loop _ 0 [] rfl (by omega) rfl)
theorem nv{h b:Nat}(p q:List Rat)(hz:aU q=false)(kX:q≠[])(hp:Ch h p)(hq:Ch b q)(h1:1≤h)(so:1≤b)(Ng:p.length≤10000)(Nh:q.length≤10000)(hk:2*(h+(p.length+1-q.length)*(b+1))+3*b+5≤68719476736):Cp 33 [pq p,pq q] (.aY [pq (ld p q).1,pq (ld p q).2]):=by
 have xc:=List.length_pos_iff.2 kX
 have Px:=Aj hq so
 have D8:=iL hz kX
 obtain⟨H,hH⟩:∃H,H=h+(p.length+1-q.length)*(b+1):=⟨_,rfl⟩
 rw[←hH] at hk
 have Ni:∀i,ht (coef q i)≤b:=fun i=>by have:=hq.ht i;omega
 have loop:∀(n hc:Nat) (out rest:List Rat),rest.length<n→1≤hc→Ch hc rest→hc+(rest.length+1-q.length)*(b+1)≤H→aU out=false→aU rest=false→out.length≤p.length+1-q.length→rest.length≤p.length→(∀i,ht (coef out i)≤H+b)→(∀i,i+q.length≤rest.length→coef out i=0) →
   ef.ag (q.map ba) (rest.map ba).length (p.length+1-q.length) (ba (dx q)) (rest.map ba) ((gP (p.length+1-q.length) (coef out)).map ba) (.aY [pq (kr n out rest q).1,pq (kr n out rest q).2]):=by
  intro n
  induction n with
  |zero=>intro hc out rest hn;omega
  |succ n ih =>
   intro hc out rest hn yI hr OY zo zr lo lr ho EW
   rw[kr]
   cases hb:Nat.blt rest.length q.length with
   |true =>
    have cS:=sH.1 hb
    rw[cond_true]
    have e:aL (gP (p.length+1-q.length) (coef out))=out:=by
     rw[←lC zo]
     refine fL (fun i => ?_)
     rw[lC zo]
     exact nT (fun i hi=>cv (by omega)) i
    have ht:=Trim (k:=H+b) (gP (p.length+1-q.length) (coef out)) (by rw[bR];omega) (ft (fun i=>by
     rw[nT (fun i hi=>cv (by omega))];exact ho i)) (by omega)
    rw[e] at ht
    exact ef.cW _ _ _ _ _ _ _ (by rw[bS,bS];exact cS) (by rw[bS,bR]) ht rfl
   |false =>
    have hle:=qh.1 hb
    rw[cond_false]
    have B5:rest≠[]:=by intro e;rw[e] at hle;simp at hle;exact kX hle
    have LL:=Aj hr yI
    have I2:∀i,ht (coef rest i)≤hc:=fun i=>by have:=hr.ht i;omega
    have Ki:=lE D8 (by omega) hle
    have e1:rest.length+1-q.length=(rest.length-q.length)+1:=by omega
    have e2:((jC rest q).length+1-q.length)*(b+1)≤(rest.length-q.length)*(b+1):=Nat.mul_le_mul_right _ (by omega)
    rw[e1,Nat.add_mul,Nat.one_mul] at OY
    have Py:ht (stepC rest q)≤hc+b:=by
     have:=wX (dx rest) (dx q)
     unfold stepC;omega
    have hdiv:=QF.Div (dx rest) (dx q) (by omega) (by omega) D8
    have cc:∀i,coef (aL (eS out (dL (rest.length-q.length) [stepC rest q]))) i=if i=rest.length-q.length then stepC rest q else coef out i:=by
     intro i
     rw[gC,dZ,gK]
     by_cases h3:i=rest.length-q.length
     ·rw[if_pos h3,if_neg (by omega),EW i (by omega),h3,Nat.sub_self,jR,Rat.zero_add]
     ·rw[if_neg h3]
      split
      ·rw[Rat.add_zero]
      ·rw[cv (p:=[stepC rest q]) (by simp;omega),Rat.add_zero]
    refine ef.l10 _ _ _ _ _ _ (rest.length-1) (ba (dx rest)) (ba (stepC rest q)) none (rest.length-q.length) (by rw[bS,bS];exact hle) (by rw[bS,bS];unfold ar;omega) (by rw[bS];unfold ar;omega) (by rw[bS];omega) (by rw[bS];omega) (getM (getTop B5)) hdiv (by rw[bS,bS];omega) (by omega) (by rw[bS,bR];omega) ?_
    rw[qf (f:=coef (aL (eS out (dL (rest.length-q.length) [stepC rest q])))) (by omega) (by rw[cc,if_pos rfl]) (fun i hi=>by rw[cc,if_neg hi])]
    have next:=ih (hc+b+1) (aL (eS out (dL (rest.length-q.length) [stepC rest q]))) (jC rest q) (by omega) (by omega) (hr.step hq D8) (by omega) (ck _) (ck _) (nB (fun i hi=>by
     rw[←gC,cc,if_neg (by omega),cv (by omega)])) (by omega) (fun i=>by
     rw[cc]
     split
     ·omega
     ·exact ho i) (fun i hi=>by rw[cc,if_neg (by omega)];exact EW i (by omega))
    have inner:∀(j t:Nat),q.length-t=j→t≤q.length→ef.aM (q.map ba) (rest.map ba).length (p.length+1-q.length) (((rest.map ba).length:Int)-((q.map ba).length:Int)) t (ba (dx q)) (ba (stepC rest q)) ((gP rest.length (fun i=>coef rest i-if rest.length-q.length≤i∧i<rest.length-q.length+t then stepC rest q*coef q (i-(rest.length-q.length)) else 0)).map ba) ((gP (p.length+1-q.length) (coef (aL (eS out (dL (rest.length-q.length) [stepC rest q]))))).map ba)
      (.aY [pq (kr n (aL (eS out (dL (rest.length-q.length) [stepC rest q]))) (jC rest q) q).1,pq (kr n (aL (eS out (dL (rest.length-q.length) [stepC rest q]))) (jC rest q) q).2]):=by
     intro j
     induction j with
     |zero =>
      intro t hj ht
      have e:aL (gP rest.length (fun i=>coef rest i-if rest.length-q.length≤i∧i<rest.length-q.length+t then stepC rest q*coef q (i-(rest.length-q.length)) else 0))=jC rest q:=by
       refine fL (fun i => ?_)
       rw[dZ,gK,eC]
       by_cases hi:i<rest.length
       ·rw[jM (fu _ hi)]
        by_cases h3:i<rest.length-q.length
        ·rw[if_neg (by omega),if_pos h3];grind
        ·rw[if_pos (by omega),if_neg h3];grind
       ·rw[cv (p:=gP _ _) (by rw[bR];omega),cv (p:=rest) (by omega),if_neg (by omega),cv (p:=q) (by omega)];grind
      have Kk:=Gu (k:=2*hc+2*b+1) (gP rest.length (fun i=>coef rest i-if rest.length-q.length≤i∧i<rest.length-q.length+t then stepC rest q*coef q (i-(rest.length-q.length)) else 0)) (by rw[bR];omega) (ft (fun i=>by
       by_cases hi:i<rest.length
       ·rw[jM (fu _ hi)]
        have a1:=I2 i
        have a2:=Ni (i-(rest.length-q.length))
        have a3:=ki (stepC rest q) (coef q (i-(rest.length-q.length)))
        have a4:=Ac (coef rest i) (stepC rest q*coef q (i-(rest.length-q.length)))
        split
        ·omega
        ·rw[show coef rest i-0=coef rest i from by grind];omega
       ·rw[cv (p:=gP _ _) (by rw[bR];omega),im];omega)) (by omega)
      rw[e] at Kk
      exact ef.sf _ _ _ _ _ _ _ _ _ _ _ (by rw[bS];omega) (by rw[bS,bS,bR]) Kk next
     |succ j I1 =>
      intro t hj ht
      obtain⟨w,hw⟩:∃w,q[t]? = some w:=⟨_,List.getElem?_eq_getElem (by omega)⟩
      have Nj:=jM hw
      have a2:=Ni t
      rw[Nj] at a2
      have a1:=I2 (rest.length-q.length+t)
      have a3:=ki (stepC rest q) w
      have hg:rest.length-q.length+t<rest.length:=by omega
      refine ef.tY _ _ _ _ _ _ _ _ _ (ba w) (rest.length-q.length+t) (ba (coef rest (rest.length-q.length+t))) _ _ (rest.length-q.length+t) (by rw[bS];omega) (getM hw) (by rw[bS,bS];unfold ar;omega) (by rw[bS,bS];omega) (by rw[bS];omega) ?_ (QF.Mul _ _ (by omega) (by omega)) (QF.Sub (coef rest (rest.length-q.length+t)) (stepC rest q*w) (by omega) (by omega)) (by rw[bS,bS];omega) (by rw[bS];omega) (by rw[bS,bR];omega) (by omega) ?_
      ·rw[getM (fu _ hg),if_neg (by omega)]
       congr 2;grind
      ·rw[qf (f:=fun i=>coef rest i-if rest.length-q.length≤i∧i<rest.length-q.length+(t+1) then stepC rest q*coef q (i-(rest.length-q.length)) else 0) hg (by
        rw[if_pos (by omega),show rest.length-q.length+t-(rest.length-q.length)=t from by omega,Nj]) (fun i hi=>by
        by_cases h:rest.length-q.length≤i∧i<rest.length-q.length+t
        ·rw[if_pos h,if_pos (by omega)]
        ·rw[if_neg h,if_neg (by omega)])]
       exact I1 (t+1) (by omega) (by omega)
    have:=inner _ 0 rfl (by omega)
    have e0:(gP rest.length (fun i=>coef rest i-if rest.length-q.length≤i∧i<rest.length-q.length+0 then stepC rest q*coef q (i-(rest.length-q.length)) else 0))=rest:=by
     refine List.ext_getElem? (fun i => ?_)
     by_cases hi:i<rest.length
     ·rw[fu _ hi,je hi,if_neg (by omega)]
      congr 1;grind
     ·rw[List.getElem?_eq_none (by rw[bR];omega),List.getElem?_eq_none (by omega)]
    rwa[e0] at this
 have cS:=eP p
 have hmul:((aL p).length+1-q.length)*(b+1)≤(p.length+1-q.length)*(b+1):=Nat.mul_le_mul_right _ (by omega)
 have:=loop (p.length+1) h [] (aL p) (by omega) h1 hp.trim (by omega) rfl (ck p) (by simp) cS (fun i=>by rw[kj,im];omega) (fun i _=>rfl)
 have Kk:=Gu (k:=h) p (by omega) (hp.fl h1) (by omega)
 refine ef.e0 _ _ _ _ (p.length+1-q.length) (q.length-1) (ba (dx q)) Kk (by rw[bS,bS];unfold ar;omega) (by rw[bS,bS];unfold ar;omega) (by rw[bS,bS];omega) (by omega) (by rw[bS];unfold ar;omega) (by rw[bS];omega) (getM (getTop kX)) ?_
 rw[ra]
 exact this
theorem uz{h:Nat}(p:List Rat)(hz:aU p=false)(hp:Ch h p)(h1:1≤h)(hl:p.length≤10000)(hk:3*h+3≤68719476736):Cp 37 [pq p] (pq (fW p)):=by
 by_cases h0:p=[]
 ·subst h0;exact oT.e0 _ rfl
 ·have D8:=iL hz h0
  have Pz:=Aj hp h1
  have fN:=List.length_pos_iff.2 h0
  have Mh:=rM.Of 1 (by unfold ar;omega)
  have z1:ht ((1:Int):Rat)=1:=by decide
  have hd:=QF.Div ((1:Int):Rat) (dx p) (by omega) (by omega) D8
  have b1:=wX ((1:Int):Rat) (dx p)
  have B3:=plus (a:=1) (d:=h+1) [] p (((1:Int):Rat)/dx p) (by simp) (by omega) (fun x hx=>by cases hx) (hp.fl h1) (by omega) (by omega) h1 (by omega)
  have e:aL (eS [] (fq (((1:Int):Rat)/dx p) p))=fW p:=rfl
  rw[e] at B3
  exact oT.e1 _ _ (p.length-1) _ _ none _ (by rw[bS];omega) Mh (by rw[bS];unfold ar;omega) (by rw[bS];omega) (getM (getTop h0)) hd B3
theorem gcd{a b N i j:Nat}(ha:1≤a)(pV:a≤b)(hN:N≤1000)(hk:4*xB a b (N+2)+10≤68719476736)(p q:List Rat)(e:D7 a b N i j p q)(hl:p.length≤10000):Cp 35 [pq p,pq q] (pq (nC p q)):=by
 have hx:xB a b (N+2)=xB a b N+2*(xB a b (N+1)+1):=rfl
 have x1:∀j,1≤xB a b j:=fun j=>Nat.le_trans ha (mE a b pV (i:=0) (Nat.zero_le _))
 have loop:∀(n i j:Nat) (p q:List Rat),q.length<n→D7 a b N i j p q→p.length≤10000→nm.ag (p.map ba) (q.map ba) (pq (fW (rb n p q))):=by
  intro n
  induction n with
  |zero=>intro i j p q hn;omega
  |succ n ih =>
   intro i j p q hn e hl
   have hi:=e.idx
   have uS:=e.lt
   rw[rb]
   by_cases h:q.length=0
   ·rw[beq_iff.2 h,cond_true]
    have:=mE a b pV (i:=i) (j:=N+1) (by omega)
    exact nm.cW _ _ _ (by rw[bS];omega) (uz p e.zp e.hp (x1 i) hl (by omega))
   ·have fP:q≠[]:=fun e=>h (by rw[e];rfl)
    rw[iP.2 h,cond_false]
    obtain⟨r1,r2⟩:=e.rest pV fP
    have hz:=mv p q
    have hlen:=e.len
    have PA:=e.bound
    have b1:=mE a b pV (i:=j+(p.length-q.length)) (j:=N+1) (by omega)
    have hd:=nv p q e.zq fP e.hp e.hq (x1 i) (x1 j) hl (by omega) (by
     obtain⟨j',rfl⟩:∃j',j=j'+1:=⟨j-1,by omega⟩
     obtain⟨d,hd⟩:∃d,p.length-q.length=d+1:=⟨p.length-q.length-1,by omega⟩
     have h2:=mE a b pV (i:=i) (j:=j') (by omega)
     have h3:=Ai a b pV j' d
     have h4:=mE a b pV (i:=j'+1+(d+1)) (j:=N+1) (by omega)
     have h5:=mE a b pV (i:=j'+1) (j:=N) (by omega)
     rw[show p.length+1-q.length=d+2 from by omega]
     omega)
    have hm:=uz (qg p q) hz r1 (x1 _) (by omega) (by omega)
    exact nm.l10 _ _ _ _ _ (by rw[bS];omega) hd hm (ih _ _ q _ (by rw[kl hz];omega) (e.next pV fP (r1.uz (x1 _) hz) (by rw[kl hz];exact r2) (jf _)) (by omega))
 exact nm.e0 _ _ (loop (q.length+1) i j p q (Nat.lt_succ_self _) e hl)
end EB
def Dv(p q:List Rat):Prop:=∃u,∀x,evalL q x=evalL u x*evalL p x
theorem D9(c x:Rat):evalL [c] x=c:=by show 0*x+c=c;grind
theorem Dv.refl(p:List Rat):Dv p p:=⟨[1],fun x=>by rw[D9,Rat.one_mul]⟩
theorem Dv.trans{p q r:List Rat}(h:Dv p q)(k:Dv q r):Dv p r:=by
 obtain⟨u,hu⟩:=h
 obtain⟨v,hv⟩:=k
 exact⟨mulL v u,fun x=>by rw[hv,hu,dM];grind⟩
theorem Dv.len{p q:List Rat}(h:Dv p q)(hp:aU p=false)(hq:aU q=false)(h0:q≠[]):p≠[]∧p.length≤q.length:=by
 obtain⟨u,hu⟩:=h
 have H7:p≠[]:=by
  intro e
  subst e
  have:∀i,coef q i=coef [] i:=jS (fun x=>by rw[hu];show _*(0:Rat)=0;rw[Rat.mul_zero])
  exact h0 (yn hq rfl this)
 have H8:aL u≠[]:=by
  intro e
  have:∀i,coef q i=coef [] i:=jS (fun x=>by rw[hu,←eg x u,e];show(0:Rat)*_=0;rw[Rat.zero_mul])
  exact h0 (yn hq rfl this)
 refine⟨H7,?_⟩
 have h1:=qi _ p H8 H7
 have h2:=jS (p:=mulL (aL u) p) (q:=q) (fun x=>by rw[dM,eg,hu])
 rw[h2] at h1
 have h3:coef q ((aL u).length+p.length-2)≠0:=by
  rw[h1]
  intro e
  rcases Rat.mul_eq_zero.1 e with e|e
  ·exact iL (ck _) H8 e
  ·exact iL hp H7 e
 have:=yq h3
 have:=List.length_pos_iff.2 H8
 omega
theorem yw{p:List Rat}(hz:aU p=false):Dv (fW p) p:=by
 by_cases h:p=[]
 ·subst h;exact Dv.refl _
 ·refine⟨[dx p],fun x => ?_⟩
  rw[D9,yr]
  have:=Rat.div_mul_cancel (a:=1) (iL hz h)
  grind
theorem Bf:∀(n:Nat) (p q:List Rat),aU p=false→aU q=false→q.length<n→Dv (rb n p q) p∧Dv (rb n p q) q
 |0,p,q,_,_,h=>by omega
 |n+1,p,q,hp,hq,hn=>by
  rw[rb]
  by_cases h:q.length=0
  ·rw[beq_iff.2 h,cond_true,List.eq_nil_of_length_eq_zero h]
   exact⟨Dv.refl p,[],fun x=>by show(0:Rat)=0*_;rw[Rat.zero_mul]⟩
  ·have fP:q≠[]:=fun e=>h (by rw[e];rfl)
   rw[iP.2 h,cond_false]
   obtain⟨g1,g2⟩:=vK p hq fP
   obtain⟨d1,d2⟩:=Bf n q (fW (qg p q)) hq (jf _) (by rw[kl (mv _ _)];unfold qg;omega)
   have d3:=d2.trans (yw (mv p q))
   refine⟨?_,d1⟩
   obtain⟨a,ha⟩:=d1
   obtain⟨b,hb⟩:=d3
   refine⟨eS (mulL (ld p q).1 a) b,fun x => ?_⟩
   have h2:evalL (ld p q).1 x*evalL q x+evalL (qg p q) x=evalL p x:=g2 x
   rw[←h2,gD,dM,hb x]
   have:=ha x
   rw[this];grind
theorem FL(p q:List Rat)(hp:aU p=false)(hq:aU q=false):Dv (nC p q) p∧Dv (nC p q) q:=by
 obtain⟨h1,h2⟩:=Bf (q.length+1) p q hp hq (Nat.lt_succ_self _)
 have h3:=yw (nU (q.length+1) p q hp hq)
 exact⟨h3.trans h1,h3.trans h2⟩
theorem yx{p:List Rat}(h:p≠[]):(cm p).length<p.length:=by
 have h1:=eP (nz 1 (p.drop 1))
 rw[qc,List.length_drop] at h1
 have:=List.length_pos_iff.2 h
 have h2:(cm p).length≤p.length-1:=h1
 omega
def fB(h L:Nat):Nat:=L*(h+(L+1)*(xB h (h+1) (L+1)+1)+xB h (h+1) (L+1))+1
theorem Ak{a b:Nat}(ha:1≤a)(pV:a≤b)(j:Nat):1≤xB a b j:=Nat.le_trans ha (mE a b pV (i:=0) (Nat.zero_le _))
theorem BX{p q:List ae}(hp:q9 p=0)(hq:q9 q=0):FH p q=0:=by unfold FH;rw[if_pos hp];exact hq
structure fv (h L:Nat) (p:List Rat):Prop where
 zp:aU p=false
 ne:p≠[]
 len:p.length≤L
 ch:Ch h p
 h1:1≤h
 hL:L≤20
 fz:fB h L≤1073741824
section
variable {h L:Nat} {p:List Rat}
theorem fv.pos(f:fv h L p):1≤L:=by have:=List.length_pos_iff.2 f.ne;have:=f.len;omega
theorem fv.q9(f:fv h L p):Sym.q9 (p.map ba)=0:=qe f.zp (by have:=f.len;have:=f.hL;omega)
theorem fv.fb(f:fv h L p):xB h (h+1) (L+1)≤fB h L∧h+(L+1)*(xB h (h+1) (L+1)+1)+xB h (h+1) (L+1)≤fB h L∧1≤fB h L∧fB h L≤1073741824∧h≤fB h L:=by
 have hL:=f.pos
 have h1:1*(h+(L+1)*(xB h (h+1) (L+1)+1)+xB h (h+1) (L+1))≤L*(h+(L+1)*(xB h (h+1) (L+1)+1)+xB h (h+1) (L+1)):=Nat.mul_le_mul_right _ hL
 have h3:=f.fz
 have h6:fB h L=L*(h+(L+1)*(xB h (h+1) (L+1)+1)+xB h (h+1) (L+1))+1:=rfl
 refine⟨?_,?_,?_,?_,?_⟩<;>omega
theorem fv.Nk(f:fv h L p):D7 h (h+1) L 0 1 p (cm p):=⟨f.ch,f.ch.derive (by have:=f.len;have:=f.hL;omega),by omega,yx f.ne,by have:=f.len;omega,f.zp,iQ p⟩
theorem fv.x2(f:fv h L p):4*xB h (h+1) (L+2)+10≤68719476736:=by
 obtain⟨h1,h2,h3,h4,h5⟩:=f.fb
 have e:xB h (h+1) (L+2)=xB h (h+1) L+2*(xB h (h+1) (L+1)+1):=rfl
 have:=Bd h (h+1) (Nat.le_succ _) L
 omega
theorem fv.Ea(f:fv h L p):Ch (xB h (h+1) (L+1)) (nC p (cm p)):=by
 have:=Be f.h1 (Nat.le_succ h) ((cm p).length+1) 0 1 p (cm p) f.Nk
 exact this.uz (Ak f.h1 (Nat.le_succ h) _) (nU _ _ _ f.zp (iQ p))
theorem fv.w7(f:fv h L p):nC p (cm p)≠[]:=FJ _ f.zp (iQ p) f.ne
theorem fv.H9(f:fv h L p):2*(h+(p.length+1-(nC p (cm p)).length)*(xB h (h+1) (L+1)+1))+3*xB h (h+1) (L+1)+5≤68719476736:=by
 obtain⟨h1,h2,h3,h4,h5⟩:=f.fb
 have hl:=f.len
 have:(p.length+1-(nC p (cm p)).length)*(xB h (h+1) (L+1)+1)≤(L+1)*(xB h (h+1) (L+1)+1):=Nat.mul_le_mul_right _ (by omega)
 omega
theorem fv.sG(f:fv h L p):(nC p (cm p)).length≤p.length:=((FL p (cm p) f.zp (iQ p)).1.len (nV _ _) f.zp f.ne).2
theorem fv.yy(f:fv h L p):(ld p (nC p (cm p))).1.length≤p.length:=by
 have:=D6 (p:=p) (nV p (cm p)) f.w7
 have:=List.length_pos_iff.2 f.w7
 omega
theorem fv.FM(f:fv h L p):Ch (fB h L) (ld p (nC p (cm p))).1:=by
 have hq:=FK f.ch f.Ea f.h1 (Ak f.h1 (Nat.le_succ h) _) (nV _ _) f.w7
 have hl:=f.len
 have h1:(p.length+1-(nC p (cm p)).length)*(xB h (h+1) (L+1)+1)≤(L+1)*(xB h (h+1) (L+1)+1):=Nat.mul_le_mul_right _ (by omega)
 have h2:=Ch.yu (mu hq (show _≤h+(L+1)*(xB h (h+1) (L+1)+1)+xB h (h+1) (L+1) by omega))
 refine h2.mono ?_
 have h3:(ld p (nC p (cm p))).1.length*(h+(L+1)*(xB h (h+1) (L+1)+1)+xB h (h+1) (L+1))≤L*(h+(L+1)*(xB h (h+1) (L+1)+1)+xB h (h+1) (L+1)):=Nat.mul_le_mul_right _ (by have:=f.yy;omega)
 unfold fB
 omega
end
theorem PQ.Mi{h L:Nat}{p:List Rat}(f:fv h L p):Cp 18 [pq p] (.aY [pq (Gt p),.bD]):=by
 have hl:=f.len
 have hL:=f.hL
 have hf:=f.fb
 have B7:=f.ch.fl f.h1
 have Gv:=EA.Check (p.map ba) (D5 B7 (by omega))
 rw[f.q9] at Gv
 have hd:=EA.derive (p.map ba) (by rw[bS];omega) (qb (mu B7 (by omega)))
 rw[jd] at hd
 have hp:=List.length_pos_iff.2 f.ne
 have hg:=EB.gcd f.h1 (Nat.le_succ h) (by omega) f.x2 p (cm p) f.Nk (by omega)
 have OZ:=EB.nv p (nC p (cm p)) (nV _ _) f.w7 f.ch f.Ea f.h1 (Ak f.h1 (Nat.le_succ h) _) (by omega) (by have:=f.sG;omega) f.H9
 have hm:=EB.uz (ld p (nC p (cm p))).1 (vL _ _).1 f.FM hf.2.2.1 (by have:=f.yy;omega) (by omega)
 exact vt.e1 _ _ _ _ _ _ Gv (by rw[bS];omega) hd hg OZ hm
namespace PQ
theorem Eval{k:Nat}(p:List Rat)(x:Rat)(zp:aU p=false)(lp:p.length≤65)(hp:Fl k p)(hx:ht x≤k)(hk:k≤1073741824):Cp 40 [pq p,(ba x).pv] (.aY [(ba (evalL p x)).pv,.bD]):=by
 have:=EA.Eval (p.map ba) (ba x) (qe zp lp) (qb (mu hp (by omega))) (dw (Nat.le_trans hx hk))
 rwa[jd,cu] at this
theorem Div{h b:Nat}(p q:List Rat)(zp:aU p=false)(zq:aU q=false)(kX:q≠[])(lp:p.length≤65)(lq:q.length≤65)(hp:Ch h p)(hq:Ch b q)(h1:1≤h)(so:1≤b)(hk:2*(h+(p.length+1-q.length)*(b+1))+3*b+5≤68719476736):Cp 16 [pq p,pq q] (.aY [pq (ld p q).1,pq (ld p q).2,.bD]):=by
 have Gv:=EB.FI (p.map ba) (q.map ba) (D5 (hp.fl h1) (by omega)) (D5 (hq.fl so) (by omega))
 rw[BX (qe zp lp) (qe zq lq)] at Gv
 have hd:=EB.nv p q zq kX hp hq h1 so (by omega) (by omega) hk
 have:=List.length_pos_iff.2 kX
 exact x7.e1 _ _ _ _ Gv (by rw[bS];omega) hd
end PQ
end Go.Proofs.YtnjhplhbmapclaaGreatDoor.Sym
namespace Go.Proofs.YtnjhplhbmapclaaGreatDoor.Sym
open Go Path ct
set_option linter.unusedVariables false
namespace Ia
theorem of(l:List Int)(h:∀n∈l,ar n)(hl:l.length≤1000):Cp 17 [qm bY l] (pq (l.map (fun n=>((n:Int):Rat)))):=by
 have loop:∀d t:Nat,l.length-t=d→t≤l.length→dW.ag (((l.take t).map (fun n=>((n:Int):Rat))).map ba) l t (pq (l.map (fun n=>((n:Int):Rat)))):=by
  intro d
  induction d with
  |zero =>
   intro t hd ht
   have:t=l.length:=by omega
   subst this
   rw[List.take_length]
   exact dW.cW _ _ _ (Nat.le_refl _)
  |succ d ih =>
   intro t hd ht
   obtain⟨v,hv⟩:∃v,l[t]? = some v:=⟨_,List.getElem?_eq_getElem (by omega)⟩
   have:=ih (t+1) (by omega) (by omega)
   rw[List.take_add_one,hv] at this
   refine dW.l10 _ l t v (ba ((v:Int):Rat)) (by omega) hv (DS.Of v (h v (List.mem_of_getElem? hv))) ?_ (by omega) ?_
   ·rw[List.length_append,List.length_map,List.length_map,List.length_take,List.length_singleton];omega
   ·simpa using this
 exact dW.e0 l (loop _ 0 rfl (by omega))
def Lo(a:ae):Prop:=a.num.length≤1∧a.den.length≤1∧nat a.num≤1000∧nat a.den≤1000
theorem Bg{l:Words}{v:UInt32}(hl:l.length<2)(h:l[0]? = some v):nat l=v.toNat:=by
 match l,hl,h with
 |[w],_,h=>simp at h;subst h;simp[nat]
theorem uA{l:Words}(h:l.length=0):nat l=0:=by rw[List.eq_nil_of_length_eq_zero h];rfl
theorem low(x:ae):∃b,Cp 15 [x.pv,vW 1000,vW 1000] (vB b)∧(b=true→Lo x):=by
 have e:(1000:UInt32).toNat=1000:=rfl
 by_cases h1:x.num.length<2
 ·by_cases h2:x.den.length<2
  ·have den:nat x.num≤1000→∀v u:UInt32,x.den[0]? = some u→decide (u.toNat≤(1000:UInt32).toNat)=true→Lo x:=fun h v u hu hd=>⟨by omega,by omega,h,by rw[Bg h2 hu];have:=of_decide_eq_true hd;omega⟩
   by_cases h3:x.num.length=0
   ·have hn:nat x.num≤1000:=by rw[uA h3];omega
    by_cases h4:x.den.length=0
    ·exact⟨_,bT.e0 x _ _ h1 h2 h3 h4,fun _=>⟨by omega,by omega,hn,by rw[uA h4];omega⟩⟩
    ·obtain⟨v,hv⟩:∃v,x.den[0]? = some v:=⟨_,List.getElem?_eq_getElem (by omega)⟩
     exact⟨_,bT.e1 x _ _ v h1 h2 h3 h4 hv,fun h=>den hn v v hv (by have h':=of_decide_eq_true h;exact decide_eq_true (by omega))⟩
   ·obtain⟨v,hv⟩:∃v,x.num[0]? = some v:=⟨_,List.getElem?_eq_getElem (by omega)⟩
    by_cases h5:v.toNat≤(1000:UInt32).toNat
    ·have hn:nat x.num≤1000:=by rw[Bg h1 hv];omega
     by_cases h4:x.den.length=0
     ·exact⟨_,bT.e2 x _ _ v h1 h2 h3 hv h5 h4,fun _=>⟨by omega,by omega,hn,by rw[uA h4];omega⟩⟩
     ·obtain⟨u,hu⟩:∃v,x.den[0]? = some v:=⟨_,List.getElem?_eq_getElem (by omega)⟩
      exact⟨_,bT.e3 x _ _ v u h1 h2 h3 hv h5 h4 hu,fun h=>den hn v u hu (by have h':=of_decide_eq_true h;exact decide_eq_true (by omega))⟩
    ·exact⟨_,bT.e4 x _ _ v h1 h2 h3 hv (by omega),fun h=>by cases h⟩
  ·exact⟨_,bT.e5 x _ _ h1 (by omega),fun h=>by cases h⟩
 ·exact⟨_,bT.e6 x _ _ (by omega),fun h=>by cases h⟩
def FN(p:List ae):Prop:=(p.length≤9∨65<p.length∧p.length≤100)∧∀a∈p,Lo a
theorem short(l:List (List ae))(hl:l.length≤1000):∃b,Cp 4 [qm (df ae.cells) l] (vB b)∧(b=true→∀p∈l,FN p):=by
 have inner:∀(t:Nat) (v:List ae),(v.length≤9∨65<v.length∧v.length≤100)→t<l.length→(∃b,aK.ag l (t+1) (vB b)∧(b=true→∀p∈l.drop (t+1),FN p)) →
   ∀d u:Nat,v.length-u=d→∃b,aK.aM l t v u (vB b)∧(b=true→(∀a∈v.drop u,Lo a)∧∀p∈l.drop (t+1),FN p):=by
  intro t v PB ht ⟨b0,hL,hB⟩ d
  induction d with
  |zero =>
   intro u hd
   exact⟨b0,aK.BI l t v u (by omega) (by omega) hL,fun h=>⟨(by rw[List.drop_of_length_le (by omega)];intro a ha;cases ha),hB h⟩⟩
  |succ d ih =>
   intro u hd
   obtain⟨a,ha⟩:∃a,v[u]? = some a:=⟨_,List.getElem?_eq_getElem (by omega)⟩
   obtain⟨b1,h1,h2⟩:=low a
   cases b1 with
   |false=>exact⟨false,aK.tY l t v u a _ (by omega) ha h1 rfl,fun h=>by cases h⟩
   |true =>
    obtain⟨b,g1,g2⟩:=ih (u+1) (by omega)
    refine⟨b,aK.sf l t v u a _ (by omega) ha h1 rfl (by omega) g1,fun h=>⟨fun x hx => ?_,(g2 h).2⟩⟩
    rw[drop_cons ha] at hx
    rcases List.mem_cons.1 hx with rfl|hx
    ·exact h2 rfl
    ·exact(g2 h).1 x hx
 have outer:∀d t:Nat,l.length-t=d→∃b,aK.ag l t (vB b)∧(b=true→∀p∈l.drop t,FN p):=by
  intro d
  induction d with
  |zero =>
   intro t hd
   exact⟨true,aK.Iy l t (by omega),fun _=>by rw[List.drop_of_length_le (by omega)];intro p hp;cases hp⟩
  |succ d ih =>
   intro t hd
   obtain⟨v,hv⟩:∃v,l[t]? = some v:=⟨_,List.getElem?_eq_getElem (by omega)⟩
   have fin:(v.length≤9∨65<v.length∧v.length≤100)→(∀b,aK.aM l t v 0 (vB b)→aK.ag l t (vB b))→∃b,aK.ag l t (vB b)∧(b=true→∀p∈l.drop t,FN p):=by
    intro h6 O0
    obtain⟨b,g1,g2⟩:=inner t v h6 (by omega) (ih (t+1) (by omega)) _ 0 rfl
    refine⟨b,O0 b g1,fun h p hp => ?_⟩
    rw[drop_cons hv] at hp
    rcases List.mem_cons.1 hp with rfl|hp
    ·have:=(g2 h).1
     rw[List.drop_zero] at this
     exact⟨h6,this⟩
    ·exact(g2 h).2 p hp
   by_cases h6:v.length≤9
   ·exact fin (Or.inl h6) (fun b g=>aK.Ex l t v (by omega) hv h6 (by omega) g)
   ·by_cases h7:v.length≤65
    ·exact⟨false,aK.l10 l t v (by omega) hv (by omega) h7,fun h=>by cases h⟩
    ·by_cases h8:v.length≤100
     ·exact fin (Or.inr ⟨by omega,h8⟩) (fun b g=>aK.mD l t v (by omega) hv (by omega) (by omega) h8 g)
     ·exact⟨false,aK.cW l t v (by omega) hv (by omega) (by omega) (by omega),fun h=>by cases h⟩
 obtain⟨b,h1,h2⟩:=outer _ 0 rfl
 rw[List.drop_zero] at h2
 exact⟨b,aK.e0 l h1,h2⟩
theorem same(q:List Rat)(hl:q.length≤1000)(hf:Fl 68719476736 q):Cp 11 [pq q,pq q] (vB true):=by
 have:=IC.Mf (q.map ba) (q.map ba) (by rw[bS];omega) (fun a ha=>by
  obtain⟨x,hx,rfl⟩:=List.mem_map.1 ha
  have:=dw (hf x hx)
  omega)
 rw[BT] at this
 exact kg.e0 _ _ _ this
theorem FN.fit{p:List ae}(h:FN p){k:Nat}(hk:1≤k):gO k p:=fun a ha=>⟨Nat.le_trans (h.2 a ha).1 hk,Nat.le_trans (h.2 a ha).2.1 hk⟩
structure S5 (p:List ae):Prop where
 ep:(aS p).map ba=p
 zp:aU (aS p)=false
 len:(aS p).length≤9
 fl:Fl 1 (aS p)
 pl:p.length=(aS p).length
theorem FN.s5{p:List ae}(h:FN p)(hc:q9 p=0):S5 p:=by
 have hl:=A9 hc
 have pl:p.length=(aS p).length:=by unfold aS;rw[List.length_map]
 refine⟨FD (BR hc),DW hc,?_,mr (h.fit (by omega)) (by omega),pl⟩
 rcases h.1 with h1|h1<;>omega
end Ia
end Go.Proofs.YtnjhplhbmapclaaGreatDoor.Sym
namespace Go.Proofs.YtnjhplhbmapclaaGreatDoor.Sym
set_option linter.unusedVariables false
def ju(X:Nat→Rat):Nat→List Rat
 |0=>[1]
 |t+1=>aL (mulL (ju X t) [-(X t),1])
def jO(X Y:Nat→Rat):Nat→List Rat
 |0=>[]
 |t+1=>aL (eS (jO X Y t) (fq ((Y t-evalL (jO X Y t) (X t))/evalL (ju X t) (X t)) (ju X t)))
theorem Eb(a x:Rat):evalL [-a,1] x=x-a:=by
 show(0*x+1)*x + -a=x-a
 grind
theorem BY(X:Nat→Rat)(t:Nat):aU (ju X t)=false:=by
 cases t with
 |zero=>show aU [1]=false;decide +kernel
 |succ t=>exact ck _
theorem BZ(X Y:Nat→Rat)(t:Nat):aU (jO X Y t)=false:=by
 cases t with
 |zero=>rfl
 |succ t=>exact ck _
theorem FO(p:List Rat)(a:Rat):(aL (mulL p [-a,1])).length≤p.length+1:=by
 refine nB (fun i hi => ?_)
 have key:∀(p q:List Rat) (i:Nat),p.length+q.length≤i+1→coef (mulL p q) i=0:=by
  intro p
  induction p with
  |nil=>intro q i _;rfl
  |cons b p ih =>
   intro q i h
   rw[List.length_cons] at h
   rw[gh,cv (p:=q) (by omega),Rat.mul_zero,Rat.zero_add]
   cases i with
   |zero=>rfl
   |succ i=>rw[cV];exact ih q i (by omega)
 exact key p _ i (by simp only[List.length_cons,List.length_nil];omega)
theorem qk(X:Nat→Rat):∀t,(ju X t).length≤t+1
 |0=>Nat.le_refl _
 |t+1=>by
  have h1:=qk X t
  have h2:=FO (ju X t) (X t)
  rw[ju];omega
theorem uB(X Y:Nat→Rat):∀t,(jO X Y t).length≤t
 |0=>Nat.le_refl _
 |t+1=>by
  have h1:=uB X Y t
  have h2:=qk X t
  have h3:=eP (eS (jO X Y t) (fq ((Y t-evalL (jO X Y t) (X t))/evalL (ju X t) (X t)) (ju X t)))
  rw[uw,nS] at h3
  rw[jO];omega
theorem B0(X:Nat→Rat)(x:Rat)(t:Nat):evalL (ju X (t+1)) x=evalL (ju X t) x*(x-X t):=by
 rw[ju,eg,dM,Eb]
theorem Ib:(1:Rat)≠0:=by decide
theorem Bh(X:Nat→Rat){x:Rat} : ∀t,(∀k,k<t→X k≠x)→evalL (ju X t) x≠0
 |0,_=>by
  show(0:Rat)*x+1≠0
  intro e
  exact Ib (by grind)
 |t+1,h=>by
  rw[B0]
  intro e
  rcases Rat.mul_eq_zero.1 e with e|e
  ·exact Bh X t (fun k hk=>h k (by omega)) e
  ·exact h t (Nat.lt_succ_self t) (by grind)
open ct Go Path
def zB:Nat→Nat
 |0=>1
 |t+1=>2*(zB t+1+1)+1
def ID(o z t:Nat):Nat:=1+(t*(2*o+1)+1)+1+((t+1)*(2*z+1)+1)
def oB:Nat→Nat
 |0=>1
 |t+1=>oB t+(ID (oB t) (zB t) t+zB t)+1
theorem w8:∀t,t<10→1≤zB t∧zB t≤6139:=by decide +kernel
theorem Al:∀t,t<10→1≤oB t∧oB t≤1344799678∧(t<9→oB t≤1073741824∧ID (oB t) (zB t) t≤1344799678):=by decide +kernel
theorem Ec{a:Rat}(h:ht a≤1):Fl 1 [-a,1]:=by
 intro x hx
 rcases List.mem_cons.1 hx with rfl|hx
 ·rw[Ab];exact h
 ·rw[List.mem_singleton.1 hx];decide
theorem w9{k:Nat}{p:List Rat}{a:Rat}(hp:Fl k p)(hk:1≤k)(h:ht a≤1):Fl (2*(k+1+1)+1) (aL (mulL p [-a,1])) :=
 uv (Ae (n:=2) hp (Ec h) hk (by omega) (Or.inr (by simp)))
theorem sI{X:Nat→Rat}(hX:∀k,ht (X k)≤1):∀t,t<10→Fl (zB t) (ju X t)
 |0,_=>by intro x hx;rw[List.mem_singleton.1 hx];decide
 |t+1,h=>w9 (sI hX t (by omega)) (w8 t (by omega)).1 (hX t)
theorem yz{X Y:Nat→Rat}{t:Nat}(PC:t<9)(hX:∀k,ht (X k)≤1)(hY:∀k,ht (Y k)≤1)(ho:Fl (oB t) (jO X Y t)) :
  ht (evalL (jO X Y t) (X t))≤t*(2*oB t+1)+1∧ht (evalL (ju X t) (X t))≤(t+1)*(2*zB t+1)+1∧ht ((Y t-evalL (jO X Y t) (X t))/evalL (ju X t) (X t))≤ID (oB t) (zB t) t:=by
 have b1:=Al t (by omega)
 have b2:=w8 t (by omega)
 have hz:=sI hX t (by omega)
 have e1:=w5 (jO X Y t) (X t) (oB t) ho (by have:=hX t;omega)
 have e2:=w5 (ju X t) (X t) (zB t) hz (by have:=hX t;omega)
 have l1:(jO X Y t).length*(2*oB t+1)≤t*(2*oB t+1):=Nat.mul_le_mul_right _ (uB X Y t)
 have l2:(ju X t).length*(2*zB t+1)≤(t+1)*(2*zB t+1):=Nat.mul_le_mul_right _ (qk X t)
 have d1:=Ac (Y t) (evalL (jO X Y t) (X t))
 have d2:=wX (Y t-evalL (jO X Y t) (X t)) (evalL (ju X t) (X t))
 have d3:=hY t
 refine⟨by omega,by omega,?_⟩
 unfold ID
 omega
theorem Bi{X Y:Nat→Rat}(hX:∀k,ht (X k)≤1)(hY:∀k,ht (Y k)≤1):∀t,t<10→Fl (oB t) (jO X Y t)
 |0,_=>by intro x hx;cases hx
 |t+1,h=>by
  have ih:=Bi hX hY t (by omega)
  have s:=yz (by omega) hX hY ih
  have b1:=(Al t (by omega)).1
  have b2:=(w8 t (by omega)).1
  have h1:Fl (ID (oB t) (zB t) t+zB t) (fq ((Y t-evalL (jO X Y t) (X t))/evalL (ju X t) (X t)) (ju X t)):=mu (D3 (sI hX t (by omega))) (by omega)
  exact uv (FG ih h1 b1 (by omega))
theorem nD{k:Nat}{p:List ae}{i:Nat}{v:ae}(h:gO k p)(hv:p[i]? = some v):v.num.length≤k∧v.den.length≤k:=h v (List.mem_of_getElem? hv)
theorem vN{p:List ae}{i:Nat}{v:ae}(hv:p[i]? = some v):coef (aS p) i=v.val:=jM (by unfold aS;rw[List.getElem?_map,hv];rfl)
theorem yA{p:List ae}(h:gO 1 p)(i:Nat):ht (coef (aS p) i)≤1:=by
 have:=kT (mr h (by omega)) (by omega) i
 exact this
namespace Nl
section
variable {x y:List ae} (hx:gO 1 x) (hy:gO 1 y)
def Nn(X:Nat→Rat)(n:Nat):Prop:=∀i j,i<j→j<n→X i≠X j
abbrev EE(n:Int):PV := .aY [ah [],cX (some n)]
theorem yB(t:Nat)(v:List ae)(hv:gO 1 v)(hl:v.length≤1000)(ht:t<2){r:PV}(hL:aO.ag x y (t+1) r):∀d u:Nat,v.length-u=d→(∀a∈v.drop u,a.valid=true)→aO.aM x y t v u r:=by
 intro d
 induction d with
 |zero=>intro u hd _;exact aO.BI _ _ _ _ _ (by omega) (by omega) hL
 |succ d ih =>
  intro u hd ha
  obtain⟨a,he⟩:∃a,v[u]? = some a:=⟨_,List.getElem?_eq_getElem (by omega)⟩
  rw[drop_cons he] at ha
  have hc:=rM.Valid a (by have:=nD hv he;exact⟨by omega,by omega⟩)
  exact aO.sf _ _ _ _ _ _ _ (by omega) he hc (ha a (by simp)) (by omega) (ih (u+1) (by omega) (fun b hb=>ha b (by simp[hb])))
theorem Bj(i:Nat)(hi:i<x.length)(hl:x.length≤1000)(hx:gO 1 x)(FP:∀a∈x,a.valid=true){r:PV}(hL:aO.gg x y (i+1) r):∀d u:Nat,i-u=d→u≤i→(∀k,u≤k→k<i→coef (aS x) k≠coef (aS x) i)→aO.lv x y i i i u r:=by
 intro d
 induction d with
 |zero=>intro u hd hu _;exact aO.OA _ _ _ _ _ _ (by omega) (by omega) hL
 |succ d ih =>
  intro u hd hu h
  obtain⟨a,he⟩:∃a,x[i]? = some a:=⟨_,List.getElem?_eq_getElem hi⟩
  obtain⟨b,hb⟩:∃a,x[u]? = some a:=⟨_,List.getElem?_eq_getElem (by omega)⟩
  have f1:=nD hx he
  have f2:=nD hx hb
  have hc:=rM.FB a b ⟨by omega,by omega⟩ ⟨by omega,by omega⟩
  refine aO.Kc _ _ _ _ _ _ _ _ _ (by omega) he hb hc ?_ (by omega) (ih (u+1) (by omega) (by omega) (fun k h1 h2=>h k (by omega) h2))
  intro e
  have:=dR.1 e
  exact h u (Nat.le_refl u) (by omega) (by rw[vN he,vN hb,this])
theorem Ed(i:Nat)(hi:i<x.length)(hl:x.length≤1000)(hx:gO 1 x):∀d u:Nat,i-u=d→(∃k,u≤k∧k<i∧coef (aS x) k=coef (aS x) i)→aO.lv x y i i i u (EE 6):=by
 intro d
 induction d with
 |zero=>intro u hd ⟨k,h1,h2,_⟩;omega
 |succ d ih =>
  intro u hd ⟨k,h1,h2,h3⟩
  obtain⟨a,he⟩:∃a,x[i]? = some a:=⟨_,List.getElem?_eq_getElem hi⟩
  obtain⟨b,hb⟩:∃a,x[u]? = some a:=⟨_,List.getElem?_eq_getElem (by omega)⟩
  have f1:=nD hx he
  have f2:=nD hx hb
  have hc:=rM.FB a b ⟨by omega,by omega⟩ ⟨by omega,by omega⟩
  by_cases e:oZ a.val b.val=0
  ·exact aO.LB _ _ _ _ _ _ _ _ _ (by omega) he hb hc e
  ·refine aO.Kc _ _ _ _ _ _ _ _ _ (by omega) he hb hc e (by omega) (ih (u+1) (by omega) ⟨k,?_,h2,h3⟩)
   rcases Nat.lt_or_eq_of_le h1 with h|h
   ·exact h
   ·subst h
    exact absurd (dR.2 (by rw[vN he,vN hb] at h3;exact h3.symm)) e
theorem Mj(hl:x.length≤1000)(hx:gO 1 x)(FP:∀a∈x,a.valid=true):∀d t:Nat,x.length-t=d→t≤x.length →
  ((∀i,t≤i→i<x.length→∀k,k<i→coef (aS x) k≠coef (aS x) i)→∀r,aO.kM x y [] [ba ((1:Int):Rat)] 0 r→aO.gg x y t r) ∧
  ((∃i,t≤i∧i<x.length∧∃k,k<i∧coef (aS x) k=coef (aS x) i)→aO.gg x y t (EE 6)):=by
 intro d
 induction d with
 |zero =>
  intro t hd ht
  exact⟨fun _ r hL=>aO.LA _ _ _ _ (by omega) (rM.Of 1 (by unfold ar;omega)) hL,fun ⟨i,h1,h2,_⟩=>by omega⟩
 |succ d ih =>
  intro t hd ht
  obtain⟨i1,i2⟩:=ih (t+1) (by omega) (by omega)
  refine⟨fun h r hL=>aO.Hq _ _ _ (by omega) (Bj t (by omega) hl hx FP (i1 (fun i a b=>h i (by omega) b) r hL) _ 0 rfl (by omega) (fun k _ h2=>h t (Nat.le_refl t) (by omega) k h2)),fun ⟨i,h1,h2,k,h3,h4⟩ => ?_⟩
  by_cases e:∃k,k<t∧coef (aS x) k=coef (aS x) t
  ·obtain⟨k,k1,k2⟩:=e
   exact aO.Hq _ _ _ (by omega) (Ed t (by omega) hl hx _ 0 rfl ⟨k,by omega,k1,k2⟩)
  ·refine aO.Hq _ _ _ (by omega) (Bj t (by omega) hl hx FP (i2 ⟨i,?_,h2,k,h3,h4⟩) _ 0 rfl (by omega) (fun k _ h5 h6=>e ⟨k,h5,h6⟩))
   rcases Nat.lt_or_eq_of_le h1 with h|h
   ·exact h
   ·subst h;exact absurd ⟨k,h3,h4⟩ e
theorem Ic(hx:gO 1 x)(hy:gO 1 y)(hl:x.length≤9)(Mk:x.length=y.length)(FP:∀a∈x,a.valid=true)(GX:∀a∈y,a.valid=true)(hd:Nn (coef (aS x)) x.length):∀d t:Nat,x.length-t=d→t≤x.length →
  aO.kM x y ((jO (coef (aS x)) (coef (aS y)) t).map ba) ((ju (coef (aS x)) t).map ba) t (.aY [pq (jO (coef (aS x)) (coef (aS y)) x.length),.bD]):=by
 have hX:=yA hx
 have hY:=yA hy
 intro d
 induction d with
 |zero =>
  intro t hd ht
  have:t=x.length:=by omega
  subst this
  exact aO.OB _ _ _ _ _ (Nat.le_refl _)
 |succ d ih =>
  intro t EM ht
  obtain⟨a,ha⟩:∃a,x[t]? = some a:=⟨_,List.getElem?_eq_getElem (by omega)⟩
  obtain⟨b,hb⟩:∃a,y[t]? = some a:=⟨_,List.getElem?_eq_getElem (by omega)⟩
  have ea:a=ba (coef (aS x) t):=by rw[vN ha,wW (FP a (List.mem_of_getElem? ha))]
  have eb:b=ba (coef (aS y) t):=by rw[vN hb,wW (GX b (List.mem_of_getElem? hb))]
  have fo:=Bi hX hY t (by omega)
  have fz:=sI hX t (by omega)
  have b1:=Al t (by omega)
  have b2:=w8 t (by omega)
  have b3:=b1.2.2 (by omega)
  obtain⟨s1,s2,s3⟩:=yz (by omega) hX hY fo
  have O1:=hX t
  have PD:=hY t
  have lo:=uB (coef (aS x)) (coef (aS y)) t
  have lz:=qk (coef (aS x)) t
  have c0:ID (oB t) (zB t) t=1+(t*(2*oB t+1)+1)+1+((t+1)*(2*zB t+1)+1):=rfl
  have h3:=PQ.Eval (k:=oB t) _ (coef (aS x) t) (BZ _ _ t) (by omega) fo (by omega) (by omega)
  have h4:=PQ.Eval (k:=zB t) _ (coef (aS x) t) (BY _ t) (by omega) fz (by omega) (by omega)
  have O2:=Bh (coef (aS x)) (x:=coef (aS x) t) t (fun k hk=>hd k t hk (by omega))
  have h6:=QF.Sub (coef (aS y) t) (evalL (jO (coef (aS x)) (coef (aS y)) t) (coef (aS x) t)) (by omega) (by omega)
  have O3:=Ac (coef (aS y) t) (evalL (jO (coef (aS x)) (coef (aS y)) t) (coef (aS x) t))
  have h7:=QF.Div _ _ (show Sym.ht (coef (aS y) t-evalL (jO (coef (aS x)) (coef (aS y)) t) (coef (aS x) t))≤68719476736 by omega) (show Sym.ht (evalL (ju (coef (aS x)) t) (coef (aS x) t))≤68719476736 by omega) O2
  have h8:=EB.plus (jO (coef (aS x)) (coef (aS y)) t) (ju (coef (aS x)) t) _ (by omega) (by omega) fo fz s3 b1.1 b2.1 (by omega)
  have cL:=QF.Neg (coef (aS x) t) (by omega)
  have ec:=rM.Of 1 (by unfold ar;omega)
  have gp:=EB.times 2 (ju (coef (aS x)) t) [-(coef (aS x) t),1] (by omega) (by simp) fz (Ec O1) b2.1 (by omega) (Or.inr (by simp)) (by omega)
  subst ea;subst eb
  exact aO.LC _ _ _ _ _ _ _ _ _ _ _ _ _ _ _ (by omega) ha h3 h4 hb h6 h7 h8 (by omega) cL ec gp (by omega) (ih (t+1) (by omega) (by omega))
theorem Am(hx:gO 1 x)(hy:gO 1 y)(hl:x.length≤9)(Mk:x.length=y.length)(FP:∀a∈x,a.valid=true)(GX:∀a∈y,a.valid=true)(hd:Nn (coef (aS x)) x.length):Cp 19 [ah x,ah y] (.aY [pq (jO (coef (aS x)) (coef (aS y)) x.length),.bD]):=by
 have n:=Ic hx hy hl Mk FP GX hd _ 0 rfl (by omega)
 have d:=(Mj (y:=y) (by omega) hx FP _ 0 rfl (by omega)).1 (fun i _ hi k hk=>hd k i hk hi) _ n
 have b:=yB 1 y hy (by omega) (by omega) (aO.cW _ _ 2 (by omega) d) _ 0 rfl (by rw[List.drop_zero];exact GX)
 have a:=yB 0 x hx (by omega) (by omega) (aO.l10 _ _ 1 y (by omega) rfl b) _ 0 rfl (by rw[List.drop_zero];exact FP)
 exact aO.e2 x y Mk (by omega) (aO.l10 _ _ 0 x (by omega) rfl a)
end
end Nl
end Go.Proofs.YtnjhplhbmapclaaGreatDoor.Sym
namespace Go.Proofs.YtnjhplhbmapclaaGreatDoor.Sym
open Go Path ct
set_option linter.unusedVariables false
theorem uC(n:Int):ratT (n:Rat)=numT n:=by
 unfold ratT
 rw[if_pos (by rw[Rat.den_intCast];rfl),Rat.num_intCast]
namespace Ia
abbrev Cl:List Rat:=[((2:Int):Rat),((-3:Int):Rat),((1:Int):Rat)]
abbrev Kl:List Rat:=[((-1:Int):Rat),((1:Int):Rat)]
abbrev Ml:List Rat:=[((2:Int):Rat),((-3:Int):Rat),((0:Int):Rat),((1:Int):Rat)]
theorem JK:Cp 6 [pq Cl] (.aY [.str (ByteArray.mk #[49,32,120,94,50,32,43,32,45,51,32,120,32,43,32,50]),.bD]):=by
 have fA:Fl 1 Cl:=by decide +kernel
 have Gv:=EA.Check (Cl.map ba) (D5 fA (by omega))
 rw[qe (by decide +kernel) (by decide)] at Gv
 have t1:=H5.ny ((1:Int):Rat) (by decide) (by decide)
 have t2:=H5.ny ((2:Int):Rat) (by decide) (by decide)
 have t3:=H5.ny ((-3:Int):Rat) (by decide) (by decide)
 have n1:numT 1=ByteArray.mk #[49]:=by unfold numT;rw[if_neg (by decide),show(1:Int).natAbs=1 from rfl,fK (by omega)];rfl
 have n2:numT 2=ByteArray.mk #[50]:=by unfold numT;rw[if_neg (by decide),show(2:Int).natAbs=2 from rfl,fK (by omega)];rfl
 have n3:numT (-3)=ByteArray.mk #[45,51]:=by unfold numT;rw[if_pos (by decide),show(-3:Int).natAbs=3 from rfl,fK (by omega)];decide +kernel
 rw[uC,n1] at t1
 rw[uC,n2] at t2
 rw[uC,n3] at t3
 have i2:=ud 2 (by omega)
 rw[fK (by omega),show UInt8.ofNat (48+2)=50 from rfl] at i2
 have s1:=QF.Sign ((1:Int):Rat) (by decide)
 have s2:=QF.Sign ((2:Int):Rat) (by decide)
 have s3:=QF.Sign ((-3:Int):Rat) (by decide)
 have hj:=HM [ByteArray.mk #[49]++ByteArray.mk #[32,120]++(ByteArray.mk #[94]++ByteArray.mk #[50]),ByteArray.mk #[45,51]++ByteArray.mk #[32,120],ByteArray.mk #[50]] (ByteArray.mk #[32,43,32]) (by simp) (by decide +kernel)
 have ej:dq [ByteArray.mk #[49]++ByteArray.mk #[32,120]++(ByteArray.mk #[94]++ByteArray.mk #[50]),ByteArray.mk #[45,51]++ByteArray.mk #[32,120],ByteArray.mk #[50]] (ByteArray.mk #[32,43,32])=ByteArray.mk #[49,32,120,94,50,32,43,32,45,51,32,120,32,43,32,50]:=by decide +kernel
 rw[ej] at hj
 have e:(((Cl.map ba).length:Nat):Int)-1=2:=rfl
 have l3:=cH.Iy (Cl.map ba) _ (0-1) _ (by omega) hj
 have l2:=cH.Ex (Cl.map ba) [ByteArray.mk #[49]++ByteArray.mk #[32,120]++(ByteArray.mk #[94]++ByteArray.mk #[50]),ByteArray.mk #[45,51]++ByteArray.mk #[32,120]] 0 0 (ba ((2:Int):Rat)) _ 0 (ba ((2:Int):Rat)) _ (by omega) rfl rfl s2 (by decide +kernel) rfl rfl t2 (by omega) (by omega) (by simp) (by unfold ar;omega) l3
 have l1:=cH.mD (Cl.map ba) [ByteArray.mk #[49]++ByteArray.mk #[32,120]++(ByteArray.mk #[94]++ByteArray.mk #[50])] (2-1) 1 (ba ((-3:Int):Rat)) _ 1 (ba ((-3:Int):Rat)) _ (by omega) rfl rfl s3 (by decide +kernel) rfl rfl t3 (by omega) (by decide) (by omega) (by simp) (by unfold ar;omega) l2
 have l0:=cH.cW (Cl.map ba) [] 2 2 (ba ((1:Int):Rat)) _ 2 (ba ((1:Int):Rat)) _ _ (by omega) rfl rfl s1 (by decide +kernel) rfl rfl t1 (by omega) (by decide) (by omega) i2 (by decide) (by decide +kernel) (by simp) (by unfold ar;omega) l1
 exact cH.e1 _ Gv (by decide) (by rw[e];unfold ar;omega) (by rw[e];exact l0)
theorem Ee:Cp 19 [pq [((0:Int):Rat),((1:Int):Rat),((2:Int):Rat)],pq [((1:Int):Rat),((2:Int):Rat),((5:Int):Rat)]] (.aY [pq [((1:Int):Rat),((0:Int):Rat),((1:Int):Rat)],.bD]):=by
 have vm:∀q:List Rat,∀a∈q.map ba,a.valid=true:=fun q a ha=>by
  obtain⟨x,_,rfl⟩:=List.mem_map.1 ha
  exact q6 x
 have f1:gO 1 ([((0:Int):Rat),((1:Int):Rat),((2:Int):Rat)].map ba):=qb (by decide +kernel)
 have f2:gO 1 ([((1:Int):Rat),((2:Int):Rat),((5:Int):Rat)].map ba):=qb (by decide +kernel)
 have hd:∀j,j<3→∀i,i<j→coef [((0:Int):Rat),((1:Int):Rat),((2:Int):Rat)] i≠coef [((0:Int):Rat),((1:Int):Rat),((2:Int):Rat)] j:=by decide +kernel
 have h:=Nl.Am f1 f2 (by decide) rfl (vm _) (vm _) (by
  intro i j h1 h2
  rw[jd]
  exact hd j h2 i h1)
 rw[jd,jd] at h
 have e:jO (coef [((0:Int):Rat),((1:Int):Rat),((2:Int):Rat)]) (coef [((1:Int):Rat),((2:Int):Rat),((5:Int):Rat)]) ([((0:Int):Rat),((1:Int):Rat),((2:Int):Rat)].map ba).length=[((1:Int):Rat),((0:Int):Rat),((1:Int):Rat)]:=by decide +kernel
 rwa[e] at h
theorem Ef:Cp 5 [] (vB true):=by
 have a1:=of [2, -3,1] (by unfold ar;decide) (by decide)
 have a2:=of [-1,1] (by unfold ar;decide) (by decide)
 have a3:=of [2, -3,0,1] (by unfold ar;decide) (by decide)
 have a4:=of [0,1,2] (by unfold ar;decide) (by decide)
 have a5:=of [1,2,5] (by unfold ar;decide) (by decide)
 have a6:=of [-2,1] (by unfold ar;decide) (by decide)
 have a7:=of [-2,1,1] (by unfold ar;decide) (by decide)
 have a8:=of [1,0,1] (by unfold ar;decide) (by decide)
 have fA:Fl 1 Cl:=by decide +kernel
 have fB:Fl 1 Kl:=by decide +kernel
 have fC:Fl 1 Ml:=by decide +kernel
 have hd:=PQ.Div (h:=4) (b:=3) Cl Kl (by decide +kernel) (by decide +kernel) (by simp) (by decide) (by decide) (Ch.yu fA) (Ch.yu fB) (by omega) (by omega) (by decide)
 have O4:(ld Cl Kl).1=[((-2:Int):Rat),((1:Int):Rat)]:=by decide +kernel
 have O5:(ld Cl Kl).2=[]:=by decide +kernel
 rw[O4,O5] at hd
 have hF:=PQ.Mi (h:=5) (L:=4) (p:=Ml) ⟨by decide +kernel,by simp,by decide,Ch.yu fC,by omega,by omega,by decide⟩
 have eF:Gt Ml=[((-2:Int):Rat),((1:Int):Rat),((1:Int):Rat)]:=by decide +kernel
 rw[eF] at hF
 have s1:=same [((-2:Int):Rat),((1:Int):Rat)] (by decide) (by decide +kernel)
 have s2:=same [((-2:Int):Rat),((1:Int):Rat),((1:Int):Rat)] (by decide) (by decide +kernel)
 have s3:=same [((1:Int):Rat),((0:Int):Rat),((1:Int):Rat)] (by decide) (by decide +kernel)
 exact jA.e0 _ _ _ _ _ _ _ _ _ _ _ _ _ _ _ _ _ a1 a2 hd a1 JK a3 hF a4 a5 Ee a6 s1 rfl rfl rfl a7 s2 rfl a8 s3
end Ia
open Go.RowKit
theorem Ey.Eg:Go.Proofs.LaysM.n171 Tryz.prog Ey.uR := { Ey.AT with
 i0:=by kernel_rfl
 i2:=by kernel_rfl
 i3:=by kernel_rfl
 i4:=by kernel_rfl
 i5:=by kernel_rfl
 i9:=by kernel_rfl
 i20:=by kernel_rfl
 i37:=by kernel_rfl
 i46:=by kernel_rfl
 i51:=by kernel_rfl
 i53:=by kernel_rfl
 i171:=by kernel_rfl
 i173:=by kernel_rfl
 i212:=by kernel_rfl
 i232:=by kernel_rfl
 i233:=by kernel_rfl
 m17:=by kernel_rfl
 m18:=by kernel_rfl
 m19:=by kernel_rfl }
theorem Ie {sin : aD} {β : Nat → Option Nat} {w : World} (h : mM sin β w) : Lib.TabIs bh w "internal/strconv.uint64pow10" .u64 Lib.pow10Tab := by
  obtain ⟨⟨el, sh, h1⟩, _⟩ := h
  unfold Lib.TabIs World.var?
  rw [show bh.globalNamed "internal/strconv.uint64pow10" = some 0 by kernel_rfl]
  simp only [Option.bind_some, h1]
  simp [yY, Lib.pow10Tab, Function.comp_def]
theorem An(w:World)(k:Nat)(os:Array Obj):Below w.heap.size w (Sort.grow (w.drewN k) os) :=
 ⟨rfl,rfl,rfl,by show w.heap.size≤(w.heap++os).size;rw[Array.size_append];omega,fun j hj=>by show(w.heap++os)[j]? = _;rw[Array.getElem?_append_left hj]⟩
theorem Ig(n:Nat)(h:n<9223372036854775808):Cp 22 [vI (n:Int)] (.str (dig n)):=by
 refine cb.x9 (fZ.mk' Tryz.func22 (by kernel_rfl)) (fun I w vs hI hl hr hy => ?_)
 obtain⟨v,rfl⟩:∃v,vs = #[v]:=by
  match vs,hl with
  |⟨[v]⟩,_=>exact⟨v,rfl⟩
 have hv:=AV (hr 0 _ v rfl rfl)
 subst hv
 refine Calls.mono (Any.strconv_Itoa Ey.Eg (n:Int) (by omega) (by omega) w (Ie hy)) ?_
 rintro e w' ⟨he,k,os,rfl⟩
 refine⟨_,he,?_,An w k os⟩
 have:Lib.itoa (n:Int)=Lib.decDigits n:=by unfold Lib.itoa;rw[if_neg (by omega)];rfl
 rw[this]
 exact .str _
theorem ql(n:Nat):0<(dig n).size:=by
 show 0<(Lib.decDigits n).toArray.size
 rw[List.size_toArray,Lib.decDigits]
 split<;>simp
theorem xa{n:Nat}(h:n<10):(ByteArray.mk #[48,49,50,51,52,53,54,55,56,57]).extract n (n+1)=dig n:=by
 rw[fK h]
 have key:∀m:Fin 10,(ByteArray.mk #[48,49,50,51,52,53,54,55,56,57]).extract m.1 (m.1+1)=ByteArray.mk #[UInt8.ofNat (48+m.1)]:=by decide +kernel
 exact key ⟨n,h⟩
theorem yC{n:Nat}(h:10≤n):dig (n/10)++dig (n%10)=dig n:=by
 rw[fK (Nat.mod_lt n (by omega))]
 apply ByteArray.ext
 rw[ByteArray.data_append]
 show(Lib.decDigits (n/10)).toArray ++ #[UInt8.ofNat (48+n%10)]=(Lib.decDigits n).toArray
 rw[Lib.decDigits.eq_def n,dif_neg (by omega)]
 simp
namespace Ih
theorem number:∀n:Nat,n<1000000000→Cp 26 [vI (n:Int)] (.str (dig n)):=by
 intro n
 induction n using Nat.strongRecOn with
 |_ n ih =>
  intro hn
  by_cases h:n<10
  ·have:=fj.e0 (n:Int) n (n+1) (by omega) (by unfold ar;omega) rfl (by omega) (by omega) (by show n+1≤10;omega)
   rwa[xa h] at this
  ·have h1:=ih (n/10) (by omega) (by omega)
   have h2:=ih (n%10) (by omega) (by omega)
   have s1:=ir (n:=n/10) (by omega)
   have s2:=ir (n:=n%10) (by omega)
   have:=fj.e1 (n:Int) n _ n _ (by omega) rfl (by omega) h1 rfl h2 (by omega)
   rwa[yC (by omega)] at this
theorem Gw(n:Int)(h:n.natAbs<1000000000):Cp 59 [(whole n).pv] (.str (numT n)):=by
 have hl:(words n.natAbs).length≤1:=cx (by omega)
 have jl:Fit (whole n).bw:=by
  show Fit (words n.natAbs)
  unfold Fit
  omega
 have hm:=qn.bw (whole n) jl
 have hn:=qn.neg (whole n) jl
 rw[ax] at hm hn
 by_cases h0:n=0
 ·subst h0
  have e:numT 0=ByteArray.mk #[48]:=by
   unfold numT
   rw[if_neg (by omega),show Int.natAbs 0=0 from rfl,fK (by omega)];rfl
  rw[e]
  exact aW.e0 _ _ hm rfl
 ·have hw:(words n.natAbs).length≠0:=fun e=>h0 (by have:=bO.1 e;omega)
  have fin:aW.ag [] (dig n.natAbs) (whole n) (.str (numT n)):=by
   have hd:=ir h
   by_cases hneg:n<0
   ·have:=aW.cW [] (dig n.natAbs) _ _ (by simp) hn (decide_eq_true hneg) (by
     have e:(ByteArray.mk #[45]).size=1:=rfl
     omega)
    unfold numT
    rw[if_pos hneg]
    exact this
   ·have:=aW.mD [] (dig n.natAbs) _ _ (by simp) hn (decide_eq_false hneg)
    unfold numT
    rw[if_neg hneg]
    exact this
  have loop:∀(k d g:Nat) (c:ByteArray),g+k=9→d<10^k→c.size≤10→(d=0→c=dig n.natAbs)→(0<d→dig d++c=dig n.natAbs)→aW.gg [] c d g (whole n) (.str (numT n)):=by
   intro k
   induction k with
   |zero =>
    intro d g c hg hd hc h1 _
    have:d=0:=by simpa using hd
    rw[h1 this]
    exact aW.Ox _ _ _ _ _ (by omega) fin
   |succ k ih =>
    intro d g c hg hd hc h1 h2
    by_cases hd0:d=0
    ·rw[h1 hd0]
     exact aW.Ow _ _ _ _ _ (by omega) (by omega) (by simp) fin
    ·have Ii:d%10<10:=Nat.mod_lt _ (by omega)
     have O6:10^(k+1)≤10^9:=Nat.pow_le_pow_right (by omega) (by omega)
     have mz:d<1000000000:=Nat.lt_of_lt_of_le hd O6
     have vn:d/10<10^k:=by rw[Nat.pow_succ] at hd;omega
     have hT:=h2 (by omega)
     have es:(dig (d%10)).size=1:=by rw[fK Ii];rfl
     have ji:(0<d/10→dig (d/10)++(dig (d%10)++c)=dig n.natAbs)∧(d/10=0→dig (d%10)++c=dig n.natAbs):=by
      constructor
      ·intro hp
       rw[←ByteArray.append_assoc,yC (by omega)]
       exact hT
      ·intro hz
       have:d%10=d:=by omega
       rw[this];exact hT
     have gn:(dig (d%10)++c).size≤10:=by
      have hs:=ir h
      by_cases hz:d/10=0
      ·rw[ji.2 hz];exact hs
      ·have:=ji.1 (by omega)
       have e2:=congrArg ByteArray.size this
       rw[ByteArray.size_append] at e2
       omega
     refine aW.Hq [] c d g (whole n) (d%10) (d%10) (d%10+1) (d/10) (by omega) (by omega) (by omega) rfl rfl (Nat.mod_eq_of_lt (by omega)) (by omega) (by show d%10+1≤10;omega) ?_ (Nat.mod_eq_of_lt (by omega)) (by omega) ?_
     ·rw[xa Ii];omega
     ·rw[xa Ii]
      exact ih (d/10) (g+1) _ (by omega) vn gn ji.2 ji.1
  obtain⟨w,No⟩:∃w,words n.natAbs=[w]:=by
   match hx:words n.natAbs,hl,hw with
   |[w],_,_=>exact⟨w,rfl⟩
  have hv:w.toNat=n.natAbs:=by
   have:=au n.natAbs
   rw[No] at this
   simpa[nat] using this
  rw[No] at hm
  refine aW.e1 _ _ hm (by simp) (aW.l10 _ _ _ (by simp) (by simp) (by unfold ar;simp) ?_)
  have ht:=qn.trim [0] (by simp)
  have ez:words (nat [(0:UInt32)])=[]:=by simp[nat,cJ]
  rw[ez] at ht
  refine aW.tY _ _ 0 _ _ _ _ 0 0 w n.natAbs 0 0 0 n.natAbs (by simp) (by simp) (by simp) (by simp) ?_ (by omega) ?_ (by simp) (by simp) (by simp) (by simp) (Nat.mod_eq_of_lt h) (by unfold ar;simp) ?_
  ·rw[hv];simp;omega
  ·rw[Nat.div_eq_of_lt h]
  ·refine aW.sf _ _ _ _ _ _ _ [] (by simp) (by simp) (by simpa using ht) ?_
   exact loop 9 n.natAbs 0 _ (by omega) (by omega) (by show(0:Nat)≤10;omega) (fun e=>absurd e (by omega)) (fun _=>by
    apply ByteArray.ext
    rw[ByteArray.data_append]
    simp)
end Ih
end Go.Proofs.YtnjhplhbmapclaaGreatDoor.Sym
namespace Go.Proofs.YtnjhplhbmapclaaGreatDoor.Sym
open Go Path ct
set_option linter.unusedVariables false
namespace Ih
abbrev SP:ByteArray:=ByteArray.mk #[32,43,32]
abbrev XX:ByteArray:=ByteArray.mk #[32,120]
abbrev HH:ByteArray:=ByteArray.mk #[94]
abbrev E0:ByteArray:=ByteArray.mk #[]
def Sm(q:Rat):Prop:=q.num.natAbs<1000000000∧q.den<1000000000
theorem Sm.ht{q:Rat}(h:Sm q):Sym.ht q≤1 :=
 Nat.max_le.2 ⟨cx (by have:=h.1;omega),cx (by rw[Int.natAbs_natCast];have:=h.2;omega)⟩
theorem re{q:Rat}(h:Sm q):(ratT q).size≤23∧0<(ratT q).size:=by
 have h1:=jQ h.1
 have h2:=jQ (n:=(q.den:Int)) (by rw[Int.natAbs_natCast];exact h.2)
 have hp:∀n:Int,0<(numT n).size:=fun n=>by
  unfold numT
  split
  ·rw[ByteArray.size_append];have:=ql n.natAbs;omega
  ·exact ql _
 have h3:=hp q.num
 unfold ratT
 split
 ·omega
 ·rw[ByteArray.size_append,ByteArray.size_append]
  have e:(ByteArray.mk #[47]).size=1:=rfl
  omega
theorem A6(q:Rat)(h:Sm q):Cp 21 [(ba q).pv] (.str (ratT q)) :=
 H5.A6 q h.1 h.2 (H5.DV _ h.1 (fun _=>Ig _ (by have:=h.1;omega))) (H5.DV _ (by rw[Int.natAbs_natCast];exact h.2) (fun _=>Ig _ (by rw[Int.natAbs_natCast];have:=h.2;omega)))
theorem JL(q:Rat)(h:Sm q):Cp 25 [(ba q).pv] (.str (ratT q)):=by
 have l1:wl q.num≤1:=cx (by have:=h.1;omega)
 have l2:wl (q.den:Int)≤1:=cx (by rw[Int.natAbs_natCast];have:=h.2;omega)
 have hh:=h.ht
 have hN:=Gw q.num h.1
 have hD:=Gw (q.den:Int) (by rw[Int.natAbs_natCast];exact h.2)
 have hp:=DS.jB (ba q) (iq (by omega))
 rw[cu] at hp
 have hc:=qn.FB (whole (q.den:Int)) (whole 1) (show (words _).length<_ from Nat.lt_of_le_of_lt l2 (by omega)) (by decide)
 rw[ax,ax] at hc
 have s1:=jQ h.1
 have s2:=jQ (n:=(q.den:Int)) (by rw[Int.natAbs_natCast];exact h.2)
 by_cases hd:(q.den:Int)=1
 ·have:=gA.e0 _ _ _ _ _ _ hp DS.one hc (by rw[hd];rfl) hN
  unfold ratT
  rw[if_pos hd]
  exact this
 ·have e:(ByteArray.mk #[47]).size=1:=rfl
  have Cj:bX (q.den:Int) 1≠0:=by
   unfold bX
   intro hx
   split at hx
   ·cases hx
   ·omega
  have:=gA.e1 _ _ _ _ _ _ _ hp DS.one hc Cj hN (by omega) hD (by rw[ByteArray.size_append];omega)
  unfold ratT
  rw[if_neg hd]
  exact this
def term(i:Nat)(q:Rat):ByteArray:=if 1<i then (ratT q++XX)++(HH++dig i) else if 0<i then ratT q++XX else ratT q
def terms(q:List Rat):Nat→List ByteArray
 |0=>[]
 |k+1=>if coef q k=0 then terms q k else term k (coef q k)::terms q k
theorem rf{i:Nat}{q:Rat}(h:Sm q)(hi:i<1000000000):(term i q).size≤40∧0<(term i q).size:=by
 have h1:=re h
 have h2:=ir hi
 have e1:XX.size=2:=rfl
 have e2:HH.size=1:=rfl
 unfold term
 split
 ·rw[ByteArray.size_append,ByteArray.size_append,ByteArray.size_append];omega
 ·split
  ·rw[ByteArray.size_append];omega
  ·omega
theorem nW(s:ByteArray):dq [] s=E0:=rfl
theorem Ao{l:List ByteArray}(hl:l≠[])(t s:ByteArray):dq (l++[t]) s=dq l s++(s++t):=by
 obtain⟨x,r,rfl⟩:=List.exists_cons_of_ne_nil hl
 apply ByteArray.ext
 rw[ByteArray.data_append,ByteArray.data_append]
 unfold dq
 simp only[List.cons_append,List.map_cons,List.map_append,List.map_nil,Lib.join_cons,Lib.joinTail,List.flatten_append,List.flatten_cons,List.flatten_nil,List.append_nil]
 rw[←List.append_assoc,List.append_toArray]
 simp
theorem join_le{M:Nat} : ∀(l:List ByteArray) (s:ByteArray),(∀x∈l,x.size≤M)→(Lib.join (l.map (·.data.toList)) s.data.toList).length≤l.length*(M+s.size)
 |[],s,_=>by simp[Lib.join_nil]
 |x::r,s,h=>by
  have key:∀r:List ByteArray,(∀x∈r,x.size≤M)→(Lib.joinTail s.data.toList (r.map (·.data.toList))).length≤r.length*(M+s.size):=by
   intro r
   induction r with
   |nil=>intro _;simp[Lib.joinTail]
   |cons y r ih =>
    intro h
    have h1:=ih (fun z hz=>h z (List.mem_cons_of_mem _ hz))
    have h2:=h y (List.mem_cons_self ..)
    have e1:y.data.toList.length=y.size:=by rw[Array.length_toList];rfl
    have e2:s.data.toList.length=s.size:=by rw[Array.length_toList];rfl
    unfold Lib.joinTail at h1 ⊢
    rw[List.map_cons,List.map_cons,List.flatten_cons,List.length_append,List.length_append,List.length_cons,Nat.succ_mul,e1,e2]
    omega
  have h1:=key r (fun z hz=>h z (List.mem_cons_of_mem _ hz))
  have h2:=h x (List.mem_cons_self ..)
  have e1:x.data.toList.length=x.size:=by rw[Array.length_toList];rfl
  rw[List.map_cons,Lib.join_cons,List.length_append,List.length_cons,Nat.succ_mul,e1]
  omega
theorem Ap{M:Nat}{l:List ByteArray}{s:ByteArray}(h:∀x∈l,x.size≤M):(dq l s).size≤l.length*(M+s.size):=by
 have:=join_le l s h
 show(Lib.join _ _).toArray.size≤_
 rw[List.size_toArray]
 exact this
theorem vO{l:List ByteArray}{s:ByteArray}(hl:l≠[])(h:∀x∈l,0<x.size):0<(dq l s).size:=by
 obtain⟨x,r,rfl⟩:=List.exists_cons_of_ne_nil hl
 have h2:=h x (List.mem_cons_self ..)
 show 0<(Lib.join _ _).toArray.size
 rw[List.size_toArray,List.map_cons,Lib.join_cons,List.length_append]
 have e1:x.data.toList.length=x.size:=by rw[Array.length_toList];rfl
 omega
theorem get_map{q:List Rat}{k:Nat}(h:k<q.length):(q.map ba)[k]? = some (ba (coef q k)):=by rw[List.getElem?_map,je h];rfl
variable {q:List Rat}
theorem Mm(hq:∀x∈q,Sm x){k:Nat}(hk:k<q.length):Sm (coef q k):=hq _ (List.mem_of_getElem? (je hk))
theorem JM(hq:∀x∈q,Sm x)(hl:q.length≤70):∀(k:Nat) (b:List ByteArray),k≤q.length→(∀x∈b,x.size≤40)→b.length+k≤100 →
  cH.ag (q.map ba) b ((k:Int)-1) (.aY [.str (dq (b++terms q k) SP),.bD]):=by
 intro k
 induction k with
 |zero =>
  intro b _ hb Du
  have hj:=HM b SP (by omega) (Nat.le_trans (join_le b SP hb) (by
   have e:SP.size=3:=rfl
   rw[e];omega))
  rw[show terms q 0=[] from rfl,List.append_nil]
  exact cH.Iy _ _ _ _ (by omega) hj
 |succ k ih =>
  intro b hk hb Du
  have ek:((k+1:Nat):Int)-1=(k:Int):=by omega
  rw[ek]
  have hs:=Mm hq (k:=k) (by omega)
  have hS:=QF.Sign (coef q k) (by have:=hs.ht;omega)
  have hg:=get_map (q:=q) (k:=k) (by omega)
  by_cases h0:coef q k=0
  ·rw[show terms q (k+1)=terms q k from by rw[terms,if_pos h0]]
   exact cH.l10 _ _ _ k _ _ (by omega) rfl hg hS (dR.2 h0) (by unfold ar;omega) (ih b (by omega) hb (by omega))
  ·have fP:oZ (coef q k) 0≠0:=fun h=>h0 (dR.1 h)
   have hT:=A6 _ hs
   have HK:=rf (i:=k) hs (by omega)
   have zn:=re hs
   have Cz:=ir (n:=k) (by omega)
   have e1:(ByteArray.mk #[32,120]).size=2:=rfl
   have e2:(ByteArray.mk #[94]).size=1:=rfl
   have next:=ih (b++[term k (coef q k)]) (by omega) (fun x hx=>by
    rcases List.mem_append.1 hx with h|h
    ·exact hb x h
    ·rw[List.mem_singleton.1 h];exact HK.1) (by rw[List.length_append,List.length_singleton];omega)
   rw[show terms q (k+1)=term k (coef q k)::terms q k from by rw[terms,if_neg h0]]
   rw[List.append_assoc,List.singleton_append] at next
   have Ij:∀t:ByteArray,((b++[t]):List ByteArray).length*16≤140737488355328:=fun t=>by rw[List.length_append,List.length_singleton];omega
   by_cases h1:1<k
   ·refine cH.cW _ _ _ k _ _ k _ _ _ (by omega) rfl hg hS fP rfl hg hT (by omega) (by omega) (by omega) (Ig k (by omega)) (by omega) ?_ (Ij _) (by unfold ar;omega) ?_
    ·rw[ByteArray.size_append,ByteArray.size_append];omega
    ·have et:term k (coef q k)=(ratT (coef q k)++XX)++(HH++dig k):=by unfold term;rw[if_pos h1]
     rw[et] at next ⊢
     exact next
   ·by_cases h2:0<k
    ·refine cH.mD _ _ _ k _ _ k _ _ (by omega) rfl hg hS fP rfl hg hT (by omega) (by omega) (by omega) (Ij _) (by unfold ar;omega) ?_
     have et:term k (coef q k)=ratT (coef q k)++XX:=by unfold term;rw[if_neg h1,if_pos h2]
     rw[et] at next ⊢
     exact next
    ·refine cH.Ex _ _ _ k _ _ k _ _ (by omega) rfl hg hS fP rfl hg hT (by omega) (by omega) (Ij _) (by unfold ar;omega) ?_
     have et:term k (coef q k)=ratT (coef q k):=by unfold term;rw[if_neg h1,if_neg h2]
     rw[et] at next ⊢
     exact next
def FQ(b:ByteArray):ByteArray:=if b=E0 then ByteArray.mk #[48] else b
theorem Bk{b:ByteArray}(h:0<b.size):b≠E0:=fun e=>by rw[e] at h;exact absurd h (by decide)
theorem rh(b:ByteArray):E0++b=b:=by
 apply ByteArray.ext
 rw[ByteArray.data_append]
 simp
theorem JN(hq:∀x∈q,Sm x)(hl:q.length≤70):∀(k:Nat) (l:List ByteArray),k≤q.length→(∀x∈l,x.size≤40∧0<x.size)→l.length+k≤100 →
  aX.ag (q.map ba) (dq l SP) ((k:Int)-1) (.aY [.str (FQ (dq (l++terms q k) SP)),vI 0]):=by
 intro k
 induction k with
 |zero =>
  intro l _ hb Du
  rw[show terms q 0=[] from rfl,List.append_nil]
  unfold FQ
  by_cases hz:dq l SP=E0
  ·rw[if_pos hz]
   exact aX.OE _ _ _ (by omega) hz
  ·rw[if_neg hz]
   exact aX.LK _ _ _ (by omega) hz
 |succ k ih =>
  intro l hk hb Du
  have ek:((k+1:Nat):Int)-1=(k:Int):=by omega
  rw[ek]
  have hs:=Mm hq (k:=k) (by omega)
  have hS:=QR.Sign (coef q k) (by have:=hs.ht;omega)
  have hg:=get_map (q:=q) (k:=k) (by omega)
  by_cases h0:coef q k=0
  ·rw[show terms q (k+1)=terms q k from by rw[terms,if_pos h0]]
   exact aX.l10 _ _ _ k _ _ (by omega) rfl hg hS (dR.2 h0) (by unfold ar;omega) (ih l (by omega) hb (by omega))
  ·have fP:oZ (coef q k) 0≠0:=fun h=>h0 (dR.1 h)
   have hT:=JL _ hs
   have HK:=rf (i:=k) hs (by omega)
   have zn:=re hs
   have Cz:=ir (n:=k) (by omega)
   have hN:=number k (by omega)
   have e1:(ByteArray.mk #[32,120]).size=2:=rfl
   have e2:(ByteArray.mk #[94]).size=1:=rfl
   have e3:(ByteArray.mk #[32,43,32]).size=3:=rfl
   have next:=ih (l++[term k (coef q k)]) (by omega) (fun x hx=>by
    rcases List.mem_append.1 hx with h|h
    ·exact hb x h
    ·rw[List.mem_singleton.1 h];exact HK) (by rw[List.length_append,List.length_singleton];omega)
   rw[show terms q (k+1)=term k (coef q k)::terms q k from by rw[terms,if_neg h0]]
   rw[List.append_assoc,List.singleton_append] at next
   by_cases hlz:l=[]
   ·subst hlz
    have ej:dq ([]++[term k (coef q k)]) SP=term k (coef q k):=by rw[List.nil_append];exact join_one _ _
    rw[ej] at next
    by_cases h1:1<k
    ·have et:term k (coef q k)=((dq [] SP++ratT (coef q k))++XX)++(HH++dig k):=by unfold term;rw[if_pos h1,nW,rh]
     have Np:(dq [] SP).size=0:=rfl
     refine aX.Iy _ _ _ k _ _ k _ _ _ (by omega) rfl hg hS fP rfl rfl hg hT (by omega) (by omega) ?_ (by omega) hN (by omega) ?_ (by unfold ar;omega) ?_
     ·rw[ByteArray.size_append];omega
     ·rw[ByteArray.size_append,ByteArray.size_append,ByteArray.size_append];omega
     ·rw[←et];exact next
    ·by_cases h2:0<k
     ·have et:term k (coef q k)=(dq [] SP++ratT (coef q k))++XX:=by unfold term;rw[if_neg h1,if_pos h2,nW,rh]
      have Np:(dq [] SP).size=0:=rfl
      refine aX.OC _ _ _ k _ _ k _ _ (by omega) rfl hg hS fP rfl rfl hg hT (by omega) (by omega) ?_ (by omega) (by unfold ar;omega) ?_
      ·rw[ByteArray.size_append];omega
      ·rw[←et];exact next
     ·have et:term k (coef q k)=dq [] SP++ratT (coef q k):=by unfold term;rw[if_neg h1,if_neg h2,nW,rh]
      have Np:(dq [] SP).size=0:=rfl
      refine aX.OD _ _ _ k _ _ k _ _ (by omega) rfl hg hS fP rfl rfl hg hT (by omega) (by omega) (by omega) (by unfold ar;omega) ?_
      rw[←et];exact next
   ·have Mn:dq l SP≠E0:=Bk (vO hlz (fun x hx=>(hb x hx).2))
    have O7:=Ap (M:=40) (l:=l) (s:=SP) (fun x hx=>(hb x hx).1)
    rw[e3] at O7
    have O8:(dq l SP).size≤10000:=by omega
    rw[Ao hlz] at next
    by_cases h1:1<k
    ·have et:dq l SP++(SP++term k (coef q k))=(((dq l SP++SP)++ratT (coef q k))++XX)++(HH++dig k):=by
      unfold term;rw[if_pos h1];simp only[ByteArray.append_assoc]
     refine aX.cW _ _ _ k _ _ k _ _ _ (by omega) rfl hg hS fP Mn ?_ rfl hg hT ?_ (by omega) ?_ (by omega) hN (by omega) ?_ (by unfold ar;omega) ?_
     ·omega
     ·rw[ByteArray.size_append];omega
     ·rw[ByteArray.size_append,ByteArray.size_append];omega
     ·rw[ByteArray.size_append,ByteArray.size_append,ByteArray.size_append,ByteArray.size_append];omega
     ·rw[←et];exact next
    ·by_cases h2:0<k
     ·have et:dq l SP++(SP++term k (coef q k))=((dq l SP++SP)++ratT (coef q k))++XX:=by
       unfold term;rw[if_neg h1,if_pos h2];simp only[ByteArray.append_assoc]
      refine aX.mD _ _ _ k _ _ k _ _ (by omega) rfl hg hS fP Mn ?_ rfl hg hT ?_ (by omega) ?_ (by omega) (by unfold ar;omega) ?_
      ·omega
      ·rw[ByteArray.size_append];omega
      ·rw[ByteArray.size_append,ByteArray.size_append];omega
      ·rw[←et];exact next
     ·have et:dq l SP++(SP++term k (coef q k))=(dq l SP++SP)++ratT (coef q k):=by
       unfold term;rw[if_neg h1,if_neg h2];simp only[ByteArray.append_assoc]
      refine aX.Ex _ _ _ k _ _ k _ _ (by omega) rfl hg hS fP Mn ?_ rfl hg hT ?_ (by omega) (by omega) (by unfold ar;omega) ?_
      ·omega
      ·rw[ByteArray.size_append];omega
      ·rw[←et];exact next
def yD(q:List Rat):ByteArray:=if q.length=0 then ByteArray.mk #[48] else dq (terms q q.length) SP
theorem o4(hq:∀x∈q,Sm x)(hl:q.length≤70):∀k,k≤q.length→∀x∈terms q k,x.size≤40∧0<x.size
 |0,_,x,hx=>by cases hx
 |k+1,hk,x,hx=>by
  rw[terms] at hx
  split at hx
  ·exact o4 hq hl k (by omega) x hx
  ·rcases List.mem_cons.1 hx with rfl|hx
   ·exact rf (Mm hq (by omega)) (by omega)
   ·exact o4 hq hl k (by omega) x hx
theorem FR(h:aU q=false)(h0:q.length≠0):coef q (q.length-1)≠0:=by
 intro hc
 unfold aU at h
 rw[List.getLast?_eq_getElem?,je (by omega)] at h
 simp[hc] at h
theorem JO{p:List ae}(hc:Cp 9 [pq q] .bD)(hq:∀x∈q,Sm x)(hl:q.length≤70):Cp 6 [pq q] (.aY [.str (yD q),.bD]):=by
 unfold yD
 by_cases h0:q.length=0
 ·rw[if_pos h0]
  exact cH.e0 _ hc (by rw[List.length_map];exact h0)
 ·rw[if_neg h0]
  have:=JM hq hl q.length [] (Nat.le_refl _) (fun x hx=>by cases hx) (by simp;omega)
  exact cH.e1 _ hc (by rw[List.length_map];exact h0) (by rw[List.length_map];unfold ar;omega) (by rw[List.length_map];exact this)
theorem JP{p:List ae}(hc:Cp 10 [pq q] (vI 0))(hz:aU q=false)(hq:∀x∈q,Sm x)(hl:q.length≤70):Cp 7 [pq q] (.aY [.str (yD q),vI 0]):=by
 have:=JN hq hl q.length [] (Nat.le_refl _) (fun x hx=>by cases hx) (by simp;omega)
 rw[List.nil_append] at this
 have h1:=aX.e1 _ _ hc rfl (by rw[List.length_map];unfold ar;omega) (by rw[List.length_map];exact this)
 have e:FQ (dq (terms q q.length) SP)=yD q:=by
  unfold FQ yD
  by_cases h0:q.length=0
  ·rw[if_pos h0,h0,show terms q 0=[] from rfl,nW,if_pos rfl]
  ·rw[if_neg h0]
   have ht:terms q q.length≠[]:=by
    obtain⟨n,hn⟩:∃n,q.length=n+1:=⟨q.length-1,by omega⟩
    have:=FR hz h0
    rw[hn] at this ⊢
    rw[show n+1-1=n from rfl] at this
    rw[terms,if_neg this]
    simp
   rw[if_neg (Bk (vO ht (fun x hx=>(o4 hq hl _ (Nat.le_refl _) x hx).2)))]
 rw[e] at h1
 exact h1
theorem JQ{x:Rat}(h:Ia.Lo (ba x)):Sm x:=by
 obtain⟨_,_,h1,h2⟩:=h
 unfold ba at h1 h2
 by_cases h0:x.num.natAbs=0
 ·have hx:x=0:=Rat.num_eq_zero.1 (by omega)
  subst hx
  exact⟨by decide,by decide⟩
 ·rw[show Nat.beq x.num.natAbs 0=false from iP.2 h0,cond_false] at h1 h2
  rw[au] at h1 h2
  exact⟨by omega,by omega⟩
end Ih
namespace Ia
theorem Aq(p:List ae){A:Prop}(_:A):Cp 3 [ah p] (vB true):=by
 obtain⟨b1,h1,g1⟩:=short [p] (by simp)
 cases b1 with
 |false=>exact cP.e0 p _ _ h1 rfl Ef
 |true =>
  have hp:=g1 rfl p (by simp)
  have jl:=hp.fit (k:=274877906944) (by omega)
  have hlen:p.length≤1000:=by rcases hp.1 with h|h<;>omega
  have c1:=EA.Check p jl
  have c2:=Me.Check p jl
  have t1:=EA.Trim p (by omega) jl
  have t2:=Me.Trim p (by omega) jl
  have dy:=same (aL (aS p)) (by
   have:=eP (aS p)
   have e:(aS p).length=p.length:=by unfold aS;rw[List.length_map]
   omega) (uv (mu (mr (hp.fit (k:=1) (by omega)) (by omega)) (by omega)))
  have hd:=rI.e0 p (by unfold ar;omega)
  by_cases hc:q9 p=0
  ·have s:=hp.s5 hc
   have hq:∀x∈aS p,Ih.Sm x:=fun x hx=>by
    refine Ih.JQ (hp.2 _ ?_)
    rw[←s.ep]
    exact List.mem_map.2 ⟨x,hx,rfl⟩
   have ep:pq (aS p)=ah p:=by unfold pq;rw[s.ep]
   have hl:=s.len
   rw[hc] at c1 c2
   have x1:=Ih.JO (p:=p) (q:=aS p) (by rw[ep];exact c1) hq (by omega)
   have x2:=Ih.JP (p:=p) (q:=aS p) (by rw[ep];exact c2) s.zp hq (by omega)
   rw[ep] at x1 x2
   have:=cP.e2 p _ _ _ none _ _ (A8 0) _ _ _ _ _ _ _ h1 rfl Ef rfl x1 x2 c1 (IC.Kj _) c2 rfl t1 t2 dy rfl hd (by unfold ar;omega) rfl (IC.Kj none) rfl
   rwa[decide_eq_true rfl] at this
  ·rw[ur hc] at c1
   have x1:=cH.e2 p _ c1
   have x2:=aX.e0 p _ c2 hc
   have:=cP.e2 p _ _ _ (some (q9 p)) _ _ (some (q9 p)) _ _ _ _ _ _ _ h1 rfl Ef rfl x1 x2 c1 (IC.Kj _) c2 rfl t1 t2 dy rfl hd (by unfold ar;omega) rfl (IC.Kj _) rfl
   rwa[decide_eq_true rfl] at this
end Ia
end Go.Proofs.YtnjhplhbmapclaaGreatDoor.Sym
