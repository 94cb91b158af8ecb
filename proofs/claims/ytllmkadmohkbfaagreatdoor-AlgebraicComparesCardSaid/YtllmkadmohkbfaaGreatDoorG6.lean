/- Lemmas for the statements of this seat. -/
import Derived.Test.YtllmkadmohkbfaaGreatDoorG5
import Derived.Test.YtllmkadmohkbfaaGreatDoorG4
import Derived.Test.YtllmkadmohkbfaaGreatDoorG3
import Derived.Test.YtllmkadmohkbfaaGreatDoorChecked
import Derived.Shelf.Strings.BuilderX
import Derived.Shelf.Lays
import Derived.KernelRfl
import Derived.Test.YtllmkadmohkbfaaGreatDoorWObs
import Derived.Test.YtllmkadmohkbfaaGreatDoorT0
import Derived.Shelf.Strconv.Itoa3
import Derived.Shelf.Strings.OnBuilder
import Derived.Test.YtllmkadmohkbfaaGreatDoorG2
namespace Go.Proofs.YtllmkadmohkbfaaGreatDoor.Sym
open Go Path dE
set_option linter.unusedVariables false
theorem getTop{q:List Rat}(h:q≠[]):q[q.length-1]? = some (cb q):=qQ (by have:=List.length_pos_iff.2 h;omega)
theorem Ez{h:Nat}{q:List Rat}(hq:Ch h q)(h1:1≤h):ht (cb q)≤h:=by have:=hq.ht (q.length-1);unfold cb;omega
namespace qG
theorem VQ:∀(n:Nat) (q:List Rat),q.length=n→n<4611686018427387904→Fl 274877906944 q→nP.cz (q.map aE) [] (.row 0 0 ((aU q).map aE).length 3) [(0,(.pure (((aU q).map aE).map ah.cells).flatten))]:=by
 intro n
 induction n with
 |zero =>
  intro q hq _ _
  have:q=[]:=List.eq_nil_of_length_eq_zero hq
  subst this
  exact nP.Ol [] rfl rfl (by simp)
 |succ n ih =>
  intro q hq hb hf
  obtain⟨v,hv⟩:∃v,q[n]? = some v:=⟨_,List.getElem?_eq_getElem (by omega)⟩
  have hs:=Kb hv hq
  have hm:(q.map aE)[n]? = some (aE v):=by rw[List.getElem?_map,hv];rfl
  have B0:=hf v (List.mem_of_getElem? hv)
  have sg:=qC.Sign (aE v) (nS B0)
  rw[bS] at sg
  have hl:(q.map aE).length=n+1:=by rw[List.length_map];exact hq
  by_cases h0:v=0
  ·have e:aU q=aU (q.take n):=by
    conv=>lhs;rw[hs,h0,yU]
   rw[e]
   refine nP.xl (q.map aE) n (aE v) _ n rfl (by omega) (by unfold aw;omega) (by omega) (by omega) hm sg (dm.2 h0) (by omega) (by omega) ?_
   have:=ih (q.take n) (by rw[List.length_take];omega) (by omega) (fun x hx=>hf x (List.mem_of_mem_take hx))
   rwa[List.map_take] at this
  ·have e:aU q=q:=by rw[hs,Dn h0]
   rw[e]
   exact nP.AR (q.map aE) n (aE v) _ rfl rfl (by omega) (by unfold aw;omega) (by omega) (by omega) hm sg (fun e=>h0 (dm.1 e))
theorem Ui{k:Nat}(q:List Rat)(hl:q.length≤1000000)(hf:Fl k q)(hk:k≤68719476736):av bT 182 [.pv (pq q)] [] (.row 0 0 ((aU q).map aE).length 3) [(0,(.pure (((aU q).map aE).map ah.cells).flatten))]:=by
 have loop:∀(j t:Nat) (site:List ah),q.length-t=j→t≤q.length→site=(q.take t).map aE→nP.aj site (q.map aE) t [] (.row 0 0 ((aU q).map aE).length 3) [(0,(.pure (((aU q).map aE).map ah.cells).flatten))]:=by
  intro j
  induction j with
  |zero =>
   intro t site hj ht hs
   refine nP.dw site _ _ rfl (by rw[bf];omega) ?_
   rw[List.take_of_length_le (by omega)] at hs
   rw[hs]
   exact VQ q.length q rfl (by omega) (cL hf (by omega))
  |succ j ih =>
   intro t site hj ht hs
   obtain⟨v,hv⟩:∃v,q[t]? = some v:=⟨_,List.getElem?_eq_getElem (by omega)⟩
   have hvh:=hf v (List.mem_of_getElem? hv)
   have Wv:site.length=t:=by rw[hs,List.length_map,List.length_take];omega
   refine nP.l10 site _ t _ _ rfl (by rw[bf];omega) (getM hv) (QF.mG v (by omega)) (by simp;omega) (by omega) (ih (t+1) _ (by omega) (by omega) ?_)
   rw[hs,List.take_add_one,hv];simp
 exact nP.e0 _ (loop _ 0 [] rfl (by omega) rfl)
theorem j9{h b:Nat}(p q:List Rat)(hz:aJ q=false)(sL:q≠[])(hp:Ch h p)(hq:Ch b q)(h1:1≤h)(mO:1≤b)(By:p.length≤10000)(Yu:q.length≤10000)(hk:2*(h+(p.length+1-q.length)*(b+1))+3*b+5≤68719476736):Cp 153 [pq p,pq q] (.aB [pq (et p q).1,pq (et p q).2]):=by
 have D2:=List.length_pos_iff.2 sL
 have Wz:=Ez hq mO
 have Bj:=eH hz sL
 obtain⟨H,hH⟩:∃H,H=h+(p.length+1-q.length)*(b+1):=⟨_,rfl⟩
 rw[←hH] at hk
 have hqc:∀i,ht (coef q i)≤b:=fun i=>by have:=hq.ht i;omega
 have loop:∀(n hc:Nat) (out rest:List Rat),rest.length<n→1≤hc→Ch hc rest→hc+(rest.length+1-q.length)*(b+1)≤H→aJ out=false→aJ rest=false→out.length≤p.length+1-q.length→rest.length≤p.length→(∀i,ht (coef out i)≤H+b)→(∀i,i+q.length≤rest.length→coef out i=0) →
   nA.aj (q.map aE) (rest.map aE).length (p.length+1-q.length) (aE (cb q)) (rest.map aE) ((pD (p.length+1-q.length) (coef out)).map aE) (.aB [pq (uz n out rest q).1,pq (uz n out rest q).2]):=by
  intro n
  induction n with
  |zero=>intro hc out rest hn;omega
  |succ n ih =>
   intro hc out rest hn CC hr hcH zo zr lo lr ho MB
   rw[uz]
   cases hb:Nat.blt rest.length q.length with
   |true =>
    have bH:=Dt.1 hb
    rw[cond_true]
    have e:aU (pD (p.length+1-q.length) (coef out))=out:=by
     rw[←qP zo]
     refine oC (fun i => ?_)
     rw[qP zo]
     exact A5 (fun i hi=>gg (by omega)) i
    have ht:=Trim (k:=H+b) (pD (p.length+1-q.length) (coef out)) (by rw[fZ];omega) (pC (fun i=>by
     rw[A5 (fun i hi=>gg (by omega))];exact ho i)) (by omega)
    rw[e] at ht
    exact nA.dw _ _ _ _ _ _ _ (by rw[bf,bf];exact bH) (by rw[bf,fZ]) ht rfl
   |false =>
    have hle:=A6.1 hb
    rw[cond_false]
    have IN:rest≠[]:=by intro e;rw[e] at hle;simp at hle;exact sL hle
    have Yn:=Ez hr CC
    have Pc:∀i,ht (coef rest i)≤hc:=fun i=>by have:=hr.ht i;omega
    have Wv:=uU Bj (by omega) hle
    have e1:rest.length+1-q.length=(rest.length-q.length)+1:=by omega
    have e2:((sP rest q).length+1-q.length)*(b+1)≤(rest.length-q.length)*(b+1):=Nat.mul_le_mul_right _ (by omega)
    rw[e1,Nat.add_mul,Nat.one_mul] at hcH
    have ON:ht (stepC rest q)≤hc+b:=by
     have:=kS (cb rest) (cb q)
     unfold stepC;omega
    have hdiv:=QF.Div (cb rest) (cb q) (by omega) (by omega) Bj
    have cc:∀i,coef (aU (ft out (jP (rest.length-q.length) [stepC rest q]))) i=if i=rest.length-q.length then stepC rest q else coef out i:=by
     intro i
     rw[dV,km,nC]
     by_cases h3:i=rest.length-q.length
     ·rw[if_pos h3,if_neg (by omega),MB i (by omega),h3,Nat.sub_self,qh,Rat.zero_add]
     ·rw[if_neg h3]
      split
      ·rw[Rat.add_zero]
      ·rw[gg (p:=[stepC rest q]) (by simp;omega),Rat.add_zero]
    refine nA.l10 _ _ _ _ _ _ (rest.length-1) (aE (cb rest)) (aE (stepC rest q)) none (rest.length-q.length) (by rw[bf,bf];exact hle) (by rw[bf,bf];unfold aw;omega) (by rw[bf];unfold aw;omega) (by rw[bf];omega) (by rw[bf];omega) (getM (getTop IN)) hdiv (by rw[bf,bf];omega) (by omega) (by rw[bf,fZ];omega) ?_
    rw[Ax (f:=coef (aU (ft out (jP (rest.length-q.length) [stepC rest q])))) (by omega) (by rw[cc,if_pos rfl]) (fun i hi=>by rw[cc,if_neg hi])]
    have next:=ih (hc+b+1) (aU (ft out (jP (rest.length-q.length) [stepC rest q]))) (sP rest q) (by omega) (by omega) (hr.step hq Bj) (by omega) (bj _) (bj _) (wY (fun i hi=>by
     rw[←dV,cc,if_neg (by omega),gg (by omega)])) (by omega) (fun i=>by
     rw[cc]
     split
     ·omega
     ·exact ho i) (fun i hi=>by rw[cc,if_neg (by omega)];exact MB i (by omega))
    have inner:∀(j t:Nat),q.length-t=j→t≤q.length→nA.cz (q.map aE) (rest.map aE).length (p.length+1-q.length) (((rest.map aE).length:Int)-((q.map aE).length:Int)) t (aE (cb q)) (aE (stepC rest q)) ((pD rest.length (fun i=>coef rest i-if rest.length-q.length≤i∧i<rest.length-q.length+t then stepC rest q*coef q (i-(rest.length-q.length)) else 0)).map aE) ((pD (p.length+1-q.length) (coef (aU (ft out (jP (rest.length-q.length) [stepC rest q]))))).map aE)
      (.aB [pq (uz n (aU (ft out (jP (rest.length-q.length) [stepC rest q]))) (sP rest q) q).1,pq (uz n (aU (ft out (jP (rest.length-q.length) [stepC rest q]))) (sP rest q) q).2]):=by
     intro j
     induction j with
     |zero =>
      intro t hj ht
      have e:aU (pD rest.length (fun i=>coef rest i-if rest.length-q.length≤i∧i<rest.length-q.length+t then stepC rest q*coef q (i-(rest.length-q.length)) else 0))=sP rest q:=by
       refine oC (fun i => ?_)
       rw[km,nC,ck]
       by_cases hi:i<rest.length
       ·rw[sl (lQ _ hi)]
        by_cases h3:i<rest.length-q.length
        ·rw[if_neg (by omega),if_pos h3];grind
        ·rw[if_pos (by omega),if_neg h3];grind
       ·rw[gg (p:=pD _ _) (by rw[fZ];omega),gg (p:=rest) (by omega),if_neg (by omega),gg (p:=q) (by omega)];grind
      have Yv:=Ui (k:=2*hc+2*b+1) (pD rest.length (fun i=>coef rest i-if rest.length-q.length≤i∧i<rest.length-q.length+t then stepC rest q*coef q (i-(rest.length-q.length)) else 0)) (by rw[fZ];omega) (pC (fun i=>by
       by_cases hi:i<rest.length
       ·rw[sl (lQ _ hi)]
        have a1:=Pc i
        have a2:=hqc (i-(rest.length-q.length))
        have a3:=dP (stepC rest q) (coef q (i-(rest.length-q.length)))
        have a4:=oN (coef rest i) (stepC rest q*coef q (i-(rest.length-q.length)))
        split
        ·omega
        ·rw[show coef rest i-0=coef rest i from by grind];omega
       ·rw[gg (p:=pD _ _) (by rw[fZ];omega),jF];omega)) (by omega)
      rw[e] at Yv
      exact nA.AR _ _ _ _ _ _ _ _ _ _ _ (by rw[bf];omega) (by rw[bf,bf,fZ]) Yv next
     |succ j W0 =>
      intro t hj ht
      obtain⟨w,hw⟩:∃w,q[t]? = some w:=⟨_,List.getElem?_eq_getElem (by omega)⟩
      have hwc:=sl hw
      have a2:=hqc t
      rw[hwc] at a2
      have a1:=Pc (rest.length-q.length+t)
      have a3:=dP (stepC rest q) w
      have hg:rest.length-q.length+t<rest.length:=by omega
      refine nA.xl _ _ _ _ _ _ _ _ _ (aE w) (rest.length-q.length+t) (aE (coef rest (rest.length-q.length+t))) _ _ (rest.length-q.length+t) (by rw[bf];omega) (getM hw) (by rw[bf,bf];unfold aw;omega) (by rw[bf,bf];omega) (by rw[bf];omega) ?_ (QF.Mul _ _ (by omega) (by omega)) (QF.Sub (coef rest (rest.length-q.length+t)) (stepC rest q*w) (by omega) (by omega)) (by rw[bf,bf];omega) (by rw[bf];omega) (by rw[bf,fZ];omega) (by omega) ?_
      ·rw[getM (lQ _ hg),if_neg (by omega)]
       congr 2;grind
      ·rw[Ax (f:=fun i=>coef rest i-if rest.length-q.length≤i∧i<rest.length-q.length+(t+1) then stepC rest q*coef q (i-(rest.length-q.length)) else 0) hg (by
        rw[if_pos (by omega),show rest.length-q.length+t-(rest.length-q.length)=t from by omega,hwc]) (fun i hi=>by
        by_cases h:rest.length-q.length≤i∧i<rest.length-q.length+t
        ·rw[if_pos h,if_pos (by omega)]
        ·rw[if_neg h,if_neg (by omega)])]
       exact W0 (t+1) (by omega) (by omega)
    have:=inner _ 0 rfl (by omega)
    have e0:(pD rest.length (fun i=>coef rest i-if rest.length-q.length≤i∧i<rest.length-q.length+0 then stepC rest q*coef q (i-(rest.length-q.length)) else 0))=rest:=by
     refine List.ext_getElem? (fun i => ?_)
     by_cases hi:i<rest.length
     ·rw[lQ _ hi,qQ hi,if_neg (by omega)]
      congr 1;grind
     ·rw[List.getElem?_eq_none (by rw[fZ];omega),List.getElem?_eq_none (by omega)]
    rwa[e0] at this
 have bH:=lC p
 have hmul:((aU p).length+1-q.length)*(b+1)≤(p.length+1-q.length)*(b+1):=Nat.mul_le_mul_right _ (by omega)
 have:=loop (p.length+1) h [] (aU p) (by omega) h1 hp.trim (by omega) rfl (bj p) (by simp) bH (fun i=>by rw[pB,jF];omega) (fun i _=>rfl)
 have Yv:=Ui (k:=h) p (by omega) (hp.fl h1) (by omega)
 refine nA.e0 _ _ _ _ (p.length+1-q.length) (q.length-1) (aE (cb q)) Yv (by rw[bf,bf];unfold aw;omega) (by rw[bf,bf];unfold aw;omega) (by rw[bf,bf];omega) (by omega) (by rw[bf];unfold aw;omega) (by rw[bf];omega) (getM (getTop sL)) ?_
 rw[Er]
 exact this
theorem dx{h:Nat}(p:List Rat)(hz:aJ p=false)(hp:Ch h p)(h1:1≤h)(hl:p.length≤10000)(hk:3*h+3≤68719476736):Cp 156 [pq p] (pq (cr p)):=by
 by_cases h0:p=[]
 ·subst h0;exact BW.e0 _ rfl
 ·have Bj:=eH hz h0
  have htp:=Ez hp h1
  have mc:=List.length_pos_iff.2 h0
  have l5:=qC.Of 1 (by unfold aw;omega)
  have z1:ht ((1:Int):Rat)=1:=by decide
  have hd:=QF.Div ((1:Int):Rat) (cb p) (by omega) (by omega) Bj
  have b1:=kS ((1:Int):Rat) (cb p)
  have Gd:=plus (a:=1) (d:=h+1) [] p (((1:Int):Rat)/cb p) (by simp) (by omega) (fun x hx=>by cases hx) (hp.fl h1) (by omega) (by omega) h1 (by omega)
  have e:aU (ft [] (bn (((1:Int):Rat)/cb p) p))=cr p:=rfl
  rw[e] at Gd
  exact BW.e1 _ _ (p.length-1) _ _ none _ (by rw[bf];omega) l5 (by rw[bf];unfold aw;omega) (by rw[bf];omega) (getM (getTop h0)) hd Gd
theorem gcd{a b N i j:Nat}(ha:1≤a)(dK:a≤b)(hN:N≤1000)(hk:4*xB a b (N+2)+10≤68719476736)(p q:List Rat)(e:su a b N i j p q)(hl:p.length≤10000):Cp 154 [pq p,pq q] (pq (bF p q)):=by
 have hx:xB a b (N+2)=xB a b N+2*(xB a b (N+1)+1):=rfl
 have x1:∀j,1≤xB a b j:=fun j=>Nat.le_trans ha (cv a b dK (i:=0) (Nat.zero_le _))
 have loop:∀(n i j:Nat) (p q:List Rat),q.length<n→su a b N i j p q→p.length≤10000→eS.aj (p.map aE) (q.map aE) (pq (cr (fa n p q))):=by
  intro n
  induction n with
  |zero=>intro i j p q hn;omega
  |succ n ih =>
   intro i j p q hn e hl
   have hi:=e.idx
   have Bh:=e.lt
   rw[fa]
   by_cases h:q.length=0
   ·rw[beq_iff.2 h,cond_true]
    have:=cv a b dK (i:=i) (j:=N+1) (by omega)
    exact eS.dw _ _ _ (by rw[bf];omega) (dx p e.zp e.hp (x1 i) hl (by omega))
   ·have dk:q≠[]:=fun e=>h (by rw[e];rfl)
    rw[eL.2 h,cond_false]
    obtain⟨r1,r2⟩:=e.rest dK dk
    have hz:=b8 p q
    have hlen:=e.len
    have PX:=e.bound
    have b1:=cv a b dK (i:=j+(p.length-q.length)) (j:=N+1) (by omega)
    have hd:=j9 p q e.zq dk e.hp e.hq (x1 i) (x1 j) hl (by omega) (by
     obtain⟨j',rfl⟩:∃j',j=j'+1:=⟨j-1,by omega⟩
     obtain⟨d,hd⟩:∃d,p.length-q.length=d+1:=⟨p.length-q.length-1,by omega⟩
     have h2:=cv a b dK (i:=i) (j:=j') (by omega)
     have h3:=rl a b dK j' d
     have h4:=cv a b dK (i:=j'+1+(d+1)) (j:=N+1) (by omega)
     have h5:=cv a b dK (i:=j'+1) (j:=N) (by omega)
     rw[show p.length+1-q.length=d+2 from by omega]
     omega)
    have hm:=dx (a7 p q) hz r1 (x1 _) (by omega) (by omega)
    exact eS.l10 _ _ _ _ _ (by rw[bf];omega) hd hm (ih _ _ q _ (by rw[aY hz];omega) (e.next dK dk (r1.dx (x1 _) hz) (by rw[aY hz];exact r2) (bO _)) (by omega))
 exact eS.e0 _ _ (loop (q.length+1) i j p q (Nat.lt_succ_self _) e hl)
end qG
namespace ui
theorem j9{h b:Nat}(p q:List Rat)(hz:aJ q=false)(sL:q≠[])(hp:Ch h p)(hq:Ch b q)(h1:1≤h)(mO:1≤b)(By:p.length≤10000)(Yu:q.length≤10000)(hk:2*(h+(p.length+1-q.length)*(b+1))+3*b+5≤68719476736):Cp 160 [pq p,pq q] (.aB [pq (et p q).1,pq (et p q).2]):=by
 have D2:=List.length_pos_iff.2 sL
 have Wz:=Ez hq mO
 have Bj:=eH hz sL
 obtain⟨H,hH⟩:∃H,H=h+(p.length+1-q.length)*(b+1):=⟨_,rfl⟩
 rw[←hH] at hk
 have l5:=tj.Of 1 (by unfold aw;omega)
 have loop:∀(n hc:Nat) (out rest:List Rat),rest.length<n→1≤hc→Ch hc rest→hc+(rest.length+1-q.length)*(b+1)≤H→out.length≤p.length+1-q.length→rest.length≤p.length→(∀i,ht (coef out i)≤H+b)→(∀i,i+q.length≤rest.length→coef out i=0) →
   kB.aj (q.map aE) (out.map aE) (rest.map aE) (.aB [pq (uz n out rest q).1,pq (uz n out rest q).2]):=by
  intro n
  induction n with
  |zero=>intro hc out rest hn;omega
  |succ n ih =>
   intro hc out rest hn CC hr hcH lo lr ho MB
   rw[uz]
   cases hb:Nat.blt rest.length q.length with
   |true =>
    have bH:=Dt.1 hb
    rw[cond_true]
    exact kB.dw _ _ _ (by rw[bf,bf];exact bH)
   |false =>
    have hle:=A6.1 hb
    rw[cond_false]
    have IN:rest≠[]:=by intro e;rw[e] at hle;simp at hle;exact sL hle
    have Yn:=Ez hr CC
    have Wv:=uU Bj (by omega) hle
    have e1:rest.length+1-q.length=(rest.length-q.length)+1:=by omega
    have e2:((sP rest q).length+1-q.length)*(b+1)≤(rest.length-q.length)*(b+1):=Nat.mul_le_mul_right _ (by omega)
    rw[e1,Nat.add_mul,Nat.one_mul] at hcH
    have ON:ht (stepC rest q)≤hc+b:=by
     have:=kS (cb rest) (cb q)
     unfold stepC;omega
    have hdiv:=QR.Div (cb rest) (cb q) (by omega) (by omega) Bj
    have cc:∀i,coef (aU (ft out (jP (rest.length-q.length) [stepC rest q]))) i=if i=rest.length-q.length then stepC rest q else coef out i:=by
     intro i
     rw[dV,km,nC]
     by_cases h3:i=rest.length-q.length
     ·rw[if_pos h3,if_neg (by omega),MB i (by omega),h3,Nat.sub_self,qh,Rat.zero_add]
     ·rw[if_neg h3]
      split
      ·rw[Rat.add_zero]
      ·rw[gg (p:=[stepC rest q]) (by simp;omega),Rat.add_zero]
    have p1:=plus (b:=hc+b) (d:=1) out [stepC rest q] ((1:Int):Rat) (rest.length-q.length) (by omega) (by simp;omega) (pC ho) (fun x hx=>by rw[List.mem_singleton.1 hx];exact ON) (by decide) (by omega) (by omega) (by omega)
    have q1:aU (ft out (jP (rest.length-q.length) (bn ((1:Int):Rat) [stepC rest q])))=aU (ft out (jP (rest.length-q.length) [stepC rest q])):=by
     rw[show ((1:Int):Rat)=1 from rfl,xV]
    rw[q1] at p1
    have An:=QR.Neg (stepC rest q) (by omega)
    have p2:=plus (d:=hc+b) rest q (-(stepC rest q)) (rest.length-q.length) (by omega) (by omega) (hr.fl CC) (hq.fl mO) (by rw[qB];exact ON) CC mO (by omega)
    have Uj:((rest.map aE).length:Int)-((q.map aE).length:Int)=((rest.length-q.length:Nat):Int):=by rw[bf,bf];omega
    have next:=ih (hc+b+1) (aU (ft out (jP (rest.length-q.length) [stepC rest q]))) (sP rest q) (by omega) (by omega) (hr.step hq Bj) (by omega) (wY (fun i hi=>by
     rw[←dV,cc,if_neg (by omega),gg (by omega)])) (by omega) (fun i=>by
     rw[cc]
     split
     ·omega
     ·exact ho i) (fun i hi=>by rw[cc,if_neg (by omega)];exact MB i (by omega))
    exact kB.l10 _ _ _ (rest.length-1) (aE (cb rest)) (q.length-1) (aE (cb q)) (aE (stepC rest q)) _ _ _ _ _ (by rw[bf,bf];exact hle) (by rw[bf];unfold aw;omega) (by rw[bf];omega) (getM (getTop IN)) (by rw[bf];unfold aw;omega) (by rw[bf];omega) (getM (getTop sL)) hdiv (by rw[bf,bf];unfold aw;omega) l5 (by rw[Uj];exact p1) An (by rw[Uj];exact p2) next
 have bH:=lC p
 have hmul:((aU p).length+1-q.length)*(b+1)≤(p.length+1-q.length)*(b+1):=Nat.mul_le_mul_right _ (by omega)
 have:=loop (p.length+1) h [] (aU p) (by omega) h1 hp.trim (by omega) (by simp) bH (fun i=>by rw[pB,jF];omega) (fun i _=>rfl)
 exact kB.e0 _ _ _ (Trim (k:=h) p (by omega) (hp.fl h1) (by omega)) this
theorem dx{h:Nat}(p:List Rat)(hz:aJ p=false)(hp:Ch h p)(h1:1≤h)(hl:p.length≤10000)(hk:3*h+3≤68719476736):Cp 163 [pq p] (pq (cr p)):=by
 by_cases h0:p=[]
 ·subst h0;exact qy.e0 _ rfl
 ·have Bj:=eH hz h0
  have htp:=Ez hp h1
  have mc:=List.length_pos_iff.2 h0
  have l5:=tj.Of 1 (by unfold aw;omega)
  have z1:ht ((1:Int):Rat)=1:=by decide
  have hd:=QR.Div ((1:Int):Rat) (cb p) (by omega) (by omega) Bj
  have b1:=kS ((1:Int):Rat) (cb p)
  have Gd:=plus (a:=1) (d:=h+1) [] p (((1:Int):Rat)/cb p) 0 (by simp) (by omega) (fun x hx=>by cases hx) (hp.fl h1) (by omega) (by omega) h1 (by omega)
  have e:aU (ft [] (jP 0 (bn (((1:Int):Rat)/cb p) p)))=cr p:=rfl
  rw[e] at Gd
  exact qy.e1 _ _ (p.length-1) _ _ _ _ (by rw[bf];omega) l5 (by rw[bf];unfold aw;omega) (by rw[bf];omega) (getM (getTop h0)) hd Gd
theorem gcd{a b N i j:Nat}(ha:1≤a)(dK:a≤b)(hN:N≤1000)(hk:4*xB a b (N+2)+10≤68719476736)(p q:List Rat)(e:su a b N i j p q)(hl:p.length≤10000):Cp 161 [pq p,pq q] (pq (bF p q)):=by
 have hx:xB a b (N+2)=xB a b N+2*(xB a b (N+1)+1):=rfl
 have x1:∀j,1≤xB a b j:=fun j=>Nat.le_trans ha (cv a b dK (i:=0) (Nat.zero_le _))
 have loop:∀(n i j:Nat) (p q:List Rat),q.length<n→su a b N i j p q→p.length≤10000→bA.aj (p.map aE) (q.map aE) (pq (fa n p q)):=by
  intro n
  induction n with
  |zero=>intro i j p q hn;omega
  |succ n ih =>
   intro i j p q hn e hl
   have hi:=e.idx
   have Bh:=e.lt
   rw[fa]
   by_cases h:q.length=0
   ·rw[beq_iff.2 h,cond_true]
    exact bA.dw _ _ (by rw[bf];omega)
   ·have dk:q≠[]:=fun e=>h (by rw[e];rfl)
    rw[eL.2 h,cond_false]
    obtain⟨r1,r2⟩:=e.rest dK dk
    have hz:=b8 p q
    have hlen:=e.len
    have PX:=e.bound
    have b1:=cv a b dK (i:=j+(p.length-q.length)) (j:=N+1) (by omega)
    have hd:=j9 p q e.zq dk e.hp e.hq (x1 i) (x1 j) hl (by omega) (by
     obtain⟨j',rfl⟩:∃j',j=j'+1:=⟨j-1,by omega⟩
     obtain⟨d,hd⟩:∃d,p.length-q.length=d+1:=⟨p.length-q.length-1,by omega⟩
     have h2:=cv a b dK (i:=i) (j:=j') (by omega)
     have h3:=rl a b dK j' d
     have h4:=cv a b dK (i:=j'+1+(d+1)) (j:=N+1) (by omega)
     have h5:=cv a b dK (i:=j'+1) (j:=N) (by omega)
     rw[show p.length+1-q.length=d+2 from by omega]
     omega)
    have hm:=dx (a7 p q) hz r1 (x1 _) (by omega) (by omega)
    exact bA.l10 _ _ _ _ _ (by rw[bf];omega) hd hm (ih _ _ q _ (by rw[aY hz];omega) (e.next dK dk (r1.dx (x1 _) hz) (by rw[aY hz];exact r2) (bO _)) (by omega))
 have UO:=dx p e.zp e.hp (x1 i) hl (by have:=cv a b dK (i:=i) (j:=N+1) (by have:=e.idx;have:=e.lt;omega);omega)
 have SL:=dx q e.zq e.hq (x1 j) (by have:=e.len;omega) (by have:=cv a b dK (i:=j) (j:=N+1) (by have:=e.idx;omega);omega)
 refine bA.e0 _ _ _ _ UO SL ?_
 have e':su a b N i j (cr p) (cr q):=⟨e.hp.dx (x1 i) e.zp,e.hq.dx (x1 j) e.zq,e.lt,by rw[aY e.zp,aY e.zq];exact e.len,by rw[aY e.zp];exact e.bound,bO _,bO _⟩
 have:=loop (q.length+1) i j (cr p) (cr q) (by rw[aY e.zq];omega) e' (by rw[aY e.zp];exact hl)
 rwa[Du p q e.zp e.zq] at this
end ui
def fB(h L:Nat):Nat:=L*(h+(L+1)*(xB h (h+1) (L+1)+1)+xB h (h+1) (L+1))+1
def sB(h L:Nat):Nat:=xB (fB h L) (fB h L+1) (L+1)
structure cH (h L:Nat) (p:List Rat):Prop where
 zp:aJ p=false
 ne:p≠[]
 len:p.length≤L
 ch:Ch h p
 h1:1≤h
 hL:L≤10
 sz:sB h L≤1073741824
theorem sw{a b:Nat}(ha:1≤a)(dK:a≤b)(j:Nat):1≤xB a b j:=Nat.le_trans ha (cv a b dK (i:=0) (Nat.zero_le _))
section
variable {h L:Nat} {p:List Rat}
theorem cH.pos(f:cH h L p):1≤L:=by have:=List.length_pos_iff.2 f.ne;have:=f.len;omega
theorem cH.kN(f:cH h L p):Sym.kN (p.map aE)=0:=cE f.zp (by have:=f.len;have:=f.hL;omega)
theorem cH.fb(f:cH h L p):xB h (h+1) (L+1)≤fB h L∧h+(L+1)*(xB h (h+1) (L+1)+1)+xB h (h+1) (L+1)≤fB h L∧1≤fB h L∧fB h L≤1073741824∧h≤fB h L:=by
 have hL:=f.pos
 have h1:1*(h+(L+1)*(xB h (h+1) (L+1)+1)+xB h (h+1) (L+1))≤L*(h+(L+1)*(xB h (h+1) (L+1)+1)+xB h (h+1) (L+1)):=Nat.mul_le_mul_right _ hL
 have h2:=cv (fB h L) (fB h L+1) (Nat.le_succ _) (i:=0) (j:=L+1) (Nat.zero_le _)
 have h3:=f.sz
 have h4:xB (fB h L) (fB h L+1) 0=fB h L:=rfl
 have h5:sB h L=xB (fB h L) (fB h L+1) (L+1):=rfl
 have h6:fB h L=L*(h+(L+1)*(xB h (h+1) (L+1)+1)+xB h (h+1) (L+1))+1:=rfl
 refine⟨?_,?_,?_,?_,?_⟩<;>omega
theorem cH.Tt(f:cH h L p):su h (h+1) L 0 1 p (ar p):=⟨f.ch,f.ch.derive (by have:=f.len;have:=f.hL;omega),by omega,jB f.ne,by have:=f.len;omega,f.zp,bc p⟩
theorem cH.x2(f:cH h L p):4*xB h (h+1) (L+2)+10≤68719476736:=by
 obtain⟨h1,h2,h3,h4,h5⟩:=f.fb
 have e:xB h (h+1) (L+2)=xB h (h+1) L+2*(xB h (h+1) (L+1)+1):=rfl
 have:=Kg h (h+1) (Nat.le_succ _) L
 omega
theorem cH.Ni(f:cH h L p):Ch (xB h (h+1) (L+1)) (bF p (ar p)):=by
 have:=OL f.h1 (Nat.le_succ h) ((ar p).length+1) 0 1 p (ar p) f.Tt
 exact this.dx (sw f.h1 (Nat.le_succ h) _) (kO _ _ _ f.zp (bc p))
theorem cH.Aw(f:cH h L p):bF p (ar p)≠[]:=F4 _ f.zp (bc p) f.ne
theorem cH.RT(f:cH h L p):2*(h+(p.length+1-(bF p (ar p)).length)*(xB h (h+1) (L+1)+1))+3*xB h (h+1) (L+1)+5≤68719476736:=by
 obtain⟨h1,h2,h3,h4,h5⟩:=f.fb
 have hl:=f.len
 have:(p.length+1-(bF p (ar p)).length)*(xB h (h+1) (L+1)+1)≤(L+1)*(xB h (h+1) (L+1)+1):=Nat.mul_le_mul_right _ (by omega)
 omega
theorem cH.Dj(f:cH h L p):(bF p (ar p)).length≤p.length:=((gR p (ar p) f.zp (bc p)).1.len (gD _ _) f.zp f.ne).2
theorem cH.Dz(f:cH h L p):(et p (bF p (ar p))).1.length≤p.length:=by
 have:=qS (p:=p) (gD p (ar p)) f.Aw
 have:=List.length_pos_iff.2 f.Aw
 omega
theorem cH.Kk(f:cH h L p):Ch (fB h L) (et p (bF p (ar p))).1:=by
 have hq:=tK f.ch f.Ni f.h1 (sw f.h1 (Nat.le_succ h) _) (gD _ _) f.Aw
 have hl:=f.len
 have h1:(p.length+1-(bF p (ar p)).length)*(xB h (h+1) (L+1)+1)≤(L+1)*(xB h (h+1) (L+1)+1):=Nat.mul_le_mul_right _ (by omega)
 have h2:=Ch.uH (cL hq (show _≤h+(L+1)*(xB h (h+1) (L+1)+1)+xB h (h+1) (L+1) by omega))
 refine h2.mono ?_
 have h3:(et p (bF p (ar p))).1.length*(h+(L+1)*(xB h (h+1) (L+1)+1)+xB h (h+1) (L+1))≤L*(h+(L+1)*(xB h (h+1) (L+1)+1)+xB h (h+1) (L+1)):=Nat.mul_le_mul_right _ (by have:=f.Dz;omega)
 unfold fB
 omega
theorem cH.o0(f:cH h L p):Ch (fB h L) (aM p):=f.Kk.dx f.fb.2.2.1 (me _ _).1
theorem cH.jS(f:cH h L p):(aM p).length≤p.length:=by
 unfold aM
 rw[aY (me _ _).1];exact f.Dz
theorem cH.ni(f:cH h L p):su (fB h L) (fB h L+1) L 0 1 (aM p) (ar (aM p)):=by
 obtain⟨f1,f2,_⟩:=free_spec f.zp f.ne
 have:=f.jS
 have:=f.len
 have:=f.hL
 exact⟨f.o0,f.o0.derive (by omega),by omega,jB f2,by omega,f1,bc _⟩
theorem LQ{a b N:Nat}(ha:1≤a)(dK:a≤b):∀(n i j:Nat) (p d:List Rat),su a b N i j p d→∀g∈chainF n p d,Ch (xB a b (N+1)) g∧g.length≤p.length
 |0,i,j,p,d,e,g,hg=>by
  rw[chainF,List.mem_singleton] at hg
  rw[hg]
  exact⟨e.hp.mono (cv a b dK (by have:=e.idx;have:=e.lt;omega)),Nat.le_refl _⟩
 |n+1,i,j,p,d,e,g,hg=>by
  have hp:Ch (xB a b (N+1)) p:=e.hp.mono (cv a b dK (by have:=e.idx;have:=e.lt;omega))
  by_cases h:d=[]
  ·rw[h,fc,List.mem_singleton] at hg
   rw[hg];exact⟨hp,Nat.le_refl _⟩
  ·rw[eb h] at hg
   rcases List.mem_cons.1 hg with hg|hg
   ·rw[hg];exact⟨hp,Nat.le_refl _⟩
   ·obtain⟨r1,r2⟩:=e.rest dK h
    have hc:Ch (xB a b (j+(p.length-d.length))) (aU (bn (-1) (a7 p d))):=by
     refine Ch.trim ?_
     obtain⟨D,d1,d2,d3⟩:=r1
     refine⟨D,d1,d2,fun i => ?_⟩
     obtain⟨m,m1,m2⟩:=d3 i
     refine⟨-m,?_,by rw[kC];exact m2⟩
     rw[ck,Rat.intCast_neg,←m1];grind
    have:=LQ ha dK n _ _ d _ (e.next dK h hc (eM e.zq h) (bj _)) g hg
    exact⟨this.1,by have:=e.len;omega⟩
theorem cH.chain(f:cH h L p):∀g∈aG p,Fl 1073741824 g∧g.length≤10:=by
 intro g hg
 have hf:=f.fb
 obtain⟨h1,h2⟩:=LQ hf.2.2.1 (Nat.le_succ _) (aM p).length 0 1 _ _ f.ni g hg
 have h3:=f.sz
 have h4:=f.jS
 have h5:=f.len
 have h6:=f.hL
 exact⟨cL (h1.fl (sw hf.2.2.1 (Nat.le_succ _) _)) h3,by omega⟩
theorem cH.gB(f:cH h L p):(aG p).length≤11:=by
 have h1:=B9 (aM p).length (aM p) (ar (aM p))
 have h2:=f.jS
 have h3:=f.len
 have h4:=f.hL
 have h5:(aG p).length≤(aM p).length+1:=h1
 omega
end
theorem Ay:∀(l:Int) (r:List Int),0≤varS l r∧varS l r≤r.length
 |_,[]=>⟨Int.le_refl _,Int.le_refl _⟩
 |l,s::r=>by
  rw[varS]
  obtain⟨a,b⟩:=Ay l r
  obtain⟨c,d⟩:=Ay s r
  rw[List.length_cons]
  split
  ·omega
  ·split<;>omega
theorem dU(G:List (List Rat))(x:Rat):0≤fR G x∧fR G x≤G.length:=by
 have:=Ay 0 (G.map (fun g=>sg (evalL g x)))
 rw[List.length_map] at this
 exact this
abbrev w9(G:List (List Rat)):PV:=bq (an ah.cells) (G.map (fun g=>g.map aE))
theorem qG.ud{h L:Nat}{p:List Rat}(f:cH h L p):Cp 76 [pq p] (.aB [pq (aM p),.aq]):=by
 have hl:=f.len
 have hL:=f.hL
 have hf:=f.fb
 have FH:=f.ch.fl f.h1
 have kJ:=uh.Check (p.map aE) (mw FH (by omega))
 rw[f.kN] at kJ
 have hd:=uh.derive (p.map aE) (by rw[bf];omega) (db (cL FH (by omega)))
 rw[cO] at hd
 have hp:=List.length_pos_iff.2 f.ne
 have hg:=qG.gcd f.h1 (Nat.le_succ h) (by omega) f.x2 p (ar p) f.Tt (by omega)
 have FD:=qG.j9 p (bF p (ar p)) (gD _ _) f.Aw f.ch f.Ni f.h1 (sw f.h1 (Nat.le_succ h) _) (by omega) (by have:=f.Dj;omega) f.RT
 have hm:=qG.dx (et p (bF p (ar p))).1 (me _ _).1 f.Kk hf.2.2.1 (by have:=f.Dz;omega) (by omega)
 exact I5.e1 _ _ _ _ _ _ kJ (by rw[bf];omega) hd hg FD hm
theorem ui.ud{h L:Nat}{p:List Rat}(f:cH h L p):Cp 78 [pq p] (.aB [pq (aM p),vI 0]):=by
 have hl:=f.len
 have hL:=f.hL
 have hf:=f.fb
 have FH:=f.ch.fl f.h1
 have kJ:=zJ.Check (p.map aE) (mw FH (by omega))
 rw[f.kN] at kJ
 have hd:=zJ.derive (p.map aE) (by rw[bf];omega) (db (cL FH (by omega)))
 rw[cO] at hd
 have hp:=List.length_pos_iff.2 f.ne
 have hg:=ui.gcd f.h1 (Nat.le_succ h) (by omega) f.x2 p (ar p) f.Tt (by omega)
 have FD:=ui.j9 p (bF p (ar p)) (gD _ _) f.Aw f.ch f.Ni f.h1 (sw f.h1 (Nat.le_succ h) _) (by omega) (by have:=f.Dj;omega) f.RT
 have hm:=ui.dx (et p (bF p (ar p))).1 (me _ _).1 f.Kk hf.2.2.1 (by have:=f.Dz;omega) (by omega)
 exact vt.e2 _ _ _ _ _ _ _ kJ rfl (by rw[bf];omega) hd hg FD hm
theorem mf{p q:List ah}(hp:kN p=0)(hq:kN q=0):rG p q=0:=by unfold rG;rw[if_pos hp];exact hq
theorem qG.next{a b N i j:Nat}(ha:1≤a)(dK:a≤b)(hN:N≤60)(hk:4*xB a b (N+2)+10≤68719476736){p d:List Rat}(e:su a b N i j p d)(h:d≠[]):Cp 236 [pq p,pq d] (.aB [pq (et p d).1,pq (a7 p d),.aq])∧Cp 237 [pq (a7 p d),(aE ((-1:Int):Rat)).pv] (.aB [pq (aU (bn (-1) (a7 p d))),.aq]):=by
 have x1:∀j,1≤xB a b j:=sw ha dK
 have hi:=e.idx
 have Bh:=e.lt
 have hlen:=e.len
 have PX:=e.bound
 obtain⟨r1,r2⟩:=e.rest dK h
 have hx:xB a b (N+2)=xB a b N+2*(xB a b (N+1)+1):=rfl
 have b0:=cv a b dK (i:=i) (j:=N+1) (by omega)
 have b1:=cv a b dK (i:=j+(p.length-d.length)) (j:=N+1) (by omega)
 have b2:=cv a b dK (i:=j) (j:=N+1) (by omega)
 have hcp:=cE e.zp (by omega)
 have Tu:=cE e.zq (by omega)
 have hzr:=b8 p d
 have H8:=cE hzr (by omega)
 constructor
 ·have kJ:=qG.jR (p.map aE) (d.map aE) (mw (e.hp.fl (x1 i)) (by omega)) (mw (e.hq.fl (x1 j)) (by omega))
  rw[mf hcp Tu] at kJ
  have hd:=qG.j9 p d e.zq h e.hp e.hq (x1 i) (x1 j) (by omega) (by omega) (by
   obtain⟨j',rfl⟩:∃j',j=j'+1:=⟨j-1,by omega⟩
   obtain⟨d',hd⟩:∃d',p.length-d.length=d'+1:=⟨p.length-d.length-1,by omega⟩
   have h2:=cv a b dK (i:=i) (j:=j') (by omega)
   have h3:=rl a b dK j' d'
   have h4:=cv a b dK (i:=j'+1+(d'+1)) (j:=N+1) (by omega)
   rw[show p.length+1-d.length=d'+2 from by omega]
   omega)
  have:=List.length_pos_iff.2 h
  exact Lj.e1 _ _ _ _ kJ (by rw[bf];omega) hd
 ·have kJ:=uh.Check ((a7 p d).map aE) (mw (r1.fl (x1 _)) (by omega))
  rw[H8] at kJ
  have hp:=qG.plus (a:=1) (d:=1) [] (a7 p d) ((-1:Int):Rat) (by simp) (by omega) (fun x hx=>by cases hx) (r1.fl (x1 _)) (by decide) (by omega) (x1 _) (by omega)
  exact Hf.e0 _ _ _ kJ hp
theorem ui.next{a b N i j:Nat}(ha:1≤a)(dK:a≤b)(hN:N≤60)(hk:4*xB a b (N+2)+10≤68719476736){p d:List Rat}(e:su a b N i j p d)(h:d≠[]):Cp 242 [pq p,pq d] (.aB [pq (et p d).1,pq (a7 p d),vI 0])∧Cp 243 [pq (a7 p d),(aE ((-1:Int):Rat)).pv] (.aB [pq (aU (bn (-1) (a7 p d))),vI 0]):=by
 have x1:∀j,1≤xB a b j:=sw ha dK
 have hi:=e.idx
 have Bh:=e.lt
 have hlen:=e.len
 have PX:=e.bound
 obtain⟨r1,r2⟩:=e.rest dK h
 have hx:xB a b (N+2)=xB a b N+2*(xB a b (N+1)+1):=rfl
 have b0:=cv a b dK (i:=i) (j:=N+1) (by omega)
 have b1:=cv a b dK (i:=j+(p.length-d.length)) (j:=N+1) (by omega)
 have b2:=cv a b dK (i:=j) (j:=N+1) (by omega)
 have hcp:=cE e.zp (by omega)
 have Tu:=cE e.zq (by omega)
 have hzr:=b8 p d
 have H8:=cE hzr (by omega)
 constructor
 ·have kJ:=ui.both (p.map aE) (d.map aE) (mw (e.hp.fl (x1 i)) (by omega)) (mw (e.hq.fl (x1 j)) (by omega))
  rw[mf hcp Tu] at kJ
  have hd:=ui.j9 p d e.zq h e.hp e.hq (x1 i) (x1 j) (by omega) (by omega) (by
   obtain⟨j',rfl⟩:∃j',j=j'+1:=⟨j-1,by omega⟩
   obtain⟨d',hd⟩:∃d',p.length-d.length=d'+1:=⟨p.length-d.length-1,by omega⟩
   have h2:=cv a b dK (i:=i) (j:=j') (by omega)
   have h3:=rl a b dK j' d'
   have h4:=cv a b dK (i:=j'+1+(d'+1)) (j:=N+1) (by omega)
   rw[show p.length+1-d.length=d'+2 from by omega]
   omega)
  have:=List.length_pos_iff.2 h
  exact wU.e2 _ _ _ _ _ kJ rfl (by rw[bf];omega) hd
 ·have kJ:=zJ.Check ((a7 p d).map aE) (mw (r1.fl (x1 _)) (by omega))
  rw[H8] at kJ
  have hp:=ui.plus (a:=1) (d:=1) [] (a7 p d) ((-1:Int):Rat) 0 (by simp) (by omega) (fun x hx=>by cases hx) (r1.fl (x1 _)) (by decide) (by omega) (x1 _) (by omega)
  exact uF.e1 _ _ _ _ kJ rfl hp
theorem cH.xa{h L:Nat}{p:List Rat}(f:cH h L p):4*xB (fB h L) (fB h L+1) (L+2)+10≤68719476736:=by
 have e:xB (fB h L) (fB h L+1) (L+2)=xB (fB h L) (fB h L+1) L+2*(xB (fB h L) (fB h L+1) (L+1)+1):=rfl
 have h1:=Kg (fB h L) (fB h L+1) (Nat.le_succ _) L
 have h2:=f.sz
 have h3:sB h L=xB (fB h L) (fB h L+1) (L+1):=rfl
 omega
end Go.Proofs.YtllmkadmohkbfaaGreatDoor.Sym
namespace Go.Proofs.YtllmkadmohkbfaaGreatDoor.Sym
open Go Path dE
set_option linter.unusedVariables false
def ptQ(a w:Rat)(k j:Nat):Rat:=a+w*Rat.divInt (j:Int) ((2^k:Nat):Int)
theorem vK(k:Nat):(((2^k:Nat):Int):Rat)≠0:=fun e=>by
 have:=Rat.intCast_inj.1 (show (((2^k:Nat):Int):Rat)=((0:Int):Rat) from e)
 have:=Nat.pow_pos (n:=k) (show 0<2 by omega)
 omega
theorem gS(a w:Rat)(k j:Nat):ptQ a w (k+1) (2*j)=ptQ a w k j:=by
 unfold ptQ
 congr 2
 have h:=vK k
 have h2:=vK (k+1)
 rw[Rat.divInt_eq_div,Rat.divInt_eq_div,Rat.div_def,Rat.div_def]
 have e:(((2^(k+1):Nat):Int):Rat)=(((2^k:Nat):Int):Rat)*2:=by
  rw[show (2:Rat)=((2:Int):Rat) from rfl,←Rat.intCast_mul];congr 1
 have e2:((2*j:Nat):Int)=(j:Int)*2:=by omega
 rw[e,e2,Rat.intCast_mul,show(((2:Int)):Rat)=2 from rfl,Rat.inv_mul_rev]
 have i2:(2:Rat)*2⁻¹=1:=by decide +kernel
 generalize ((((2^k:Nat):Int):Rat))⁻¹=u
 generalize ((j:Int):Rat)=v
 have:v*2*(2⁻¹*u)=v*(2*2⁻¹)*u:=by grind
 rw[this,i2];grind
theorem tu(a w:Rat)(k j:Nat):Rat.divInt 1 2*(ptQ a w k j+ptQ a w k (j+1))=ptQ a w (k+1) (2*j+1):=by
 rw[←gS a w k j,←gS a w k (j+1)]
 unfold ptQ
 rw[Rat.divInt_eq_div,Rat.divInt_eq_div,Rat.divInt_eq_div,Rat.divInt_eq_div,Rat.div_def,Rat.div_def,Rat.div_def,Rat.div_def]
 generalize ((((2^(k+1):Nat):Int):Rat))⁻¹=u
 have e1:((2*j:Nat):Int)=2*(j:Int):=by omega
 have e2:((2*(j+1):Nat):Int)=2*(j:Int)+2:=by omega
 have e3:((2*j+1:Nat):Int)=2*(j:Int)+1:=by omega
 rw[e1,e2,e3,Rat.intCast_add,Rat.intCast_add,Rat.intCast_mul]
 generalize ((j:Int):Rat)=v
 have i2:((1:Int):Rat)*(((2:Int):Rat))⁻¹=1/2:=by decide +kernel
 rw[i2,show((2:Int):Rat)=2 from rfl,show((1:Int):Rat)=1 from rfl]
 grind
theorem Az{w:Rat}(a:Rat)(h:0≤w)(k j:Nat):ptQ a w k j≤ptQ a w k (j+1):=by
 unfold ptQ
 have h2:Rat.divInt (j:Int) ((2^k:Nat):Int)≤Rat.divInt ((j+1:Nat):Int) ((2^k:Nat):Int):=by
  rw[Rat.divInt_eq_div,Rat.divInt_eq_div,Rat.div_def,Rat.div_def]
  refine Rat.mul_le_mul_of_nonneg_right (Rat.intCast_le_intCast.2 (by omega)) (Rat.le_of_lt (Rat.inv_pos.2 ?_))
  have:=Nat.pow_pos (n:=k) (show 0<2 by omega)
  exact Rat.intCast_lt_intCast.2 (show (0:Int)<_ by omega)
 have:=Rat.mul_le_mul_of_nonneg_left h2 h
 grind
theorem RU(k:Nat){j:Nat}(hj:j≤2^k):wl (j:Int)≤k/32+1:=by
 refine oZ ?_
 have h1:2^k<2^(32*(k/32+1)):=Nat.pow_lt_pow_right (by omega) (by omega)
 rw[Nat.pow_mul] at h1
 have h2:(2:Nat)^32=4294967296:=by decide
 rw[h2] at h1
 generalize 4294967296^(k/32+1)=P at h1 ⊢
 omega
theorem jh(a w:Rat){k j:Nat}(hj:j≤2^k):ht (ptQ a w k j)≤ht a+ht w+k/32+4:=by
 have h3:=A2 (j:Int) ((2^k:Nat):Int)
 have h6:=RU k hj
 have h7:=RU k (Nat.le_refl (2^k))
 have h8:=dP w (Rat.divInt (j:Int) ((2^k:Nat):Int))
 have h9:=jg a (w*Rat.divInt (j:Int) ((2^k:Nat):Int))
 unfold ptQ
 omega
theorem DA(a w:Rat)(k j:Nat):ptQ a w k (j+1)-ptQ a w k j=w*Rat.divInt 1 ((2^k:Nat):Int):=by
 unfold ptQ
 rw[Rat.divInt_eq_div,Rat.divInt_eq_div,Rat.divInt_eq_div,Rat.div_def,Rat.div_def,Rat.div_def]
 have e:(((j+1:Nat):Int):Rat)=((j:Int):Rat)+1:=by
  rw[show ((j+1:Nat):Int)=(j:Int)+1 from by omega,Rat.intCast_add];rfl
 have e1:((1:Int):Rat)=1:=rfl
 rw[e,e1]
 generalize ((((2^k:Nat):Int):Rat))⁻¹=u
 grind
theorem iY(a w:Rat):ptQ a w 0 0=a∧ptQ a w 0 1=a+w:=by
 have e0:Rat.divInt ((0:Nat):Int) ((2^0:Nat):Int)=0:=by decide +kernel
 have e1:Rat.divInt ((1:Nat):Int) ((2^0:Nat):Int)=1:=by decide +kernel
 unfold ptQ
 rw[e0,e1]
 constructor<;>grind
def ei(G:List (List Rat))(f:List Rat)(a w:Rat):Nat→Nat→Nat→Option (List (Rat×Rat))
 |0,_,_=>none
 |n+1,k,j=>if fR G (ptQ a w k j)-fR G (ptQ a w k (j+1))=0 then some [] else
  if fR G (ptQ a w k j)-fR G (ptQ a w k (j+1))=1∧evalL f (ptQ a w k j)≠0 then
   (if evalL f (ptQ a w k (j+1))=0 then some [(ptQ a w k (j+1),ptQ a w k (j+1))] else some [(ptQ a w k j,ptQ a w k (j+1))])
  else match ei G f a w n (k+1) (2*j),ei G f a w n (k+1) (2*j+1) with
   |some x,some y=>some (x++y)
   |_,_=>none
theorem x6{G:List (List Rat)}{f:List Rat}{a w:Rat} : ∀(n k j:Nat) (l:List (Rat×Rat)),ei G f a w n k j=some l→(l.length:Int)=fR G (ptQ a w k j)-fR G (ptQ a w k (j+1))
 |0,_,_,_,h=>by cases h
 |n+1,k,j,l,h=>by
  rw[ei] at h
  by_cases h0:fR G (ptQ a w k j)-fR G (ptQ a w k (j+1))=0
  ·rw[if_pos h0] at h;injection h with h;subst h;exact h0.symm
  ·rw[if_neg h0] at h
   by_cases h1:fR G (ptQ a w k j)-fR G (ptQ a w k (j+1))=1∧evalL f (ptQ a w k j)≠0
   ·rw[if_pos h1] at h
    split at h<;>(injection h with h;subst h;exact h1.1.symm)
   ·rw[if_neg h1] at h
    cases hx:ei G f a w n (k+1) (2*j) with
    |none=>rw[hx] at h;cases h
    |some x =>
     cases hy:ei G f a w n (k+1) (2*j+1) with
     |none=>rw[hx,hy] at h;cases h
     |some y =>
      rw[hx,hy] at h
      injection h with h;subst h
      have i1:=x6 n _ _ _ hx
      have i2:=x6 n _ _ _ hy
      rw[gS] at i1
      rw[show 2*j+1+1=2*(j+1) from by omega,gS] at i2
      rw[List.length_append]
      omega
theorem OQ{a w:Rat}(hw:0≤w){k j:Nat} : a≤ptQ a w k j:=by
 unfold ptQ
 have h2:0≤Rat.divInt (j:Int) ((2^k:Nat):Int):=by
  rw[Rat.divInt_eq_div,Rat.div_def]
  refine Rat.mul_nonneg (Rat.intCast_le_intCast.2 (show (0:Int)≤_ by omega)) (Rat.le_of_lt (Rat.inv_pos.2 ?_))
  have:=Nat.pow_pos (n:=k) (show 0<2 by omega)
  exact Rat.intCast_lt_intCast.2 (show (0:Int)<_ by omega)
 have:=Rat.mul_nonneg hw h2
 grind
theorem Kl(a w:Rat)(k:Nat):ptQ a w k (2^k)=a+w:=by
 unfold ptQ
 rw[Rat.divInt_eq_div,Rat.div_def,Rat.mul_inv_cancel _ (vK k)]
 grind
theorem F7{a w:Rat}(hw:0≤w){k i j:Nat}(h:i≤j):ptQ a w k i≤ptQ a w k j:=by
 induction h with
 |refl=>exact Rat.le_refl
 |step _ ih=>exact Rat.le_trans ih (Az a hw k _)
theorem uX{f:List Rat}{a w:Rat}{K:Nat}(hw:0≤w)(hz:aJ f=false)(hf:f≠[])(hc:qF f (ar f))
  (hs:∀j,j<2^K→fR (chainF f.length f (ar f)) (ptQ a w K j)-fR (chainF f.length f (ar f)) (ptQ a w K (j+1))≤1∧(evalL f (ptQ a w K j)=0→fR (chainF f.length f (ar f)) (ptQ a w K j)-fR (chainF f.length f (ar f)) (ptQ a w K (j+1))≤0)) :
  ∀(n k j:Nat),n+k=K+1→k≤K→j<2^k→∃l,ei (chainF f.length f (ar f)) f a w n k j=some l
 |0,k,j,hn,hk,hj=>by omega
 |n+1,k,j,hn,hk,hj=>by
  have ha:=kE hz hf hc (Az a hw k j)
  rw[ei]
  by_cases h0:fR (chainF f.length f (ar f)) (ptQ a w k j)-fR (chainF f.length f (ar f)) (ptQ a w k (j+1))=0
  ·exact⟨_,if_pos h0⟩
  ·rw[if_neg h0]
   by_cases h1:fR (chainF f.length f (ar f)) (ptQ a w k j)-fR (chainF f.length f (ar f)) (ptQ a w k (j+1))=1∧evalL f (ptQ a w k j)≠0
   ·rw[if_pos h1]
    split
    ·exact⟨_,rfl⟩
    ·exact⟨_,rfl⟩
   ·rw[if_neg h1]
    by_cases VR:k=K
    ·subst VR
     obtain⟨s1,s2⟩:=hs j hj
     exact absurd ⟨by omega,fun e=>by have:=s2 e;omega⟩ h1
    ·have hp:2^(k+1)=2*2^k:=by rw[Nat.pow_succ];omega
     obtain⟨x,hx⟩:=uX hw hz hf hc hs n (k+1) (2*j) (by omega) (by omega) (by omega)
     obtain⟨y,hy⟩:=uX hw hz hf hc hs n (k+1) (2*j+1) (by omega) (by omega) (by omega)
     rw[hx,hy]
     exact⟨_,rfl⟩
end Go.Proofs.YtllmkadmohkbfaaGreatDoor.Sym
namespace Go.Proofs.YtllmkadmohkbfaaGreatDoor.Sym.WB
open Go Go.Shelf Go.Proofs
set_option maxRecDepth 20000
def l7:Ren:=⟨fun n=>match n with|129=>301|156=>217|165=>265|166=>266|169=>268|171=>215|240=>290|241=>291|243=>262|246=>286|276=>298|277=>299|283=>294|284=>295|285=>296|286=>297|317=>300|318=>302|319=>303|320=>304|337=>305|338=>306|n=>n,
 fun n=>match n with|0=>0|2=>2|3=>3|4=>4|5=>5|9=>9|20=>20|31=>224|37=>256|46=>179|51=>119|53=>178|70=>255|72=>258|75=>34|76=>59|80=>262|127=>273|164=>280|171=>275|173=>278|212=>285|213=>286|232=>289|233=>290|n=>n,
 fun n=>match n with|17=>0|18=>2|19=>3|n=>n⟩
theorem OR:Lays.n156 Tryz.prog l7 where
 mixed:=by kernel_rfl
 f156:=Tryz.func217.trans (congrArg some (by kernel_rfl))
 f165:=Tryz.func265.trans (congrArg some (by kernel_rfl))
 f166:=Tryz.func266.trans (congrArg some (by kernel_rfl))
 f169:=Tryz.func268.trans (congrArg some (by kernel_rfl))
 f240:=Tryz.func290.trans (congrArg some (by kernel_rfl))
 f241:=Tryz.func291.trans (congrArg some (by kernel_rfl))
 f276:=Tryz.func298.trans (congrArg some (by kernel_rfl))
 f277:=Tryz.func299.trans (congrArg some (by kernel_rfl))
 t0:=Tryz.underlying0
 a0:=Tryz.isAgg0
 z0:=Tryz.sizeOf0
 v0:=Tryz.zeroValue0
 t3:=Tryz.underlying3
 a3:=Tryz.isAgg3
 z3:=Tryz.sizeOf3
 v3:=Tryz.zeroValue3
 t4:=Tryz.underlying4
 a4:=Tryz.isAgg4
 z4:=Tryz.sizeOf4
 v4:=Tryz.zeroValue4
 t9:=Tryz.underlying9
 a9:=Tryz.isAgg9
 z9:=Tryz.sizeOf9
 v9:=Tryz.zeroValue9
 t20:=Tryz.underlying20
 a20:=Tryz.isAgg20
 z20:=Tryz.sizeOf20
 v20:=Tryz.zeroValue20
 t31:=Tryz.underlying224
 a31:=Tryz.isAgg224
 z31:=Tryz.sizeOf224
 v31:=Tryz.zeroValue224
 t37:=Tryz.underlying256
 a37:=Tryz.isAgg256
 z37:=Tryz.sizeOf256
 v37:=Tryz.zeroValue256
 t70:=Tryz.underlying255
 a70:=Tryz.isAgg255
 z70:=Tryz.sizeOf255
 v70:=Tryz.zeroValue255
 t72:=Tryz.underlying258
 a72:=Tryz.isAgg258
 z72:=Tryz.sizeOf258
 v72:=Tryz.zeroValue258
 t75:=Tryz.underlying34
 a75:=Tryz.isAgg34
 z75:=Tryz.sizeOf34
 v75:=Tryz.zeroValue34
 t76:=Tryz.underlying59
 a76:=Tryz.isAgg59
 z76:=Tryz.sizeOf59
 v76:=Tryz.zeroValue59
 t127:=Tryz.underlying273
 a127:=Tryz.isAgg273
 z127:=Tryz.sizeOf273
 v127:=Tryz.zeroValue273
 t164:=Tryz.underlying280
 a164:=Tryz.isAgg280
 z164:=Tryz.sizeOf280
 v164:=Tryz.zeroValue280
theorem Tv:Lays.n171 Tryz.prog l7 where
 mixed:=by kernel_rfl
 f129:=Tryz.func301.trans (congrArg some (by kernel_rfl))
 f171:=Tryz.func215.trans (congrArg some (by kernel_rfl))
 f243:=Tryz.func262.trans (congrArg some (by kernel_rfl))
 f246:=Tryz.func286.trans (congrArg some (by kernel_rfl))
 f283:=Tryz.func294.trans (congrArg some (by kernel_rfl))
 f284:=Tryz.func295.trans (congrArg some (by kernel_rfl))
 f285:=Tryz.func296.trans (congrArg some (by kernel_rfl))
 f286:=Tryz.func297.trans (congrArg some (by kernel_rfl))
 f317:=Tryz.func300.trans (congrArg some (by kernel_rfl))
 f318:=Tryz.func302.trans (congrArg some (by kernel_rfl))
 f319:=Tryz.func303.trans (congrArg some (by kernel_rfl))
 f320:=Tryz.func304.trans (congrArg some (by kernel_rfl))
 f337:=Tryz.func305.trans (congrArg some (by kernel_rfl))
 f338:=Tryz.func306.trans (congrArg some (by kernel_rfl))
 t0:=Tryz.underlying0
 a0:=Tryz.isAgg0
 z0:=Tryz.sizeOf0
 v0:=Tryz.zeroValue0
 t2:=Tryz.underlying2
 a2:=Tryz.isAgg2
 z2:=Tryz.sizeOf2
 v2:=Tryz.zeroValue2
 t3:=Tryz.underlying3
 a3:=Tryz.isAgg3
 z3:=Tryz.sizeOf3
 v3:=Tryz.zeroValue3
 t4:=Tryz.underlying4
 a4:=Tryz.isAgg4
 z4:=Tryz.sizeOf4
 v4:=Tryz.zeroValue4
 t5:=Tryz.underlying5
 a5:=Tryz.isAgg5
 z5:=Tryz.sizeOf5
 v5:=Tryz.zeroValue5
 t9:=Tryz.underlying9
 a9:=Tryz.isAgg9
 z9:=Tryz.sizeOf9
 v9:=Tryz.zeroValue9
 t20:=Tryz.underlying20
 a20:=Tryz.isAgg20
 z20:=Tryz.sizeOf20
 v20:=Tryz.zeroValue20
 t37:=Tryz.underlying256
 a37:=Tryz.isAgg256
 z37:=Tryz.sizeOf256
 v37:=Tryz.zeroValue256
 t46:=Tryz.underlying179
 a46:=Tryz.isAgg179
 z46:=Tryz.sizeOf179
 v46:=Tryz.zeroValue179
 t51:=Tryz.underlying119
 a51:=Tryz.isAgg119
 z51:=Tryz.sizeOf119
 v51:=Tryz.zeroValue119
 t53:=Tryz.underlying178
 a53:=Tryz.isAgg178
 z53:=Tryz.sizeOf178
 v53:=Tryz.zeroValue178
 t171:=Tryz.underlying275
 a171:=Tryz.isAgg275
 z171:=Tryz.sizeOf275
 v171:=Tryz.zeroValue275
 t173:=Tryz.underlying278
 a173:=Tryz.isAgg278
 z173:=Tryz.sizeOf278
 v173:=Tryz.zeroValue278
 t212:=Tryz.underlying285
 a212:=Tryz.isAgg285
 z212:=Tryz.sizeOf285
 v212:=Tryz.zeroValue285
 t213:=Tryz.underlying286
 a213:=Tryz.isAgg286
 z213:=Tryz.sizeOf286
 t232:=Tryz.underlying289
 a232:=Tryz.isAgg289
 z232:=Tryz.sizeOf289
 v232:=Tryz.zeroValue289
 t233:=Tryz.underlying290
 a233:=Tryz.isAgg290
 z233:=Tryz.sizeOf290
 v233:=Tryz.zeroValue290
 g17:=by kernel_rfl
 g18:=by kernel_rfl
 g19:=by kernel_rfl
theorem extra:Builder.Extra Tryz.prog l7 where
 sizeBuilder:=by kernel_rfl
 liesBuilder:=by kernel_rfl
 t5:=Tryz.underlying5
 a5:=Tryz.isAgg5
 z5:=Tryz.sizeOf5
 v5:=Tryz.zeroValue5
 infoByte:=by kernel_rfl
 cellsByte:=by kernel_rfl
 sizeByte:=by kernel_rfl
 neB5:=by decide
end Go.Proofs.YtllmkadmohkbfaaGreatDoor.Sym.WB
namespace Go.Proofs.YtllmkadmohkbfaaGreatDoor.Sym
open Go Go.RowKit
set_option linter.unusedVariables false
theorem tL.mk' {P : Program} {f : FuncId} {fn : Func} (h : P.funcs[f]? = some fn) (hb : (fn.body.isSome && !(fn.name == "runtime.NumGoroutine")) = true) : tL P f := by
  rw [Bool.and_eq_true, Bool.not_eq_true'] at hb
  exact ⟨fn, h, hb.1, hb.2⟩
theorem kV.OS{P:Program}{f:FuncId}{args:List PV}{r:PV}(hc:tL P f)
  (h:∀(I:Nat→Prop) (w:World) (vs:Array Value),(∀b,I b→b<w.heap.size)→args.length=vs.size →
   (∀(j:Nat) p v,args[j]? = some p→vs[j]? = some v→Rd I w p v) →
   Calls P f vs w (fun e w'=>∃v,e = .returned v∧Rd (fun b=>I b∨fresh w w' b) w' r v∧Below w.heap.size w w')):kV P f args r:=by
 refine⟨hc,fun I w β vs hI _ hl hr=>(h I w vs hI (by simpa using hl) (fun j p v hp hv=>hr j (.pv p) v (by rw[List.getElem?_map,hp];rfl) hv)).mono ?_⟩
 rintro e w' ⟨v,he,hv,hb⟩
 refine⟨v,β,he,fun _ _ _=>rfl,o8.KM ⟨hb,fun s=>by unfold YA at s;exact s.elim⟩,sW _ _ _,?_,fun x b hx=>absurd hx tE⟩
 exact Rd.mono hv (fun b hb=>hb.imp id (fun hf=>⟨Or.inl hf,(fun x hx=>absurd hx tE)⟩)) (fun _ _ _=>rfl)
theorem Tw{I:Nat→Prop}{w:World}{k:IntKind}{n:Int}{v:Value}(h:Rd I w (.int k n) v):v = .int k n:=by cases h;rfl
theorem OT{I:Nat→Prop}{w:World}{s:ByteArray}{v:Value}(h:Rd I w (.str s) v):v = .string s:=by cases h;rfl
def dig(n:Nat):ByteArray:=⟨(Lib.decDigits n).toArray⟩
theorem Nj(n:Nat)(h:n<100):Cp 215 [vI (n:Int)] (.str (dig n)):=by
 refine kV.OS (tL.mk' Tryz.func215 (by kernel_rfl)) (fun I w vs hI hl hr => ?_)
 obtain⟨v,rfl⟩:∃v,vs = #[v]:=by
  match vs,hl with
  |⟨[v]⟩,_=>exact⟨v,rfl⟩
 have hv:=Tw (hr 0 _ v rfl rfl)
 subst hv
 refine Calls.mono (Any.strconv_Itoa_small WB.Tv n h w) ?_
 rintro e w' ⟨he,rfl⟩
 exact⟨_,he,.str _,Below.refl _ _⟩
def RV(l:List ByteArray)(sep:ByteArray):ByteArray:=⟨(Lib.join (l.map (·.data.toList)) sep.data.toList).toArray⟩
theorem aad(l:List ByteArray)(sep:ByteArray)(hn:l.length≤140737488355328)(hlen:(Lib.join (l.map (·.data.toList)) sep.data.toList).length≤140737488355328) :
  Cp 217 [bq pY l,.str sep] (.str (RV l sep)):=by
 refine kV.OS (tL.mk' Tryz.func217 (by kernel_rfl)) (fun I w vs hI hl hr => ?_)
 obtain⟨v,u,rfl⟩:∃v u,vs = #[v,u]:=by
  match vs,hl with
  |⟨[v,u]⟩,_=>exact⟨v,u,rfl⟩
 have hu:=OT (hr 1 _ u rfl rfl)
 subst hu
 have hv:Rd I w (.list (l.map pY)) v:=hr 0 _ v rfl rfl
 cases l with
 |nil =>
  have:∃a c,v = .slice a 0 c:=by
   generalize hx:(PV.list (([]:List ByteArray).map pY))=x at hv
   cases hv with
   |nil a c=>exact⟨a,c,rfl⟩
   |list xs b o c s f hc hb hs ho h =>
    injection hx with hx
    subst hx
    exact⟨_,c,rfl⟩
   |_=>cases hx
  obtain⟨a,c,rfl⟩:=this
  refine Calls.mono (Any.strings_Join_none WB.OR WB.extra a c sep w) ?_
  rintro e w' ⟨he,rfl⟩
  exact⟨_,he,.str _,Below.refl _ _⟩
 |cons x0 r =>
  have:∃b o c,v = .slice (some ⟨b,o,none⟩) (x0::r).length c∧(x0::r).length≤c∧I b∧∀(j:Nat) x,(x0::r)[j]? = some x→w.cell? ⟨b,o+j,none⟩=some (.string x):=by
   generalize hx:(PV.list ((x0::r).map pY))=x at hv
   cases hv with
   |list xs b o c s f hc hb hs ho h =>
    injection hx with hx
    subst hx
    have PF:s=1:=by
     have:=hs 0 _ rfl
     simpa[pY] using this.symm
    subst PF
    refine⟨b,o,c,by rw[List.length_map],by simpa using hc,hb,fun j x hj => ?_⟩
    have D1:((x0::r).map pY)[j]? = some (pY x):=by rw[List.getElem?_map,hj];rfl
    have h1:=(ho j 0 _ (.str x) D1 rfl).2
    have h2:=OT (h j 0 _ (.str x) D1 rfl)
    rw[h2] at h1
    simpa using h1
   |_=>cases hx
  obtain⟨b,o,c,rfl,hc,hb,Q8⟩:=this
  refine Calls.mono (Any.strings_Join WB.OR WB.extra b o c (x0::r) sep w Q8 (hI b hb) hn hc hlen) ?_
  rintro e w' ⟨he,hw⟩
  exact⟨_,he,.str _,hw⟩
end Go.Proofs.YtllmkadmohkbfaaGreatDoor.Sym
namespace Go.Proofs.YtllmkadmohkbfaaGreatDoor.Sym
open Go Path dE
set_option linter.unusedVariables false
def numT(n:Int):ByteArray:=if n<0 then ByteArray.mk #[45]++dig n.natAbs else dig n.natAbs
def ratT(q:Rat):ByteArray:=if (q.den:Int)=1 then numT q.num else numT q.num++ByteArray.mk #[47]++numT (q.den:Int)
theorem lE{n:Nat}(h:n<10):dig n=ByteArray.mk #[UInt8.ofNat (48+n)]:=by
 unfold dig
 rw[Lib.decDigits,dif_pos h]
theorem LR{n:Nat}(h:n<1000000000):(dig n).size≤10:=by
 have key:∀(k n:Nat),n<10^(k+1)→(Lib.decDigits n).length≤k+1:=by
  intro k
  induction k with
  |zero =>
   intro n h
   rw[Lib.decDigits,dif_pos (by omega)]
   exact Nat.le_refl _
  |succ k ih =>
   intro n h
   by_cases h9:n<10
   ·rw[Lib.decDigits,dif_pos h9];simp
   ·rw[Lib.decDigits,dif_neg h9,List.length_append,List.length_singleton]
    have:=ih (n/10) (by rw[Nat.pow_succ] at h;omega)
    omega
 have:=key 8 n (by omega)
 show(Lib.decDigits n).toArray.size≤10
 rw[List.size_toArray]
 omega
theorem join_one(x sep:ByteArray):RV [x] sep=x:=by
 unfold RV
 rw[List.map_cons,List.map_nil,Lib.join_one]
theorem Jr{n:Int}(h:n.natAbs<1000000000):(numT n).size≤11:=by
 have:=LR h
 unfold numT
 split
 ·rw[ByteArray.size_append]
  have e:(ByteArray.mk #[45]).size=1:=rfl
  omega
 ·omega
namespace PG
theorem XQ(n:Int)(h:n.natAbs<1000000000)(hI:n≠0→Cp 215 [vI (n.natAbs:Int)] (.str (dig n.natAbs))):Cp 129 [(whole n).pv] (.str (numT n)):=by
 have hl:(words n.natAbs).length≤1:=eY (by omega)
 have yn:Fit (whole n).fS:=by
  show Fit (words n.natAbs)
  unfold Fit
  omega
 have hm:=dE.fS (whole n) yn
 have hn:=dE.neg (whole n) yn
 rw[aD] at hm hn
 by_cases h0:n=0
 ·subst h0
  have e:numT 0=ByteArray.mk #[48]:=by
   unfold numT
   rw[if_neg (by omega),show Int.natAbs 0=0 from rfl,lE (by omega)];rfl
  rw[e]
  exact nJ.e0 _ _ hm rfl
 ·have hw:(words n.natAbs).length≠0:=fun e=>h0 (by have:=iR.1 e;omega)
  have hs:=dE.short (words n.natAbs) (1000000000:UInt32) (by omega) (by decide)
  rw[aZ,show(1000000000:UInt32).toNat=1000000000 from rfl,Nat.div_eq_of_lt h,Nat.mod_eq_of_lt h,kR] at hs
  have hv:(UInt32.ofNat n.natAbs).toNat=n.natAbs:=by
   rw[AU]
   exact Nat.mod_eq_of_lt (by omega)
  have hi:Cp 215 [vI ((UInt32.ofNat n.natAbs).toNat:Int)] (.str (dig n.natAbs)):=by
   rw[hv];exact hI h0
  have hd:=LR h
  have hj:=aad [dig n.natAbs] (ByteArray.mk #[]) (by simp) (by
   rw[List.map_cons,List.map_nil,Lib.join_one,Array.length_toList]
   have:(dig n.natAbs).data.size=(dig n.natAbs).size:=rfl
   omega)
  rw[join_one] at hj
  have hN:nJ.aj [] [dig n.natAbs] (whole n) (.str (numT n)):=by
   by_cases An:n<0
   ·have:=nJ.ji [] _ _ _ _ (by simp) hj hn (decide_eq_true An) (by
     have e:(ByteArray.mk #[45]).size=1:=rfl
     omega)
    unfold numT
    rw[if_pos An]
    exact this
   ·have:=nJ.oK [] _ _ _ _ (by simp) hj hn (decide_eq_false An)
    unfold numT
    rw[if_neg An]
    exact this
  exact nJ.e1 _ _ hm hw (nJ.dw _ [] _ _ _ _ (by omega) hs hi (by simp) (by simp) hN)
theorem Fa(n:Int)(h:n.natAbs<100):Cp 129 [(whole n).pv] (.str (numT n)):=XQ n (by omega) (fun _=>Nj _ h)
theorem XS(q:Rat)(h1:q.num.natAbs<1000000000)(h2:q.den<1000000000)(hN:Cp 129 [(whole q.num).pv] (.str (numT q.num)))(hD:Cp 129 [(whole (q.den:Int)).pv] (.str (numT (q.den:Int)))):Cp 61 [(aE q).pv] (.str (ratT q)):=by
 have l1:wl q.num≤1:=eY (by omega)
 have l2:wl (q.den:Int)≤1:=eY (by rw[Int.natAbs_natCast];omega)
 have hh:ht q≤1:=Nat.max_le.2 ⟨l1,l2⟩
 have hp:=qC.nc (aE q) (nS (by omega))
 rw[bS] at hp
 have hc:=dE.jN (whole (q.den:Int)) (whole 1) (show Fit (whole (q.den:Int)).fS from Nat.le_trans l2 (by omega)) (by decide)
 rw[aD,aD] at hc
 have s1:=Jr h1
 have s2:=Jr (n:=(q.den:Int)) (by rw[Int.natAbs_natCast];exact h2)
 by_cases hd:(q.den:Int)=1
 ·have:=xo.e0 _ _ _ _ _ _ hp qC.one hc (by rw[hd];rfl) hN
  unfold ratT
  rw[if_pos hd]
  exact this
 ·have e:(ByteArray.mk #[47]).size=1:=rfl
  have FX:iM (q.den:Int) 1≠0:=by
   unfold iM
   intro hx
   split at hx
   ·cases hx
   ·omega
  have:=xo.e1 _ _ _ _ _ _ _ hp qC.one hc FX hN (by omega) hD (by rw[ByteArray.size_append];omega)
  unfold ratT
  rw[if_neg hd]
  exact this
theorem j6(q:Rat)(h1:q.num.natAbs<100)(h2:q.den<100):Cp 61 [(aE q).pv] (.str (ratT q)) :=
 XS q (by omega) (by omega) (Fa _ h1) (Fa _ (by rw[Int.natAbs_natCast];exact h2))
end PG
end Go.Proofs.YtllmkadmohkbfaaGreatDoor.Sym
