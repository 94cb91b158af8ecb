/- What Bezout returns is accepted; what is accepted is the greatest common divisor. -/
import Derived.Test.YtboilcfohmmpbaaGreatDoorM2
import Derived.Test.YtboilcfohmmpbaaGreatDoorChecked
import Derived.Shelf.Strings.BuilderX
import Derived.Shelf.Lays
import Derived.KernelRfl
import Derived.Test.YtboilcfohmmpbaaGreatDoorYObs
import Derived.Test.YtboilcfohmmpbaaGreatDoorM0
import Derived.Shelf.Strconv.Itoa3
import Derived.Shelf.Strings.OnBuilder
import Derived.Test.YtboilcfohmmpbaaGreatDoorM1
import Derived.Test.YtboilcfohmmpbaaGreatDoorRows
import Derived.Test.YtboilcfohmmpbaaGreatDoorCards
import Derived.Test.YtboilcfohmmpbaaGreatDoorTie
import Derived.Deep.DeepHandedRow
import Derived.SevenTiedAt
import Derived.LaidLaws
import Derived.JoinedCond
namespace Go.Proofs.YtboilcfohmmpbaaGreatDoor.Sym
open Go Path CInt Dt Rs
set_option linter.unusedVariables false
def timL(p q:List Rat):List Rat:=if p.length=0∨q.length=0 then [] else tabL (p.length+q.length-1) (coef (mulL p q))
def lessL(p q:List Rat):List Rat:=tabL (max p.length q.length) (fun i=>coef p i-coef q i)
theorem mul_high{p q:List Rat}{i:Nat}(h:p.length+q.length-1≤i):coef (mulL p q) i=0:=by
 by_cases hp:p.length=0
 ·rw[List.eq_nil_of_length_eq_zero hp];rfl
 by_cases hq:q.length=0
 ·rw[coef_mul_comm,List.eq_nil_of_length_eq_zero hq];rfl
 rw[mul_sum (Nat.le_refl p.length)]
 refine sumN_zero (fun s hs => ?_)
 rw[coef_shiftL]
 split
 ·grind
 ·rw[coef_ge (p:=q) (by omega)];grind
theorem timL_coef(p q:List Rat)(i:Nat):coef (timL p q) i=coef (mulL p q) i:=by
 unfold timL
 split
 ·rename_i h
  rcases h with h|h
  ·rw[List.eq_nil_of_length_eq_zero h];rfl
  ·rw[coef_mul_comm,List.eq_nil_of_length_eq_zero h];rfl
 ·exact tabL_coef (fun i hi=>mul_high hi) i
theorem timL_len(p q:List Rat):(timL p q).length≤p.length+q.length:=by
 unfold timL
 split
 ·simp
 ·rw[tabL_len];omega
theorem lessL_coef(p q:List Rat)(i:Nat):coef (lessL p q) i=coef p i-coef q i:=by
 unfold lessL
 exact tabL_coef (fun i hi=>by rw[coef_ge (p:=p) (by omega),coef_ge (p:=q) (by omega)];grind) i
theorem lessL_len(p q:List Rat):(lessL p q).length=max p.length q.length:=tabL_len _ _
theorem set_tab{m t:Nat}{g:Nat→Rat}(v:Rat)(h:t<m):((tabL m g).map mkR).set t (mkR v)=(tabL m (fun i=>if i=t then v else g i)).map mkR:=by
 rw[←List.map_set,tabL_set g v h]
namespace CRsP
theorem times{a b:Nat}(n:Nat)(p q:List Rat)(hlp:p.length≤100000)(hlq:q.length≤100000)(hp:Fl a p)(hq:Fl b q)(ha:1≤a)(hb:1≤b)(hn:p.length≤n∨q.length≤n)(hk:(n+1)*(a+b+1)+1≤68719476736):Contract prg 81 [pq p,pq q] (pq (timL p q)):=by
 rw[Nat.add_mul] at hk
 by_cases h0:p.length=0
 ·rw[List.eq_nil_of_length_eq_zero h0]
  exact resultant_times.e0 _ _ rfl
 by_cases h1:q.length=0
 ·rw[show timL p q=[] from if_pos (Or.inr h1)]
  exact resultant_times.e1 _ _ (by rw[lenM];exact h0) (by rw[lenM];exact h1)
 have hm:∀i,p.length+q.length-1≤i→∀t,coef (mulL (p.take t) q) i=0:=by
  intro i hi t
  have key:∀(p:List Rat) (i:Nat),p.length+q.length-1≤i→coef (mulL p q) i=0:=by
   intro p
   induction p with
   |nil=>intro i _;rfl
   |cons c p ih =>
    intro i hi
    rw[List.length_cons] at hi
    rw[coef_mul_cons,coef_ge (p:=q) (by omega)]
    cases i with
    |zero=>rw[coef_zero];grind
    |succ i =>
     rw[coef_succ]
     cases p with
     |nil=>rw[mulL,coef_nil];grind
     |cons d p=>rw[ih i (by omega)];grind
  exact key _ i (by rw[List.length_take];omega)
 have bG:=ht_mul_take hp hq ha hb hn
 have outer:∀(j t:Nat),p.length-t=j→t≤p.length→resultant_times.Loop1 (q.map mkR) (p.length+q.length-1) (p.map mkR) t ((tabL (p.length+q.length-1) (coef (mulL (p.take t) q))).map mkR) (pq (timL p q)):=by
  intro j
  induction j with
  |zero =>
   intro t hj ht
   have e:timL p q=tabL (p.length+q.length-1) (coef (mulL (p.take t) q)):=by
    unfold timL
    rw[if_neg (by omega),List.take_of_length_le (by omega)]
   rw[e]
   exact resultant_times.l11 _ _ _ t _ (by rw[lenM];omega) (by rw[lenM,tabL_len])
  |succ j ih =>
   intro t hj ht
   obtain⟨v,hv⟩:∃v,p[t]? = some v:=⟨_,List.getElem?_eq_getElem (by omega)⟩
   have hvh:=hp v (List.mem_of_getElem? hv)
   refine resultant_times.l10 _ _ _ t _ (mkR v) (by rw[lenM];omega) (getM hv) ?_
   have inner:∀(k u:Nat),q.length-u=k→u≤q.length→resultant_times.Loop2 (q.map mkR) (p.length+q.length-1) t (p.map mkR) t u (mkR v) ((tabL (p.length+q.length-1) (fun i=>coef (mulL (p.take t) q) i+if t≤i∧i<t+u then v*coef q (i-t) else 0)).map mkR) (pq (timL p q)):=by
    intro k
    induction k with
    |zero =>
     intro u hk2 hu
     refine resultant_times.l21 _ _ t _ t u _ _ (by rw[lenM];omega) (by omega) ?_
     have:=ih (t+1) (by omega) (by omega)
     rwa[tabL_congr (f:=coef (mulL (p.take (t+1)) q)) (g:=fun i=>coef (mulL (p.take t) q) i+if t≤i∧i<t+u then v*coef q (i-t) else 0) (fun i hi=>by
      rw[coef_mul_snoc hv,coef_shiftL,coef_smulL]
      congr 1
      by_cases h1:i<t
      ·rw[if_pos h1,if_neg (by omega)]
      ·rw[if_neg h1]
       by_cases h2:i<t+u
       ·rw[if_pos (by omega)]
       ·rw[if_neg (by omega),coef_ge (p:=q) (by omega),Rat.mul_zero])] at this
    |succ k ih2 =>
     intro u hk2 hu
     obtain⟨w,hw⟩:∃w,q[u]? = some w:=⟨_,List.getElem?_eq_getElem (by omega)⟩
     have hwh:=hq w (List.mem_of_getElem? hw)
     have hg:t+u<p.length+q.length-1:=by omega
     have b1:=bG t (t+u)
     have b2:=ht_mul v w
     refine resultant_times.l20 _ _ t _ t u _ _ (mkR w) (mkR (coef (mulL (p.take t) q) (t+u))) _ _ (by rw[lenM];omega) (getM hw) (by omega) hg ?_ (QF.Mul v w (by omega) (by omega)) (QF.Add (coef (mulL (p.take t) q) (t+u)) (v*w) (by omega) (by omega)) (by rw[lenM,tabL_len];omega) (by omega) ?_
     ·rw[getM (tabL_get _ hg),if_neg (by omega),Rat.add_zero]
     ·rw[tab_step (f:=fun i=>coef (mulL (p.take t) q) i+if t≤i∧i<t+(u+1) then v*coef q (i-t) else 0) hg (by
       rw[if_pos (by omega),show t+u-t=u from by omega,coef_of hw]) (fun i hi=>by
       congr 1
       by_cases h:t≤i∧i<t+u
       ·rw[if_pos h,if_pos (by omega)]
       ·rw[if_neg h,if_neg (by omega)])]
      exact ih2 (u+1) (by omega) (by omega)
   have:=inner _ 0 rfl (by omega)
   rwa[tabL_congr (g:=coef (mulL (p.take t) q)) (fun i hi=>by rw[if_neg (by omega),Rat.add_zero])] at this
 have:=outer _ 0 rfl (by omega)
 refine resultant_times.e2 _ _ (p.length+q.length-1) (by rw[lenM];exact h0) (by rw[lenM];exact h1) (by rw[lenM,lenM];omega) (by rw[lenM,lenM];unfold InI64;omega) (by rw[lenM,lenM];omega) (by omega) ?_
 rw[tabL_zero]
 exact this
theorem less{a b:Nat}(p q:List Rat)(hlp:p.length≤100000)(hlq:q.length≤100000)(hp:Fl a p)(hq:Fl b q)(ha:1≤a)(hb:1≤b)(hk:a+b+1≤68719476736):Contract prg 80 [pq p,pq q] (pq (lessL p q)):=by
 have hmax:max (p.map mkR).length (q.map mkR).length=max p.length q.length:=by rw[lenM,lenM]
 have loop:∀d t:Nat,t+d=max p.length q.length→resultant_less.Loop1 (p.map mkR) (q.map mkR) t ((tabL (max p.length q.length) (fun i=>if i<t then coef p i-coef q i else 0)).map mkR) (pq (lessL p q)):=by
  intro d
  induction d with
  |zero =>
   intro t ht
   have e:lessL p q=tabL (max p.length q.length) (fun i=>if i<t then coef p i-coef q i else 0):=tabL_congr (fun i hi=>by rw[if_pos (by omega)])
   rw[e]
   exact resultant_less.l14 _ _ t _ (by rw[hmax];omega) (by rw[hmax,lenM,tabL_len])
  |succ d ih =>
   intro t ht
   have hg:t<max p.length q.length:=by omega
   have ih:=ih (t+1) (by omega)
   have e:∀g:Nat→Rat,g t=coef p t-coef q t→(∀i,i≠t→g i=if i<t then coef p i-coef q i else 0)→(tabL (max p.length q.length) g).map mkR=(tabL (max p.length q.length) (fun i=>if i<t+1 then coef p i-coef q i else 0)).map mkR:=fun g g1 g2=>by
    congr 1
    refine tabL_congr (fun i hi => ?_)
    by_cases h:i=t
    ·subst h;rw[if_pos (by omega),g1]
    ·rw[g2 i h]
     by_cases h2:i<t
     ·rw[if_pos h2,if_pos (by omega)]
     ·rw[if_neg h2,if_neg (by omega)]
   by_cases h1:t<p.length
   ·have hv:(p.map mkR)[t]? = some (mkR (coef p t)):=getM (coef_get h1)
    have hvh:=hp _ (List.mem_of_getElem? (coef_get h1))
    by_cases h2:t<q.length
    ·have hw:(q.map mkR)[t]? = some (mkR (coef q t)):=getM (coef_get h2)
     have hwh:=hq _ (List.mem_of_getElem? (coef_get h2))
     refine resultant_less.l10 _ _ t _ _ (mkR (coef p t)) _ _ (by rw[hmax];exact hg) (by rw[lenM];exact h1) hv (by rw[lenM,tabL_len];exact hg) (by rw[lenM];exact h2) ?_ hw (QF.Sub (coef p t) (coef q t) (by omega) (by omega)) (by rw[List.length_set,lenM,tabL_len];exact hg) (by omega) ?_
     ·rw[set_tab _ hg,getM (tabL_get _ hg),if_pos rfl]
     ·rw[set_tab _ hg,set_tab _ hg,e _ (if_pos rfl) (fun i hi=>by rw[if_neg hi,if_neg hi])]
      exact ih
    ·refine resultant_less.l11 _ _ t _ _ (by rw[hmax];exact hg) (by rw[lenM];exact h1) hv (by rw[lenM,tabL_len];exact hg) (by rw[lenM];omega) (by omega) ?_
     rw[set_tab _ hg,e _ (by rw[if_pos rfl,coef_ge (p:=q) (by omega)];grind) (fun i hi=>by rw[if_neg hi])]
     exact ih
   ·have h2:t<q.length:=by omega
    have hw:(q.map mkR)[t]? = some (mkR (coef q t)):=getM (coef_get h2)
    have hwh:=hq _ (List.mem_of_getElem? (coef_get h2))
    refine resultant_less.l12 _ _ t _ (mkR 0) _ _ (by rw[hmax];exact hg) (by rw[lenM];omega) (by rw[lenM];exact h2) ?_ hw (QF.Sub 0 (coef q t) (by rw[ht_zero];omega) (by omega)) (by rw[lenM,tabL_len];exact hg) (by omega) ?_
    ·rw[getM (tabL_get _ hg),if_neg (by omega)]
    ·rw[set_tab _ hg,e _ (by rw[if_pos rfl,coef_ge (p:=p) (by omega)]) (fun i hi=>by rw[if_neg hi])]
     exact ih
 have:=loop (max p.length q.length) 0 (by omega)
 refine resultant_less.e0 _ _ (by rw[hmax];omega) ?_
 rw[hmax,tabL_zero]
 rwa[tabL_congr (g:=fun _=>0) (fun i _=>by rw[if_neg (by omega)])] at this
theorem quotient{h b:Nat}(l p q:List Rat)(hl0:p=trimL l)(hpl:Ch h l)(hll:l.length≤10000)(hz:lastZ q=false)(hq0:q≠[])(hp:Ch h p)(hq:Ch b q)(h1:1≤h)(hb1:1≤b)(hlp:p.length≤10000)(hlq:q.length≤10000)(hk:2*(h+(p.length+1-q.length)*(b+1))+3*b+5≤68719476736):Contract prg 79 [pq l,pq q] (.tup [pq (divL p q).1,.nilI]):=by
 have hql:=List.length_pos_iff.2 hq0
 have hqt:=ht_top hq hb1
 have htop:=top_ne hz hq0
 obtain⟨H,hH⟩:∃H,H=h+(p.length+1-q.length)*(b+1):=⟨_,rfl⟩
 rw[←hH] at hk
 have hqc:∀i,ht (coef q i)≤b:=fun i=>by have:=hq.ht i;omega
 have loop:∀(n hc:Nat) (out rest:List Rat),rest.length<n→1≤hc→Ch hc rest→hc+(rest.length+1-q.length)*(b+1)≤H→lastZ out=false→lastZ rest=false→out.length≤p.length+1-q.length→rest.length≤p.length→(∀i,ht (coef out i)≤H+b)→(∀i,i+q.length≤rest.length→coef out i=0) →
   resultant_quotient.Loop1 (q.map mkR) (rest.map mkR).length (p.length+1-q.length) (rest.map mkR) ((tabL (p.length+1-q.length) (coef out)).map mkR) (.tup [pq (divF n out rest q).1,.nilI]):=by
  intro n
  induction n with
  |zero=>intro hc out rest hn;omega
  |succ n ih =>
   intro hc out rest hn hc1 hr hcH zo zr lo lr ho hout
   rw[divF]
   cases hb:Nat.blt rest.length q.length with
   |true =>
    have hlt:=blt_iff.1 hb
    rw[cond_true]
    have e:trimL (tabL (p.length+1-q.length) (coef out))=out:=by
     rw[←trimL_of zo]
     refine trimL_ext (fun i => ?_)
     rw[trimL_of zo]
     exact tabL_coef (fun i hi=>coef_ge (by omega)) i
    have ht:=CPl.Trim (k:=H+b) (tabL (p.length+1-q.length) (coef out)) (by rw[tabL_len];omega) (fl_of_coef (fun i=>by
     rw[tabL_coef (fun i hi=>coef_ge (by omega))];exact ho i)) (by omega)
    rw[e] at ht
    exact resultant_quotient.l12 _ _ _ _ _ _ (by rw[lenM,lenM];exact hlt) (by rw[lenM,tabL_len]) ht
   |false =>
    have hle:=blt_fal.1 hb
    rw[cond_false]
    have hr0:rest≠[]:=by intro e;rw[e] at hle;simp at hle;exact hq0 hle
    have hrt:=ht_top hr hc1
    have hrc:∀i,ht (coef rest i)≤hc:=fun i=>by have:=hr.ht i;omega
    have hsl:=stepR_len htop (by omega) hle
    have e1:rest.length+1-q.length=(rest.length-q.length)+1:=by omega
    have e2:((stepR rest q).length+1-q.length)*(b+1)≤(rest.length-q.length)*(b+1):=Nat.mul_le_mul_right _ (by omega)
    rw[e1,Nat.add_mul,Nat.one_mul] at hcH
    have hcc:ht (stepC rest q)≤hc+b:=by
     have:=ht_div (topL rest) (topL q)
     unfold stepC;omega
    have hdiv:=QF.Div (topL rest) (topL q) (by omega) (by omega) htop
    have cc:∀i,coef (trimL (addL out (shiftL (rest.length-q.length) [stepC rest q]))) i=if i=rest.length-q.length then stepC rest q else coef out i:=by
     intro i
     rw[coef_trimL,coef_addL,coef_shiftL]
     by_cases h3:i=rest.length-q.length
     ·rw[if_pos h3,if_neg (by omega),hout i (by omega),h3,Nat.sub_self,coef_zero,Rat.zero_add]
     ·rw[if_neg h3]
      split
      ·rw[Rat.add_zero]
      ·rw[coef_ge (p:=[stepC rest q]) (by simp;omega),Rat.add_zero]
    refine resultant_quotient.l10 _ _ _ _ _ (rest.length-1) (mkR (topL rest)) (q.length-1) (mkR (topL q)) (mkR (stepC rest q)) (rest.length-q.length) (by rw[lenM,lenM];exact hle) (by rw[lenM,lenM];unfold InI64;omega) (by rw[lenM];unfold InI64;omega) (by rw[lenM];omega) (by rw[lenM];omega) (getM (getTop hr0)) (by rw[lenM];unfold InI64;omega) (by rw[lenM];omega) (getM (getTop hq0)) hdiv (by rw[lenM,lenM];omega) (by omega) (by rw[lenM,tabL_len];omega) ?_
    rw[tab_step (f:=coef (trimL (addL out (shiftL (rest.length-q.length) [stepC rest q])))) (by omega) (by rw[cc,if_pos rfl]) (fun i hi=>by rw[cc,if_neg hi])]
    have next:=ih (hc+b+1) (trimL (addL out (shiftL (rest.length-q.length) [stepC rest q]))) (stepR rest q) (by omega) (by omega) (hr.step hq htop) (by omega) (lastZ_trimL _) (lastZ_trimL _) (len_trim_le (fun i hi=>by
     rw[←coef_trimL,cc,if_neg (by omega),coef_ge (by omega)])) (by omega) (fun i=>by
     rw[cc]
     split
     ·omega
     ·exact ho i) (fun i hi=>by rw[cc,if_neg (by omega)];exact hout i (by omega))
    have inner:∀(j t:Nat),q.length-t=j→t≤q.length→resultant_quotient.Loop2 (q.map mkR) (rest.map mkR).length (p.length+1-q.length) (((rest.map mkR).length:Int)-((q.map mkR).length:Int)) t (mkR (stepC rest q)) ((tabL rest.length (fun i=>coef rest i-if rest.length-q.length≤i∧i<rest.length-q.length+t then stepC rest q*coef q (i-(rest.length-q.length)) else 0)).map mkR) ((tabL (p.length+1-q.length) (coef (trimL (addL out (shiftL (rest.length-q.length) [stepC rest q]))))).map mkR)
      (.tup [pq (divF n (trimL (addL out (shiftL (rest.length-q.length) [stepC rest q]))) (stepR rest q) q).1,.nilI]):=by
     intro j
     induction j with
     |zero =>
      intro t hj ht
      have e:trimL (tabL rest.length (fun i=>coef rest i-if rest.length-q.length≤i∧i<rest.length-q.length+t then stepC rest q*coef q (i-(rest.length-q.length)) else 0))=stepR rest q:=by
       refine trimL_ext (fun i => ?_)
       rw[coef_addL,coef_shiftL,coef_smulL]
       by_cases hi:i<rest.length
       ·rw[coef_of (tabL_get _ hi)]
        by_cases h3:i<rest.length-q.length
        ·rw[if_neg (by omega),if_pos h3];grind
        ·rw[if_pos (by omega),if_neg h3];grind
       ·rw[coef_ge (p:=tabL _ _) (by rw[tabL_len];omega),coef_ge (p:=rest) (by omega),if_neg (by omega),coef_ge (p:=q) (by omega)];grind
      have htx:=CPl.TrimX (k:=2*hc+2*b+1) (tabL rest.length (fun i=>coef rest i-if rest.length-q.length≤i∧i<rest.length-q.length+t then stepC rest q*coef q (i-(rest.length-q.length)) else 0)) (by rw[tabL_len];omega) (fl_of_coef (fun i=>by
       by_cases hi:i<rest.length
       ·rw[coef_of (tabL_get _ hi)]
        have a1:=hrc i
        have a2:=hqc (i-(rest.length-q.length))
        have a3:=ht_mul (stepC rest q) (coef q (i-(rest.length-q.length)))
        have a4:=ht_sub (coef rest i) (stepC rest q*coef q (i-(rest.length-q.length)))
        split
        ·omega
        ·rw[show coef rest i-0=coef rest i from by grind];omega
       ·rw[coef_ge (p:=tabL _ _) (by rw[tabL_len];omega),ht_zero];omega)) (by omega)
      rw[e] at htx
      exact resultant_quotient.l21 _ _ _ _ _ _ _ _ _ _ (by rw[lenM];omega) (by rw[lenM,lenM,tabL_len]) htx next
     |succ j ih2 =>
      intro t hj ht
      obtain⟨w,hw⟩:∃w,q[t]? = some w:=⟨_,List.getElem?_eq_getElem (by omega)⟩
      have hwc:=coef_of hw
      have a2:=hqc t
      rw[hwc] at a2
      have a1:=hrc (rest.length-q.length+t)
      have a3:=ht_mul (stepC rest q) w
      have hg:rest.length-q.length+t<rest.length:=by omega
      refine resultant_quotient.l20 _ _ _ _ _ _ _ _ (mkR w) (rest.length-q.length+t) (mkR (coef rest (rest.length-q.length+t))) _ _ (rest.length-q.length+t) (by rw[lenM];omega) (getM hw) (by rw[lenM,lenM];unfold InI64;omega) (by rw[lenM,lenM];omega) (by rw[lenM];omega) ?_ (QF.Mul _ _ (by omega) (by omega)) (QF.Sub (coef rest (rest.length-q.length+t)) (stepC rest q*w) (by omega) (by omega)) (by rw[lenM,lenM];omega) (by rw[lenM];omega) (by rw[lenM,tabL_len];omega) (by omega) ?_
      ·rw[getM (tabL_get _ hg),if_neg (by omega)]
       congr 2;grind
      ·rw[tab_step (f:=fun i=>coef rest i-if rest.length-q.length≤i∧i<rest.length-q.length+(t+1) then stepC rest q*coef q (i-(rest.length-q.length)) else 0) hg (by
        rw[if_pos (by omega),show rest.length-q.length+t-(rest.length-q.length)=t from by omega,hwc]) (fun i hi=>by
        by_cases h:rest.length-q.length≤i∧i<rest.length-q.length+t
        ·rw[if_pos h,if_pos (by omega)]
        ·rw[if_neg h,if_neg (by omega)])]
       exact ih2 (t+1) (by omega) (by omega)
    have:=inner _ 0 rfl (by omega)
    have e0:(tabL rest.length (fun i=>coef rest i-if rest.length-q.length≤i∧i<rest.length-q.length+0 then stepC rest q*coef q (i-(rest.length-q.length)) else 0))=rest:=by
     refine List.ext_getElem? (fun i => ?_)
     by_cases hi:i<rest.length
     ·rw[tabL_get _ hi,coef_get hi,if_neg (by omega)]
      congr 1;grind
     ·rw[List.getElem?_eq_none (by rw[tabL_len];omega),List.getElem?_eq_none (by omega)]
    rwa[e0] at this
 have hlt:=len_trimL p
 have hmul:((trimL p).length+1-q.length)*(b+1)≤(p.length+1-q.length)*(b+1):=Nat.mul_le_mul_right _ (by omega)
 have:=loop (p.length+1) h [] (trimL p) (by omega) h1 hp.trim (by omega) rfl (lastZ_trimL p) (by simp) hlt (fun i=>by rw[coef_nil,ht_zero];omega) (fun i _=>rfl)
 have htx:=CPl.TrimX (k:=h) l (by omega) (hpl.fl h1) (by omega)
 have e0:trimL p=p:=by rw[hl0,trimL_of (lastZ_trimL l)]
 have e1:divL p q=divF (p.length+1) [] p q:=by unfold divL;rw[e0]
 rw[←hl0] at htx
 rw[e0] at this
 rw[e1]
 refine resultant_quotient.e0 _ _ _ _ (p.length+1-q.length) htx (by rw[lenM,lenM];unfold InI64;omega) (by rw[lenM,lenM];unfold InI64;omega) (by rw[lenM,lenM];omega) (by omega) ?_
 rw[tabL_zero]
 exact this
end CRsP
end Go.Proofs.YtboilcfohmmpbaaGreatDoor.Sym
namespace Go.Proofs.YtboilcfohmmpbaaGreatDoor.Sym
set_option linter.unusedVariables false
theorem mul_num{q:List Rat}{Dp Dq:Int}{M K:Nat}(hq:∀i,∃m:Int,coef q i*(Dq:Rat)=(m:Rat)∧m.natAbs≤K):∀(p:List Rat),(∀i,∃m:Int,coef p i*(Dp:Rat)=(m:Rat)∧m.natAbs≤M) →
  ∀i,∃m:Int,coef (mulL p q) i*((Dp*Dq:Int):Rat)=(m:Rat)∧m.natAbs≤p.length*(M*K)
 |[],_,i=>⟨0,by rw[show coef (mulL [] q) i=0 from rfl,Rat.zero_mul];rfl,Nat.zero_le _⟩
 |a::p,hp,i=>by
  have ih:=mul_num hq p (fun i=>by obtain⟨m,h⟩:=hp (i+1);exact⟨m,h⟩)
  obtain⟨m0,h1,h2⟩:=hp 0
  rw[coef_zero] at h1
  obtain⟨n0,h3,h4⟩:=hq i
  have hmn:(m0*n0).natAbs≤M*K:=by rw[Int.natAbs_mul];exact Nat.mul_le_mul h2 h4
  rw[coef_mul_cons,List.length_cons,Nat.add_mul,Nat.one_mul]
  cases i with
  |zero =>
   refine⟨m0*n0,?_,by omega⟩
   rw[coef_zero,Rat.intCast_mul,Rat.intCast_mul,←h1,←h3]
   grind
  |succ i =>
   rw[coef_succ]
   obtain⟨k,k1,k2⟩:=ih i
   refine⟨m0*n0+k,?_,?_⟩
   ·rw[Rat.intCast_add,←k1,Rat.intCast_mul,Rat.intCast_mul,←h1,←h3]
    grind
   ·have:=Int.natAbs_add_le (m0*n0) k
    omega
theorem Ch.mul{h k:Nat}{p q:List Rat}(hp:Ch h p)(hq:Ch k q)(hl:p.length≤4294967295):Ch (h+k+1) (mulL p q):=by
 obtain⟨D,d1,d2,d3⟩:=hp
 obtain⟨E,e1,e2,e3⟩:=hq
 have bd:∀(m:Int) (j:Nat),wl m≤j→m.natAbs≤4294967296^j:=by
  intro m j hm
  have h1:=lt_of_len m.natAbs
  have h2:=pow_le (a:=(words m.natAbs).length) (b:=j) hm
  omega
 have key:=mul_num (q:=q) (Dp:=D) (Dq:=E) (M:=4294967296^h) (K:=4294967296^k) (fun i=>by obtain⟨m,a,b⟩:=e3 i;exact⟨m,a,bd m k b⟩) p (fun i=>by obtain⟨m,a,b⟩:=d3 i;exact⟨m,a,bd m h b⟩)
 have hDE:wl (D*E)≤h+k:=by
  have:=wl_mul D E
  omega
 refine⟨D*E,Int.mul_ne_zero d1 e1,by omega,fun i => ?_⟩
 obtain⟨m,a,b⟩:=key i
 refine⟨m,a,len_of_lt ?_⟩
 rw[Nat.pow_add,Nat.pow_add,Nat.pow_one]
 have hP:0<4294967296^h*4294967296^k:=Nat.mul_pos (Nat.pow_pos (by omega)) (Nat.pow_pos (by omega))
 have h2:p.length*(4294967296^h*4294967296^k)≤4294967295*(4294967296^h*4294967296^k):=Nat.mul_le_mul_right _ hl
 generalize 4294967296^h*4294967296^k=P at *
 omega
end Go.Proofs.YtboilcfohmmpbaaGreatDoor.Sym
namespace Go.Proofs.YtboilcfohmmpbaaGreatDoor.Sym
open Go Path CInt Dt Rs
set_option linter.unusedVariables false
theorem monic_uniq{p q:List Rat}(hp:lastZ p=false)(hq:lastZ q=false)(hp0:p≠[])(hq0:q≠[])(h1:Dv p q)(h2:Dv q p):monicL p=monicL q:=by
 have l1:=(h1.len hp hq hq0).2
 have l2:=(h2.len hq hp hp0).2
 obtain⟨u,hu⟩:=h1
 have hu':∀x,evalL q x=evalL (trimL u) x*evalL p x:=fun x=>by rw[evalL_trimL];exact hu x
 have hu0:trimL u≠[]:=fun e=>by
  have h3:∀x,evalL q x=evalL [] x:=fun x=>by rw[hu' x,e];show(0:Rat)*_=0;grind
  have h4:=eval_ext h3
  have h5:trimL q=q:=coef_inj (lastZ_trimL q) hq (coef_trimL q)
  rw[h5] at h4;exact hq0 h4
 have hl:=top_mul_len hq (lastZ_trimL u) hp hu0 hp0 hu'
 have hpl:=List.length_pos_iff.2 hp0
 have hul:=List.length_pos_iff.2 hu0
 obtain⟨c,hc⟩:∃c,trimL u=[c]:=List.length_eq_one_iff.1 (by omega)
 have hc0:c≠0:=fun e=>by
  have:=top_ne (lastZ_trimL u) hu0
  rw[hc] at this
  exact this e
 have hqs:q=smulL c p:=coef_inj hq (smulL_eval_inj hp c hc0) (eval_coef (fun x=>by rw[hu' x,hc,eval_c,evalL_smulL]))
 rw[hqs,monicL_smul hp hc0]
def bzF:Nat→List Rat→List Rat→List Rat→List Rat→List Rat×List Rat
 |0,a,_,x,_=>(a,x)
 |n+1,a,b,x,y=>if b.length=0 then (a,x) else bzF n b (restL a b) y (trimL (addL x (smulL (-1) (trimL (mulL (divL a b).1 y)))))
theorem bzF_dv:∀(n:Nat) (a b x y:List Rat),lastZ a=false→lastZ b=false→b.length<n→a≠[]∨b≠[] →
  lastZ (bzF n a b x y).1=false∧(bzF n a b x y).1≠[]∧Dv (bzF n a b x y).1 a∧Dv (bzF n a b x y).1 b∧(∃u v,∀z,evalL (bzF n a b x y).1 z=evalL u z*evalL a z+evalL v z*evalL b z)
 |0,a,b,x,y,_,_,h,_=>by omega
 |n+1,a,b,x,y,za,zb,h,hab=>by
  unfold bzF
  by_cases hb:b.length=0
  ·rw[if_pos hb]
   have hb0:b=[]:=List.eq_nil_of_length_eq_zero hb
   subst hb0
   refine⟨za,hab.resolve_right (fun h=>h rfl),Dv.refl a,⟨[],fun x=>by show(0:Rat)=0*_;grind⟩,[1],[],fun z=>by show evalL a z=(0*z+1)*evalL a z+0*0;grind⟩
  ·rw[if_neg hb]
   have hb0:b≠[]:=fun e=>hb (by rw[e];rfl)
   have hl:=(divL_spec a zb hb0).1
   obtain⟨g1,g2,g3,g4,u,v,g5⟩:=bzF_dv n b (restL a b) y (trimL (addL x (smulL (-1) (trimL (mulL (divL a b).1 y))))) zb (restL_trim a b) (by unfold restL;omega) (Or.inl hb0)
   have he:=fun z=>rest_eval (P:=a) zb hb0 z
   obtain⟨s,hs⟩:=g3
   obtain⟨t,ht⟩:=g4
   refine⟨g1,g2,⟨addL (mulL (divL a b).1 s) t,fun z=>by rw[←he z,hs,ht,evalL_addL,evalL_mulL];grind⟩,⟨s,hs⟩,v,addL u (smulL (-1) (mulL v (divL a b).1)),fun z => ?_⟩
   rw[g5 z,evalL_addL,evalL_smulL,evalL_mulL]
   have:=he z
   grind
def bzK:Nat:=63*xB 7 63 8+60
structure BzI (n:Nat) (a b x y:List Rat) (C l:Nat):Prop where
 zx:lastZ x=false
 zy:lastZ y=false
 cx:Ch C x
 cy:Ch C y
 c1:1≤C
 lx:x.length≤l
 ly:y.length≤l
 big:(C+bzK)*2^n≤1073741824
 ll:l+6*n≤50
theorem bzK_ge:63*xB 7 63 8+50≤bzK∧bzK≤2000000:=by constructor<;>decide
theorem bz_step{n:Nat}{a b x y:List Rat}{C l K:Nat}(I:BzI (n+1) a b x y C l)(za:lastZ a=false)(zb:lastZ b=false)(hb0:b≠[])(hK:K≤xB 7 63 8)(hK1:1≤K)(ca:Ch K a)(cb:Ch K b)(la:a.length≤6)(lb:b.length≤6) :
  BzI n b (restL a b) y (trimL (addL x (smulL (-1) (trimL (mulL (divL a b).1 y))))) (2*C+bzK) (l+6) ∧
  (divL a b).1.length≤6∧Fl (9*xB 7 63 8+7) (divL a b).1∧Fl (C+bzK) (trimL (mulL (divL a b).1 y))∧(trimL (mulL (divL a b).1 y)).length≤6+l∧C+bzK≤1073741824∧l≤50:=by
 have hbl:=List.length_pos_iff.2 hb0
 have hq:=ht_quot ca cb hK1 hK1 zb hb0
 have hql:=divL_len (p:=a) zb hb0
 have hk6:=bzK_ge
 generalize hX:xB 7 63 8=X at *
 have hm1:(a.length+1-b.length)*(K+1)≤6*(K+1):=Nat.mul_le_mul_right _ (by omega)
 have hqf:Fl (9*X+7) (divL a b).1:=fl_mono hq (by omega)
 have hqc:Ch (63*X+50) (divL a b).1:=(Ch.of_fl hqf).mono (by
  have:(divL a b).1.length*(9*X+7)≤6*(9*X+7):=Nat.mul_le_mul_right _ (by omega)
  omega)
 have hmc:Ch (63*X+50+C+1) (trimL (mulL (divL a b).1 y)):=(Ch.mul hqc I.cy (by omega)).trim
 have hml:(trimL (mulL (divL a b).1 y)).length≤6+l:=by
  have h1:(trimL (mulL (divL a b).1 y)).length≤(mulL (divL a b).1 y).length:=len_trimL _
  have h2:=len_mulL (divL a b).1 y
  have:=I.ly
  omega
 have hsc:Ch (63*X+50+C+1+1) (smulL (-1) (trimL (mulL (divL a b).1 y))):=hmc.smul (by decide)
 have hac:Ch (C+(63*X+50+C+1+1)+1) (trimL (addL x (smulL (-1) (trimL (mulL (divL a b).1 y))))):=(I.cx.add hsc).trim
 have hbig:=I.big
 rw[Nat.pow_succ] at hbig
 have hp:1≤2^n:=Nat.pow_pos (by omega)
 have hle:C+bzK≤(C+bzK)*(2^n*2):=Nat.le_mul_of_pos_right _ (by omega)
 have hll:=I.ll
 have hK50:63*X+53≤bzK:=by
  have:bzK=63*X+60:=by unfold bzK;rw[hX]
  omega
 refine⟨⟨I.zy,lastZ_trimL _,I.cy.mono (by omega),hac.mono (by omega),by omega,by have:=I.ly;omega,?_,?_,by omega⟩,by omega,hqf,?_,hml,by omega,by omega⟩
 ·have h1:(trimL (addL x (smulL (-1) (trimL (mulL (divL a b).1 y))))).length≤(addL x (smulL (-1) (trimL (mulL (divL a b).1 y)))).length:=len_trimL _
  rw[len_addL,len_smulL] at h1
  have:=I.lx
  omega
 ·have e:(2*C+bzK+bzK)*2^n=(C+bzK)*(2^n*2):=by
   rw[show 2*C+bzK+bzK=(C+bzK)*2 by omega,Nat.mul_assoc,Nat.mul_comm 2 (2^n)]
  rw[e];exact hbig
 ·exact hmc.fl (by omega) |> fun h=>fl_mono h (by omega)
namespace CRsP
theorem euclid_end{a x:List Rat}{K C:Nat}(za:lastZ a=false)(ha0:a≠[])(ca:Ch K a)(hK1:1≤K)(hK:K≤1000000)(la:a.length≤6)(zx:lastZ x=false)(cx:Ch C x)(c1:1≤C)(hC:C≤1073741824)(lx:x.length≤60)(y:List ARat) :
  resultant_euclid.Loop1 (a.map mkR) [] (x.map mkR) y (.tup [pq (trimL (smulL (1/topL a) x)),pq (monicL a),.nilI]):=by
 have hal:=List.length_pos_iff.2 ha0
 have hta:=ht_top ca hK1
 have hd:=ht_div 1 (topL a)
 have h11:ht 1=1:=by decide
 exact resultant_euclid.l14 (a.map mkR) [] (x.map mkR) y (mkR 1) (a.length-1) (mkR (topL a)) (mkR (1/topL a)) _ _ none (Nat.le_refl _) (CFr.Of 1 ⟨by decide,by decide⟩) (by rw[lenM];unfold InI64;omega) (by rw[lenM];omega) (getM (getTop ha0)) (QF.Div 1 (topL a) (by omega) (by omega) (top_ne za ha0))
  (PQ.Scale x (1/topL a) zx (by omega) (cx.fl c1) (d:=K+1) (by omega) c1 (by omega)) (PQ.Scale a (1/topL a) za (by omega) (ca.fl hK1) (d:=K+1) (by omega) hK1 (by omega))
theorem euclid_loop:∀(n:Nat) (i j:Nat) (a b x y:List Rat) (C l:Nat),b.length<n→Euc 7 63 6 i j a b→a.length≤6→BzI n a b x y C l →
  resultant_euclid.Loop1 (a.map mkR) (b.map mkR) (x.map mkR) (y.map mkR) (.tup [pq (trimL (smulL (1/topL (bzF n a b x y).1) (bzF n a b x y).2)),pq (monicL (bzF n a b x y).1),.nilI])
 |0,i,j,a,b,x,y,C,l,h,_,_,_=>by omega
 |n+1,i,j,a,b,x,y,C,l,h,e,la,I=>by
  have hx8:∀k,k≤8→xB 7 63 k≤xB 7 63 8:=fun k hk=>xB_le 7 63 (by omega) hk
  have hidx:=e.idx
  have hlt:=e.lt
  have hlen:=e.len
  unfold bzF
  by_cases hb:b.length=0
  ·rw[if_pos hb]
   have hb0:b=[]:=List.eq_nil_of_length_eq_zero hb
   subst hb0
   have hbig:=I.big
   have hp:1≤2^(n+1):=Nat.pow_pos (by omega)
   have hle:C+bzK≤(C+bzK)*2^(n+1):=Nat.le_mul_of_pos_right _ (by omega)
   have hll:=I.ll
   exact euclid_end e.zp (fun e2=>by rw[e2] at hlen;simp at hlen) e.hp (xB_pos (by omega) (by omega) i) (Nat.le_trans (hx8 i (by omega)) (by decide)) la I.zx I.cx I.c1 (by omega) (by have:=I.lx;omega) _
  ·rw[if_neg hb]
   have hb0:b≠[]:=fun e2=>hb (by rw[e2];rfl)
   obtain⟨r1,r2⟩:=e.rest (by omega) hb0
   have hbd:=e.bound
   have hK:=hx8 (max i j) (by omega)
   have ki:xB 7 63 i≤xB 7 63 (max i j):=xB_le 7 63 (by omega) (by omega)
   have kj:xB 7 63 j≤xB 7 63 (max i j):=xB_le 7 63 (by omega) (by omega)
   obtain⟨I2,s1,s2,s3,s4,s5,s6⟩:=bz_step I e.zp e.zq hb0 hK (xB_pos (by omega) (by omega) _) (e.hp.mono ki) (e.hq.mono kj) la (by omega)
   have hd:=(CPl.next (a:=7) (b:=63) (N:=6) (by omega) (by omega) (by omega) (by decide) e hb0).1
   have hX:xB 7 63 8≤30000:=by decide
   have hly:=I.ly
   have hlx:=I.lx
   refine resultant_euclid.l10 _ _ _ _ _ _ _ _ (by rw[lenM];omega) hd (PQ.Mul 6 (divL a b).1 y (divL_trim a b).1 I.zy (by omega) (by omega) s2 (I.cy.fl I.c1) (by omega) I.c1 (Or.inl s1) (by omega) (by omega)) (PQ.Sub x (trimL (mulL (divL a b).1 y)) I.zx (lastZ_trimL _) (by omega) (by omega) (I.cx.fl I.c1) s3 I.c1 (by have:=I.c1;omega) (by omega)) ?_
   exact euclid_loop n _ _ b (restL a b) y _ _ _ (by omega) (e.next (by omega) hb0 r1 r2 (restL_trim a b)) (by omega) I2
end CRsP
structure Bz (p q:List Rat):Prop where
 zp:lastZ p=false
 zq:lastZ q=false
 lp:p.length≤6
 lq:q.length≤6
 fp:Fl 1 p
 fq:Fl 1 q
theorem Bz.cp{p q:List Rat}(h:Bz p q):Ch 7 p:=(Ch.of_fl h.fp).mono (by have:=h.lp;omega)
theorem Bz.cq{p q:List Rat}(h:Bz p q):Ch 7 q:=(Ch.of_fl h.fq).mono (by have:=h.lq;omega)
abbrev bzA(p q:List Rat):List Rat×List Rat:=bzF (q.length+2) p q [1] []
theorem Bz.start{p q:List Rat}(h:Bz p q):BzI (q.length+2) p q [1] [] 2 1:=by
 have hlq:=h.lq
 refine⟨by decide,rfl,(Ch.of_fl (k:=1) (p:=[1]) (fun x hx=>by simp at hx;subst hx;decide)).mono (by decide),Ch.nil (by omega),by omega,by simp,by simp,?_,by omega⟩
 have h1:2^(q.length+2)≤2^8:=Nat.pow_le_pow_right (by omega) (by omega)
 have h2:=bzK_ge
 have h2':=h2.2
 generalize bzK=B at h2' ⊢
 have h3:(2+B)*2^(q.length+2)≤(2+B)*256:=Nat.mul_le_mul_left _ h1
 omega
theorem Bz.gcd{p q:List Rat}(h:Bz p q)(hq0:q≠[]):monicL (bzA p q).1=gcdL p q:=by
 obtain⟨g1,g2,g3,g4,u,v,g5⟩:=bzF_dv (q.length+2) p q [1] [] h.zp h.zq (by omega) (Or.inr hq0)
 have hg:=gcdL_trim p q
 have hm:monicL (gcdL p q)=gcdL p q:=monicL_idem (gcdF_trim _ _ _ h.zp h.zq)
 obtain⟨d1,d2⟩:=gcdL_dv p q h.zp h.zq
 obtain⟨u',v',b1⟩:=gcdL_bez p q h.zp h.zq
 have hg0:gcdL p q≠[]:=by
  refine monicL_ne (gcdF_trim _ _ _ h.zp h.zq) (gcdF_ne _ _ _ ?_)
  exact Or.inr ⟨hq0,by omega⟩
 rw[←hm]
 refine monic_uniq g1 hg g2 hg0 ?_ ?_
 ·obtain⟨s,hs⟩:=g3
  obtain⟨t,ht⟩:=g4
  exact⟨addL (mulL u' s) (mulL v' t),fun x=>by rw[b1 x,evalL_addL,evalL_mulL,evalL_mulL,hs,ht];grind⟩
 ·obtain⟨s,hs⟩:=d1
  obtain⟨t,ht⟩:=d2
  exact⟨addL (mulL u s) (mulL v t),fun x=>by rw[g5 x,evalL_addL,evalL_mulL,evalL_mulL,hs,ht];grind⟩
def bzU(p q:List Rat):List Rat:=trimL (smulL (1/topL (bzA p q).1) (bzA p q).2)
namespace CRsP
theorem euclid{p q:List Rat}(h:Bz p q)(hq0:q≠[]):Contract prg 77 [pq p,pq q] (.tup [pq (bzU p q),pq (gcdL p q),.nilI]):=by
 have hlp:=h.lp
 have hlq:=h.lq
 have hql:=List.length_pos_iff.2 hq0
 rw[←h.gcd hq0]
 refine resultant_euclid.e0 _ _ (mkR 1) (CFr.Of 1 ⟨by decide,by decide⟩) ?_
 have I:=h.start
 unfold bzU bzA
 obtain⟨I2,s1,s2,s3,s4,s5,s6⟩:=bz_step I h.zp h.zq hq0 (K:=7) (by decide) (by omega) h.cp h.cq hlp hlq
 have hd:=PQ.Div p q h.zp h.zq hq0 (by omega) (by omega) h.cp h.cq (by omega) (by omega) (by
  have:(p.length+1-q.length)*(7+1)≤6*(7+1):=Nat.mul_le_mul_right _ (by omega)
  omega)
 have hX:xB 7 63 8≤30000:=by decide
 refine resultant_euclid.l10 (p.map mkR) (q.map mkR) [mkR 1] [] _ _ _ _ (by rw[lenM];omega) hd (PQ.Mul 6 (divL p q).1 [] (divL_trim p q).1 rfl (by omega) (by simp) s2 (b:=1) (fun x hx=>by cases hx) (by omega) (by omega) (Or.inl s1) (by simp;omega) (by omega)) (PQ.Sub [1] (trimL (mulL (divL p q).1 [])) (by decide) (lastZ_trimL _) (by simp) (by omega) (a:=1) (fun x hx=>by simp at hx;subst hx;decide) s3 (by omega) (by have:=bzK_ge;omega) (by omega)) ?_
 rw[show bzF (q.length+2) p q [1] []=bzF (q.length+1) q (restL p q) [] (trimL (addL [1] (smulL (-1) (trimL (mulL (divL p q).1 []))))) from by rw[bzF,if_neg (by omega)]]
 have hr:Ch 63 (restL p q):=(h.cp.rest h.cq h.zq hq0).mono (by
  have:(p.length+1-q.length)*(7+1)≤6*(7+1):=Nat.mul_le_mul_right _ (by omega)
  omega)
 have hrl:(restL p q).length<q.length:=(divL_spec p h.zq hq0).1
 exact euclid_loop (q.length+1) 0 1 q (restL p q) [] _ _ _ (by omega) ⟨h.cq,hr,by omega,hrl,by omega,h.zq,restL_trim p q⟩ hlq I2
end CRsP
end Go.Proofs.YtboilcfohmmpbaaGreatDoor.Sym
namespace Go.Proofs.YtboilcfohmmpbaaGreatDoor.Sym
open Go Path CInt Dt Rs
set_option linter.unusedVariables false
theorem dv_rest0{p q:List Rat}(h:Dv q p)(hz:lastZ q=false)(h0:q≠[]):restL p q=[]:=by
 obtain⟨u,hu⟩:=h
 have hl:=List.length_pos_iff.2 h0
 refine coef_inj (restL_trim p q) rfl (fun i => ?_)
 exact rem_coef (a:=u) (r:=[]) hz h0 (by simpa using hl) (fun x=>by rw[hu x];show _+(0:Rat)=_;grind) i
theorem bz_fin:∀(n:Nat) (i j:Nat) (a b x y:List Rat) (C l:Nat),b.length<n→Euc 7 63 6 i j a b→a.length≤6→BzI n a b x y C l →
  lastZ (bzF n a b x y).2=false∧Ch 1073741824 (bzF n a b x y).2∧(bzF n a b x y).2.length≤50∧Ch 30000 (bzF n a b x y).1∧(bzF n a b x y).1.length≤6
 |0,i,j,a,b,x,y,C,l,h,_,_,_=>by omega
 |n+1,i,j,a,b,x,y,C,l,h,e,la,I=>by
  have hx8:∀k,k≤8→xB 7 63 k≤xB 7 63 8:=fun k hk=>xB_le 7 63 (by omega) hk
  have hX:xB 7 63 8≤30000:=by decide
  have hidx:=e.idx
  have hlt:=e.lt
  have hlen:=e.len
  unfold bzF
  by_cases hb:b.length=0
  ·rw[if_pos hb]
   have hbig:=I.big
   have hp:1≤2^(n+1):=Nat.pow_pos (by omega)
   have hle:C+bzK≤(C+bzK)*2^(n+1):=Nat.le_mul_of_pos_right _ (by omega)
   have hll:=I.ll
   exact⟨I.zx,I.cx.mono (by omega),(by have:=I.lx;show x.length≤50;omega),e.hp.mono (Nat.le_trans (hx8 i (by omega)) hX),la⟩
  ·rw[if_neg hb]
   have hb0:b≠[]:=fun e2=>hb (by rw[e2];rfl)
   obtain⟨r1,r2⟩:=e.rest (by omega) hb0
   have hbd:=e.bound
   have hK:=hx8 (max i j) (by omega)
   have ki:xB 7 63 i≤xB 7 63 (max i j):=xB_le 7 63 (by omega) (by omega)
   have kj:xB 7 63 j≤xB 7 63 (max i j):=xB_le 7 63 (by omega) (by omega)
   obtain⟨I2, -⟩:=bz_step I e.zp e.zq hb0 hK (xB_pos (by omega) (by omega) _) (e.hp.mono ki) (e.hq.mono kj) la (by omega)
   exact bz_fin n _ _ b (restL a b) y _ _ _ (by omega) (e.next (by omega) hb0 r1 r2 (restL_trim a b)) (by omega) I2
theorem bzF_id{P Q:List Rat} : ∀(n:Nat) (a b x y:List Rat),b.length<n→lastZ b=false→(∃w,∀z,evalL a z=evalL x z*evalL P z+evalL w z*evalL Q z)→(∃w,∀z,evalL b z=evalL y z*evalL P z+evalL w z*evalL Q z) →
  ∃w,∀z,evalL (bzF n a b x y).1 z=evalL (bzF n a b x y).2 z*evalL P z+evalL w z*evalL Q z
 |0,a,b,x,y,h,_,_,_=>by omega
 |n+1,a,b,x,y,h,zb,ha,hb=>by
  unfold bzF
  by_cases hb1:b.length=0
  ·rw[if_pos hb1];exact ha
  ·rw[if_neg hb1]
   have hb0:b≠[]:=fun e=>hb1 (by rw[e];rfl)
   have hl:=(divL_spec a zb hb0).1
   refine bzF_id n b (restL a b) y _ (by unfold restL;omega) (restL_trim a b) hb ?_
   obtain⟨w1,h1⟩:=ha
   obtain⟨w2,h2⟩:=hb
   refine⟨addL w1 (smulL (-1) (mulL (divL a b).1 w2)),fun z => ?_⟩
   have he:=rest_eval (P:=a) zb hb0 z
   have h1:=h1 z
   have h2:=h2 z
   rw[evalL_trimL,evalL_addL,evalL_smulL,evalL_trimL,evalL_mulL,evalL_addL,evalL_smulL,evalL_mulL]
   grind
abbrev bzM(p q:List Rat):List Rat:=(divL q (gcdL p q)).1
def bzu(p q:List Rat):List Rat:=restL (bzU p q) (bzM p q)
def bzD(p q:List Rat):List Rat:=lessL (gcdL p q) (timL (bzu p q) p)
def bzv(p q:List Rat):List Rat:=(divL (trimL (bzD p q)) q).1
structure BzR (p q:List Rat):Prop where
 zg:lastZ (gcdL p q)=false
 g0:gcdL p q≠[]
 lg:(gcdL p q).length≤6
 cg:Ch 30000 (gcdL p q)
 zm:lastZ (bzM p q)=false
 m0:bzM p q≠[]
 lm:(bzM p q).length≤6
 cm:Ch 1260079 (bzM p q)
 zU:lastZ (bzU p q)=false
 lU:(bzU p q).length≤50
 cU:Ch 1073771826 (bzU p q)
 zu:lastZ (bzu p q)=false
 lu:(bzu p q).length≤5
 cu:Ch 1140000000 (bzu p q)
 ct:Ch 1140000008 (timL (bzu p q) p)
 lt:(timL (bzu p q) p).length≤11
 cd:Ch 1140030010 (bzD p q)
 ld:(bzD p q).length≤11
 zv:lastZ (bzv p q)=false
 lv:(bzv p q).length≤12
 fv:Fl 1140030200 (bzv p q)
 id:∀z,evalL (bzu p q) z*evalL p z+evalL (bzv p q) z*evalL q z=evalL (gcdL p q) z
theorem Bz.fin{p q:List Rat}(h:Bz p q)(hq0:q≠[]):lastZ (bzA p q).2=false∧Ch 1073741824 (bzA p q).2∧(bzA p q).2.length≤50∧Ch 30000 (bzA p q).1∧(bzA p q).1.length≤6:=by
 have hlp:=h.lp
 have hlq:=h.lq
 have hql:=List.length_pos_iff.2 hq0
 have I:=h.start
 unfold bzA
 obtain⟨I2,s1,s2,s3,s4,s5,s6⟩:=bz_step I h.zp h.zq hq0 (K:=7) (by decide) (by omega) h.cp h.cq hlp hlq
 rw[show bzF (q.length+2) p q [1] []=bzF (q.length+1) q (restL p q) [] (trimL (addL [1] (smulL (-1) (trimL (mulL (divL p q).1 []))))) from by rw[bzF,if_neg (by omega)]]
 have hr:Ch 63 (restL p q):=(h.cp.rest h.cq h.zq hq0).mono (by
  have:(p.length+1-q.length)*(7+1)≤6*(7+1):=Nat.mul_le_mul_right _ (by omega)
  omega)
 have hrl:(restL p q).length<q.length:=(divL_spec p h.zq hq0).1
 exact bz_fin (q.length+1) 0 1 q (restL p q) [] _ _ _ (by omega) ⟨h.cq,hr,by omega,hrl,by omega,h.zq,restL_trim p q⟩ hlq I2
theorem Bz.res{p q:List Rat}(h:Bz p q)(hq0:q≠[]):BzR p q:=by
 have hlp:=h.lp
 have hlq:=h.lq
 have hql:=List.length_pos_iff.2 hq0
 obtain⟨f1,f2,f3,f4,f5⟩:=h.fin hq0
 obtain⟨a1,a2, -, -, -⟩:=bzF_dv (q.length+2) p q [1] [] h.zp h.zq (by omega) (Or.inr hq0)
 have hgcd:=h.gcd hq0
 have zg:=gcdL_trim p q
 have g0:gcdL p q≠[]:=by rw[←hgcd];exact monicL_ne a1 a2
 have lg:(gcdL p q).length≤6:=by rw[←hgcd,monicL_len a1];exact f5
 have cg:Ch 30000 (gcdL p q):=by rw[←hgcd];exact f4.monic (by omega) a1
 obtain⟨d1,d2⟩:=gcdL_dv p q h.zp h.zq
 have zm:lastZ (bzM p q)=false:=(divL_trim _ _).1
 have rq:restL q (gcdL p q)=[]:=dv_rest0 d2 zg g0
 have eq:∀z,evalL q z=evalL (bzM p q) z*evalL (gcdL p q) z:=fun z=>by
  have:=rest_eval (P:=q) zg g0 z
  rw[rq] at this
  change _+(0:Rat)=_ at this
  grind
 have m0:bzM p q≠[]:=fun e=>by
  have h4:trimL q=trimL []:=eval_ext (fun z=>by rw[eq z,e];show(0:Rat)*_=0;grind)
  have h5:trimL q=q:=coef_inj (lastZ_trimL q) h.zq (coef_trimL q)
  rw[h5] at h4
  exact hq0 h4
 have hgl:=List.length_pos_iff.2 g0
 have lm:(bzM p q).length≤6:=by have:(bzM p q).length≤_:=divL_len (p:=q) zg g0;omega
 have fm:Fl 210013 (bzM p q):=fl_mono (ht_quot h.cq cg (by omega) (by omega) zg g0) (by
  have:(q.length+1-(gcdL p q).length)*(30000+1)≤6*(30000+1):=Nat.mul_le_mul_right _ (by omega)
  omega)
 have cm:Ch 1260079 (bzM p q):=(Ch.of_fl fm).mono (Nat.le_trans (Nat.add_le_add_right (Nat.mul_le_mul_right 210013 lm) 1) (by decide))
 have zU:lastZ (bzU p q)=false:=lastZ_trimL _
 have lU:(bzU p q).length≤50:=by
  have h1:∀c:Rat,(trimL (smulL c (bzA p q).2)).length≤50:=fun c=>by
   have:=len_trimL (smulL c (bzA p q).2)
   rw[len_smulL] at this
   omega
  exact h1 _
 have hta:=ht_top f4 (by omega)
 have hd:=ht_div 1 (topL (bzA p q).1)
 have h11:Sym.ht 1=1:=by decide
 have cU:Ch 1073771826 (bzU p q):=((f2.smul (k:=30002) (c:=1/topL (bzA p q).1) (by omega)).trim).mono (by omega)
 have zu:lastZ (bzu p q)=false:=restL_trim _ _
 have hml:=List.length_pos_iff.2 m0
 have lu:(bzu p q).length≤5:=by
  have:(bzu p q).length≤(bzM p q).length-1:=rest_len zm m0
  omega
 have cu:Ch 1140000000 (bzu p q):=(cU.rest cm zm m0).mono (by
  have:((bzU p q).length+1-(bzM p q).length)*(1260079+1)≤50*(1260079+1):=Nat.mul_le_mul_right _ (by omega)
  omega)
 have ct:Ch 1140000008 (timL (bzu p q) p):=(Ch.mul cu h.cp (by omega)).congr (fun i=>(timL_coef _ _ i).symm)
 have lt:(timL (bzu p q) p).length≤11:=by have:=timL_len (bzu p q) p;omega
 have cd:Ch 1140030010 (bzD p q):=by
  refine((cg.add (ct.smul (k:=1) (c := -1) (by decide))).congr (fun i => ?_)).mono (by omega)
  unfold bzD
  rw[lessL_coef,coef_addL,coef_smulL]
  grind
 have ld:(bzD p q).length≤11:=by unfold bzD;rw[lessL_len];omega
 have ltd:(trimL (bzD p q)).length≤11:=Nat.le_trans (len_trimL _) ld
 have zv:lastZ (bzv p q)=false:=(divL_trim _ _).1
 have lv:(bzv p q).length≤12:=by
  have:(bzv p q).length≤_:=divL_len (p:=trimL (bzD p q)) h.zq hq0
  omega
 have fv:Fl 1140030200 (bzv p q):=fl_mono (ht_quot cd.trim h.cq (by omega) (by omega) h.zq hq0) (by
  have:((trimL (bzD p q)).length+1-q.length)*(7+1)≤11*(7+1):=Nat.mul_le_mul_right _ (by omega)
  omega)
 refine⟨zg,g0,lg,cg,zm,m0,lm,cm,zU,lU,cU,zu,lu,cu,ct,lt,cd,ld,zv,lv,fv,?_⟩
 obtain⟨w,hw⟩:=bzF_id (P:=p) (Q:=q) (q.length+2) p q [1] [] (by omega) h.zq ⟨[],fun z=>by show _=(0*z+1)*_+0*_;grind⟩ ⟨[1],fun z=>by show _=0*_+(0*z+1)*_;grind⟩
 obtain⟨p',hp'⟩:=d1
 have eU:∀z,evalL (bzU p q) z=1/topL (bzA p q).1*evalL (bzA p q).2 z:=fun z=>by unfold bzU;rw[evalL_trimL,evalL_smulL]
 have eg:∀z,evalL (gcdL p q) z=1/topL (bzA p q).1*evalL (bzA p q).1 z:=fun z=>by rw[←hgcd,monicL_eval]
 have eu:=fun z=>rest_eval (P:=bzU p q) zm m0 z
 have ed:∀z,evalL (bzD p q) z=evalL (gcdL p q) z-evalL (bzu p q) z*evalL p z:=fun z=>by
  have e1:trimL (bzD p q)=trimL (addL (gcdL p q) (smulL (-1) (mulL (bzu p q) p))):=trimL_ext (fun i=>by unfold bzD;rw[lessL_coef,timL_coef,coef_addL,coef_smulL];grind)
  rw[←evalL_trimL,e1,evalL_trimL,evalL_addL,evalL_smulL,evalL_mulL]
  grind
 have hdv:Dv q (trimL (bzD p q)):=by
  refine⟨addL (smulL (1/topL (bzA p q).1) w) (mulL (divL (bzU p q) (bzM p q)).1 p'),fun z => ?_⟩
  have t1:=hw z
  have t2:=hp' z
  have t3:=eu z
  have t4:=eq z
  have t5:=eU z
  have t6:=eg z
  rw[evalL_trimL,ed z,evalL_addL,evalL_smulL,evalL_mulL]
  change evalL _ z*evalL _ z+evalL (bzu p q) z=_ at t3
  change evalL (bzA p q).1 z=evalL (bzA p q).2 z*_+_ at t1
  generalize 1/topL (bzA p q).1=c at *
  generalize evalL (bzA p q).1 z=A at *
  generalize evalL (bzA p q).2 z=X at *
  generalize evalL (bzU p q) z=U at *
  generalize evalL (bzu p q) z=u at *
  generalize evalL (bzM p q) z=M at *
  generalize evalL (gcdL p q) z=g at *
  generalize evalL (divL (bzU p q) (bzM p q)).1 z=k at *
  generalize evalL p z=Pz at *
  generalize evalL q z=Qz at *
  generalize evalL w z=W at *
  generalize evalL p' z=P' at *
  have s1:u=U-k*M:=by grind
  have s2:k*M*Pz=k*P'*Qz:=by rw[t2,t4];grind
  have s3:g=U*Pz+c*W*Qz:=by rw[t6,t1,t5];grind
  rw[s1,s3]
  grind
 have rv:restL (trimL (bzD p q)) q=[]:=dv_rest0 hdv h.zq hq0
 intro z
 have e2:=rest_eval (P:=trimL (bzD p q)) h.zq hq0 z
 rw[rv,evalL_trimL,ed z] at e2
 change evalL (bzv p q) z*_+(0:Rat)=_ at e2
 grind
namespace CRsP
theorem checks0{p q:List Rat}(zp:lastZ p=false)(zq:lastZ q=false)(lp:p.length≤65)(lq:q.length≤65)(fp:Fl 68719476736 p)(fq:Fl 68719476736 q):Contract prg 43 [lpv (lcell ARat.cells) [p.map mkR,q.map mkR]] .nilI:=by
 have:=CRs.checks [p.map mkR,q.map mkR] (by simp) (fun l hl=>by
  simp at hl
  rcases hl with rfl|rfl
  ·exact fitQ fp (by omega)
  ·exact fitQ fq (by omega))
 rwa[show chkL [p.map mkR,q.map mkR]=0 from by unfold chkL chkL chkL;rw[chk_map zp lp,chk_map zq lq];rfl] at this
theorem BezoutQ{p q:List Rat}(h:Bz p q)(hq0:q≠[]):Contract prg 35 [pq p,pq q] (.tup [pq (bzu p q),pq (bzv p q),pq (gcdL p q),.nilI]):=by
 have hlp:=h.lp
 have hlq:=h.lq
 have hql:=List.length_pos_iff.2 hq0
 have R:=h.res hq0
 have hgl:=List.length_pos_iff.2 R.g0
 have hml:=List.length_pos_iff.2 R.m0
 have lm:=R.lm
 have lu:=R.lu
 have lU:=R.lU
 have hc:=checks0 h.zp h.zq (by omega) (by omega) (fl_mono h.fp (by omega)) (fl_mono h.fq (by omega))
 have he:=euclid h hq0
 have hd1:=PQ.Div q (gcdL p q) h.zq R.zg R.g0 (by omega) (by have:=R.lg;omega) h.cq R.cg (by omega) (by omega) (by
  have:(q.length+1-(gcdL p q).length)*(30000+1)≤6*(30000+1):=Nat.mul_le_mul_right _ (by omega)
  omega)
 have hd2:=PQ.Div (bzU p q) (bzM p q) R.zU R.zm R.m0 (by omega) (by omega) R.cU R.cm (by omega) (by omega) (by
  have:((bzU p q).length+1-(bzM p q).length)*(1260079+1)≤50*(1260079+1):=Nat.mul_le_mul_right _ (by omega)
  omega)
 have ht:Contract prg 81 [pq (bzu p q),pq p] (pq (timL (bzu p q) p)):=times 6 (bzu p q) p (by omega) (by omega) (R.cu.fl (by omega)) h.fp (by omega) (by omega) (Or.inl (by omega)) (by omega)
 have hl:Contract prg 80 [pq (gcdL p q),pq (timL (bzu p q) p)] (pq (bzD p q)):=less (gcdL p q) (timL (bzu p q) p) (by have:=R.lg;omega) (by have:=R.lt;omega) (R.cg.fl (by omega)) (R.ct.fl (by omega)) (by omega) (by omega) (by omega)
 have ltd:(trimL (bzD p q)).length≤11:=Nat.le_trans (len_trimL _) R.ld
 have hv:Contract prg 79 [pq (bzD p q),pq q] (.tup [pq (bzv p q),.nilI]):=quotient (bzD p q) (trimL (bzD p q)) q rfl R.cd (by have:=R.ld;omega) h.zq hq0 R.cd.trim h.cq (by omega) (by omega) (by omega) (by omega) (by
  have:((trimL (bzD p q)).length+1-q.length)*(7+1)≤11*(7+1):=Nat.mul_le_mul_right _ (by omega)
  omega)
 by_cases h0:p.length=0
 ·exact resultant_Bezout.e1 _ _ _ _ _ _ _ _ _ _ _ hc (by rw[lenM];exact h0) (by rw[lenM];omega) he hd1 hd2 ht hl hv
 ·exact resultant_Bezout.e8 _ _ _ _ _ _ _ _ _ _ _ hc (by rw[lenM];exact h0) (by rw[lenM];omega) he hd1 hd2 ht hl hv
end CRsP
end Go.Proofs.YtboilcfohmmpbaaGreatDoor.Sym
namespace Go.Proofs.YtboilcfohmmpbaaGreatDoor.Sym
open Go Path CInt Dt Rs
set_option linter.unusedVariables false
theorem E_ht{n c B:Nat}{M:Mx}(hB:1≤B)(hc:c<n)(h:∀i k,i<n→k<n→ht (M i k)≤B):∀i k,i<n→k<n→ht (E c M i k)≤5*B:=by
 intro i k hi hk
 have h1:=h i k hi hk
 unfold E
 split
 ·have h2:=h i c hi hc
  have h3:=h c c hc hc
  have h4:=ht_div (M i c) (M c c)
  exact(ht_step hB h1 (h c k hc hk) (by omega)).2
 ·omega
theorem sw_ht{n r k B:Nat}{M:Mx}(hr:r<n)(hk:k<n)(h:∀i k,i<n→k<n→ht (M i k)≤B):∀i j,i<n→j<n→ht (sw r k M i j)≤B:=by
 intro i j hi hj
 unfold sw
 split
 ·exact h _ _ hk hj
 ·split
  ·exact h _ _ hr hj
  ·exact h _ _ hi hj
theorem detG_ht{n B0:Nat}(hB0:1≤B0):∀(f c:Nat) (out:Rat) (M:Mx),c+f=n→(∀i k,i<n→k<n→ht (M i k)≤5^c*B0)→ht out≤5^c*B0→ht (detG n f c out M)≤5^n*B0
 |0,c,out,M,hc,_,ho=>by
  have:c=n:=by omega
  subst this
  exact ho
 |f+1,c,out,M,hc,hM,ho=>by
  have hcn:c<n:=by omega
  have hpow:5^(c+1)*B0=5*(5^c*B0):=by rw[Nat.pow_succ,Nat.mul_comm (5^c) 5,Nat.mul_assoc]
  have hp1:1≤5^c*B0:=Nat.mul_pos (Nat.pow_pos (by omega)) hB0
  obtain⟨p1,p2,p3,p4⟩:=piv_spec M c (n-c) c
  have go:∀(o:Rat) (N:Mx),ht o≤5^c*B0→(∀i k,i<n→k<n→ht (N i k)≤5^c*B0)→ht (detG n f (c+1) (o*N c c) (E c N))≤5^n*B0:=by
   intro o N h1 h2
   refine detG_ht hB0 f (c+1) _ _ (by omega) ?_ ?_
   ·rw[hpow];exact E_ht hp1 hcn h2
   ·have h3:=ht_mul o (N c c)
    have h4:=h2 c c hcn hcn
    rw[hpow];omega
  unfold detG
  split
  ·have:1≤5^n*B0:=Nat.mul_pos (Nat.pow_pos (by omega)) hB0
   have h0:ht 0=1:=by decide
   omega
  ·rename_i hpn
   split
   ·exact go out M ho hM
   ·exact go (-out) _ (by rw[ht_neg];exact ho) (sw_ht (by omega) hcn hM)
theorem res_ht{p q:List Rat}{B:Nat}(hp:p≠[])(hq:q≠[])(fp:Fl B p)(fq:Fl B q)(hB:1≤B):ht (res p q)≤5^(p.length-1+(q.length-1))*B:=by
 unfold res
 rw[←detF_eq]
 unfold detF
 refine detG_ht hB _ 0 1 _ (by omega) (fun i k hi hk => ?_) ?_
 ·have:=syl_ht hp hq fp fq hB i k hi hk
  rw[Nat.pow_zero];omega
 ·rw[show ht 1=1 by decide,Nat.pow_zero];omega
structure RsOk (B:Nat) (p q:List Rat):Prop where
 zp:lastZ p=false
 zq:lastZ q=false
 p0:p≠[]
 q0:q≠[]
 lp:p.length≤65
 lq:q.length≤65
 l:p.length-1+(q.length-1)≤40
 fp:Fl B p
 fq:Fl B q
 B1:1≤B
 k:5^(p.length-1+(q.length-1)+1)*B≤68719476736
theorem RsOk.B{B:Nat}{p q:List Rat}(h:RsOk B p q):B≤68719476736:=by
 have:=h.k
 have h1:1*B≤5^(p.length-1+(q.length-1)+1)*B:=Nat.mul_le_mul_right _ (Nat.pow_pos (by omega))
 omega
theorem RsOk.ht{B:Nat}{p q:List Rat}(h:RsOk B p q):5*Sym.ht (Rs.res p q)≤68719476736:=by
 have h1:=res_ht h.p0 h.q0 h.fp h.fq h.B1
 have h2:=h.k
 rw[Nat.pow_succ,Nat.mul_comm _ 5,Nat.mul_assoc] at h2
 omega
theorem RsOk.mat{B:Nat}{p q:List Rat}(h:RsOk B p q):MatR (p.length-1+(q.length-1)) B (mkH (p.length-1+(q.length-1)) (p.length-1+(q.length-1))) (mkX (p.length-1+(q.length-1)) (p.length-1+(q.length-1)) (syl p q)) (syl p q):=mk_mat (syl_ht h.p0 h.q0 h.fp h.fq h.B1)
namespace CRsP
theorem SylvesterX{B:Nat}{p q:List Rat}(h:RsOk B p q) :
  ContractX prg 12 [.pv (pq p),.pv (pq q)] [] (.rowT 0 0 (mkH (p.length-1+(q.length-1)) (p.length-1+(q.length-1))).length 1 [.nilI]) [(0,.mats (mkH (p.length-1+(q.length-1)) (p.length-1+(q.length-1))) 3),(999999,.heap (hrows ARat.cells (mkX (p.length-1+(q.length-1)) (p.length-1+(q.length-1)) (syl p q))))] :=
 resultant_SylvesterM.e0 (p.map mkR) (q.map mkR) _ _ none (checks0 h.zp h.zq h.lp h.lq (fl_mono h.fp h.B) (fl_mono h.fq h.B)) (sylvester h.p0 h.q0 h.l h.fp h.fq h.B)
theorem ResultantQ{B:Nat}{p q:List Rat}(h:RsOk B p q):Contract prg 13 [pq p,pq q] (.tup [(mkR (res p q)).pv,.nilI]):=by
 have hl:=h.l
 have hd:=CDtP.det (by omega) h.B1 h.k h.mat
 rw[detF_eq] at hd
 exact resultant_Resultant.e0 (p.map mkR) (q.map mkR) _ _ (mkR (res p q)) none (SylvesterX h) hd
end CRsP
theorem coef_deriveL(p:List Rat)(j:Nat):coef (deriveL p) j=((1+j:Nat):Int)*coef p (j+1):=by
 have hc2:∀(q:List Rat) (i j:Nat),coef (derI i q) j=((i+j:Nat):Int)*coef q j:=by
  intro q
  induction q with
  |nil=>intro i j;show(0:Rat)=_*0;grind
  |cons a q ih =>
   intro i j
   cases j with
   |zero=>show((i:Int):Rat)*a=_;rfl
   |succ j=>exact(ih (i+1) j).trans (by rw[show i+1+j=i+(j+1) by omega];rfl)
 unfold deriveL
 rw[coef_trimL,hc2]
 congr 1
 cases p with
 |nil=>rfl
 |cons a p=>rfl
theorem deriveL_length{p:List Rat}(hz:lastZ p=false)(h:2≤p.length):(deriveL p).length=p.length-1:=by
 have h1:=deriveL_lt2 (p:=p) (fun e=>by rw[e] at h;simp at h)
 refine Nat.le_antisymm (by omega) (Nat.le_of_not_lt fun hlt => ?_)
 have h2:coef (deriveL p) (p.length-2)=0:=coef_ge (by omega)
 rw[coef_deriveL,show p.length-2+1=p.length-1 by omega] at h2
 rcases Rat.mul_eq_zero.1 h2 with e|e
 ·have:((1+(p.length-2):Nat):Int)=0:=by exact_mod_cast e
  omega
 ·exact top_ne hz (fun e2=>by rw[e2] at h;simp at h) e
def discL(p:List Rat):Rat:=(if (p.length-1)*(p.length-1-1)/2%2=1 then -res p (deriveL p) else res p (deriveL p))/topL p
structure DsOk (p:List Rat):Prop where
 zp:lastZ p=false
 l2:2≤p.length
 l:p.length≤6
 fp:Fl 1 p
theorem DsOk.rs{p:List Rat}(h:DsOk p):RsOk 3 p (deriveL p):=by
 have h1:=h.l
 have h2:=h.l2
 have h3:=deriveL_length h.zp h.l2
 refine⟨h.zp,lastZ_deriveL p,fun e=>by rw[e] at h2;simp at h2,fun e=>by rw[e] at h3;simp at h3;omega,by omega,by omega,by omega,fl_mono h.fp (by omega),fl_deriveL (by omega) h.fp,by omega,?_⟩
 have h4:5^(p.length-1+((deriveL p).length-1)+1)≤5^10:=Nat.pow_le_pow_right (by omega) (by omega)
 have h5:5^(p.length-1+((deriveL p).length-1)+1)*3≤5^10*3:=Nat.mul_le_mul_right _ h4
 exact Nat.le_trans h5 (by decide)
theorem DsOk.num{p:List Rat}(h:DsOk p):(((p.length:Int)-1)*(((p.length:Int)-1)-1))=(((p.length-1)*(p.length-1-1):Nat):Int)∧(p.length-1)*(p.length-1-1)≤20:=by
 have h1:=h.l
 have h2:=h.l2
 have hm:(p.length-1)*(p.length-1-1)≤5*4:=Nat.mul_le_mul (by omega) (by omega)
 refine⟨?_,by omega⟩
 rw[Int.natCast_mul]
 congr 1<;>omega
theorem CRsP.DiscriminantQ{p:List Rat}(h:DsOk p):Contract prg 14 [pq p] (.tup [(mkR (discL p)).pv,.nilI]):=by
 have h1:=h.l
 have h2:=h.l2
 obtain⟨n1,n2⟩:=h.num
 have hp0:p≠[]:=fun e=>by rw[e] at h2;simp at h2
 have hR:=h.rs
 have hr:=hR.ht
 have hc:=CPo.Check (p.map mkR) (fitQ h.fp (by omega))
 rw[chk_map h.zp (by omega)] at hc
 have hd:=CPl.Degree (p.map mkR) (by simp;omega)
 rw[lenM] at hd
 have cp:Ch 7 p:=(Ch.of_fl h.fp).mono (by omega)
 have hta:=ht_top cp (by omega)
 have htn:=top_ne h.zp hp0
 unfold discL
 by_cases ho:(p.length-1)*(p.length-1-1)/2%2=1
 ·rw[if_pos ho]
  exact resultant_Discriminant.e2 (p.map mkR) _ _ _ ((p.length-1)*(p.length-1-1)) _ (p.length-1) (mkR (topL p)) _ none hc hd (by omega) (by omega) (PQ.Derive p h.zp (by omega) h.fp (by omega)) (CRsP.ResultantQ hR) (by unfold InI64;omega) (by rw[n1];unfold InI64;omega) n1 (by omega) ho (QF.Neg _ (by omega)) (by omega) (getM (getTop hp0)) (QF.Div _ _ (by rw[ht_neg];omega) (by omega) htn)
 ·rw[if_neg ho]
  exact resultant_Discriminant.e3 (p.map mkR) _ _ _ ((p.length-1)*(p.length-1-1)) (p.length-1) (mkR (topL p)) _ none hc hd (by omega) (by omega) (PQ.Derive p h.zp (by omega) h.fp (by omega)) (CRsP.ResultantQ hR) (by unfold InI64;omega) (by rw[n1];unfold InI64;omega) n1 (by omega) ho (by omega) (getM (getTop hp0)) (QF.Div _ _ (by omega) (by omega) htn)
end Go.Proofs.YtboilcfohmmpbaaGreatDoor.Sym
namespace Go.Proofs.YtboilcfohmmpbaaGreatDoor.Sym.Lay
open Go Go.Shelf Go.Proofs
set_option maxRecDepth 20000
def ren:Ren:=⟨fun n=>match n with|129=>185|156=>132|165=>153|166=>154|169=>156|171=>130|240=>175|241=>176|243=>150|246=>171|276=>182|277=>183|283=>178|284=>179|285=>180|286=>181|317=>184|318=>186|319=>187|320=>188|337=>189|338=>190|n=>n,
 fun n=>match n with|0=>0|2=>2|3=>3|4=>4|5=>5|9=>9|20=>20|31=>141|37=>155|46=>136|51=>77|53=>135|70=>154|72=>157|75=>28|76=>159|80=>162|127=>174|164=>180|171=>175|173=>178|212=>185|213=>186|232=>189|233=>190|n=>n,
 fun n=>match n with|17=>0|18=>2|19=>3|n=>n⟩
theorem lays156:Lays.n156 Tryz.prog ren where
 mixed:=by kernel_rfl
 f156:=Tryz.func132.trans (congrArg some (by kernel_rfl))
 f165:=Tryz.func153.trans (congrArg some (by kernel_rfl))
 f166:=Tryz.func154.trans (congrArg some (by kernel_rfl))
 f169:=Tryz.func156.trans (congrArg some (by kernel_rfl))
 f240:=Tryz.func175.trans (congrArg some (by kernel_rfl))
 f241:=Tryz.func176.trans (congrArg some (by kernel_rfl))
 f276:=Tryz.func182.trans (congrArg some (by kernel_rfl))
 f277:=Tryz.func183.trans (congrArg some (by kernel_rfl))
 t0:=Tryz.underlying0
 a0:=Tryz.isAgg0
 z0:=Tryz.sizeOf0
 v0:=Tryz.zeroValue0
 t3:=Tryz.underlying3
 a3:=Tryz.isAgg3
 z3:=Tryz.sizeOf3
 v3:=Tryz.zeroValue3
 t4:=Tryz.underlying4
 a4:=Tryz.isAgg4
 z4:=Tryz.sizeOf4
 v4:=Tryz.zeroValue4
 t9:=Tryz.underlying9
 a9:=Tryz.isAgg9
 z9:=Tryz.sizeOf9
 v9:=Tryz.zeroValue9
 t20:=Tryz.underlying20
 a20:=Tryz.isAgg20
 z20:=Tryz.sizeOf20
 v20:=Tryz.zeroValue20
 t31:=Tryz.underlying141
 a31:=Tryz.isAgg141
 z31:=Tryz.sizeOf141
 v31:=Tryz.zeroValue141
 t37:=Tryz.underlying155
 a37:=Tryz.isAgg155
 z37:=Tryz.sizeOf155
 v37:=Tryz.zeroValue155
 t70:=Tryz.underlying154
 a70:=Tryz.isAgg154
 z70:=Tryz.sizeOf154
 v70:=Tryz.zeroValue154
 t72:=Tryz.underlying157
 a72:=Tryz.isAgg157
 z72:=Tryz.sizeOf157
 v72:=Tryz.zeroValue157
 t75:=Tryz.underlying28
 a75:=Tryz.isAgg28
 z75:=Tryz.sizeOf28
 v75:=Tryz.zeroValue28
 t76:=Tryz.underlying159
 a76:=Tryz.isAgg159
 z76:=Tryz.sizeOf159
 v76:=Tryz.zeroValue159
 t127:=Tryz.underlying174
 a127:=Tryz.isAgg174
 z127:=Tryz.sizeOf174
 v127:=Tryz.zeroValue174
 t164:=Tryz.underlying180
 a164:=Tryz.isAgg180
 z164:=Tryz.sizeOf180
 v164:=Tryz.zeroValue180
theorem lays171:Lays.n171 Tryz.prog ren where
 mixed:=by kernel_rfl
 f129:=Tryz.func185.trans (congrArg some (by kernel_rfl))
 f171:=Tryz.func130.trans (congrArg some (by kernel_rfl))
 f243:=Tryz.func150.trans (congrArg some (by kernel_rfl))
 f246:=Tryz.func171.trans (congrArg some (by kernel_rfl))
 f283:=Tryz.func178.trans (congrArg some (by kernel_rfl))
 f284:=Tryz.func179.trans (congrArg some (by kernel_rfl))
 f285:=Tryz.func180.trans (congrArg some (by kernel_rfl))
 f286:=Tryz.func181.trans (congrArg some (by kernel_rfl))
 f317:=Tryz.func184.trans (congrArg some (by kernel_rfl))
 f318:=Tryz.func186.trans (congrArg some (by kernel_rfl))
 f319:=Tryz.func187.trans (congrArg some (by kernel_rfl))
 f320:=Tryz.func188.trans (congrArg some (by kernel_rfl))
 f337:=Tryz.func189.trans (congrArg some (by kernel_rfl))
 f338:=Tryz.func190.trans (congrArg some (by kernel_rfl))
 t0:=Tryz.underlying0
 a0:=Tryz.isAgg0
 z0:=Tryz.sizeOf0
 v0:=Tryz.zeroValue0
 t2:=Tryz.underlying2
 a2:=Tryz.isAgg2
 z2:=Tryz.sizeOf2
 v2:=Tryz.zeroValue2
 t3:=Tryz.underlying3
 a3:=Tryz.isAgg3
 z3:=Tryz.sizeOf3
 v3:=Tryz.zeroValue3
 t4:=Tryz.underlying4
 a4:=Tryz.isAgg4
 z4:=Tryz.sizeOf4
 v4:=Tryz.zeroValue4
 t5:=Tryz.underlying5
 a5:=Tryz.isAgg5
 z5:=Tryz.sizeOf5
 v5:=Tryz.zeroValue5
 t9:=Tryz.underlying9
 a9:=Tryz.isAgg9
 z9:=Tryz.sizeOf9
 v9:=Tryz.zeroValue9
 t20:=Tryz.underlying20
 a20:=Tryz.isAgg20
 z20:=Tryz.sizeOf20
 v20:=Tryz.zeroValue20
 t37:=Tryz.underlying155
 a37:=Tryz.isAgg155
 z37:=Tryz.sizeOf155
 v37:=Tryz.zeroValue155
 t46:=Tryz.underlying136
 a46:=Tryz.isAgg136
 z46:=Tryz.sizeOf136
 v46:=Tryz.zeroValue136
 t51:=Tryz.underlying77
 a51:=Tryz.isAgg77
 z51:=Tryz.sizeOf77
 v51:=Tryz.zeroValue77
 t53:=Tryz.underlying135
 a53:=Tryz.isAgg135
 z53:=Tryz.sizeOf135
 v53:=Tryz.zeroValue135
 t171:=Tryz.underlying175
 a171:=Tryz.isAgg175
 z171:=Tryz.sizeOf175
 v171:=Tryz.zeroValue175
 t173:=Tryz.underlying178
 a173:=Tryz.isAgg178
 z173:=Tryz.sizeOf178
 v173:=Tryz.zeroValue178
 t212:=Tryz.underlying185
 a212:=Tryz.isAgg185
 z212:=Tryz.sizeOf185
 v212:=Tryz.zeroValue185
 t213:=Tryz.underlying186
 a213:=Tryz.isAgg186
 z213:=Tryz.sizeOf186
 t232:=Tryz.underlying189
 a232:=Tryz.isAgg189
 z232:=Tryz.sizeOf189
 v232:=Tryz.zeroValue189
 t233:=Tryz.underlying190
 a233:=Tryz.isAgg190
 z233:=Tryz.sizeOf190
 v233:=Tryz.zeroValue190
 g17:=by kernel_rfl
 g18:=by kernel_rfl
 g19:=by kernel_rfl
theorem extra:Builder.Extra Tryz.prog ren where
 sizeBuilder:=by kernel_rfl
 liesBuilder:=by kernel_rfl
 t5:=Tryz.underlying5
 a5:=Tryz.isAgg5
 z5:=Tryz.sizeOf5
 v5:=Tryz.zeroValue5
 infoByte:=by kernel_rfl
 cellsByte:=by kernel_rfl
 sizeByte:=by kernel_rfl
 neB5:=by decide
end Go.Proofs.YtboilcfohmmpbaaGreatDoor.Sym.Lay
namespace Go.Proofs.YtboilcfohmmpbaaGreatDoor.Sym
open Go Go.RowKit
set_option linter.unusedVariables false
theorem Callable.mk' {P : Program} {f : FuncId} {fn : Func} (h : P.funcs[f]? = some fn) (hb : (fn.body.isSome && !(fn.name == "runtime.NumGoroutine")) = true) : Callable P f := by
  rw [Bool.and_eq_true, Bool.not_eq_true'] at hb
  exact ⟨fn, h, hb.1, hb.2⟩
theorem Contract.ofCalls{P:Program}{f:FuncId}{args:List PV}{r:PV}(hc:Callable P f)
  (h:∀(I:Nat→Prop) (w:World) (vs:Array Value),(∀b,I b→b<w.heap.size)→args.length=vs.size →
   (∀(j:Nat) p v,args[j]? = some p→vs[j]? = some v→Rd I w p v) →
   Calls P f vs w (fun e w'=>∃v,e = .returned v∧Rd (fun b=>I b∨fresh w w' b) w' r v∧Below w.heap.size w w')):Contract P f args r:=by
 refine⟨hc,fun I w β vs hI _ hl hr=>(h I w vs hI (by simpa using hl) (fun j p v hp hv=>hr j (.pv p) v (by rw[List.getElem?_map,hp];rfl) hv)).mono ?_⟩
 rintro e w' ⟨v,he,hv,hb⟩
 refine⟨v,β,he,fun _ _ _=>rfl,Keeps.of_below ⟨hb,fun s=>by unfold Str at s;exact s.elim⟩,stoOk_nil _ _ _,?_,fun x b hx=>absurd hx dom_nil⟩
 exact Rd.mono hv (fun b hb=>hb.imp id (fun hf=>⟨Or.inl hf,(fun x hx=>absurd hx dom_nil)⟩)) (fun _ _ _=>rfl)
theorem rdv_int{I:Nat→Prop}{w:World}{k:IntKind}{n:Int}{v:Value}(h:Rd I w (.int k n) v):v = .int k n:=by cases h;rfl
theorem rdv_str{I:Nat→Prop}{w:World}{s:ByteArray}{v:Value}(h:Rd I w (.str s) v):v = .string s:=by cases h;rfl
def dig(n:Nat):ByteArray:=⟨(Lib.decDigits n).toArray⟩
theorem Itoa_small(n:Nat)(h:n<100):Contract prg 130 [vI (n:Int)] (.str (dig n)):=by
 refine Contract.ofCalls (Callable.mk' Tryz.func130 (by kernel_rfl)) (fun I w vs hI hl hr => ?_)
 obtain⟨v,rfl⟩:∃v,vs = #[v]:=by
  match vs,hl with
  |⟨[v]⟩,_=>exact⟨v,rfl⟩
 have hv:=rdv_int (hr 0 _ v rfl rfl)
 subst hv
 refine Calls.mono (Any.strconv_Itoa_small Lay.lays171 n h w) ?_
 rintro e w' ⟨he,rfl⟩
 exact⟨_,he,.str _,Below.refl _ _⟩
def joinB(l:List ByteArray)(sep:ByteArray):ByteArray:=⟨(Lib.join (l.map (·.data.toList)) sep.data.toList).toArray⟩
theorem Join(l:List ByteArray)(sep:ByteArray)(hn:l.length≤140737488355328)(hlen:(Lib.join (l.map (·.data.toList)) sep.data.toList).length≤140737488355328) :
  Contract prg 132 [lpv strCell l,.str sep] (.str (joinB l sep)):=by
 refine Contract.ofCalls (Callable.mk' Tryz.func132 (by kernel_rfl)) (fun I w vs hI hl hr => ?_)
 obtain⟨v,u,rfl⟩:∃v u,vs = #[v,u]:=by
  match vs,hl with
  |⟨[v,u]⟩,_=>exact⟨v,u,rfl⟩
 have hu:=rdv_str (hr 1 _ u rfl rfl)
 subst hu
 have hv:Rd I w (.list (l.map strCell)) v:=hr 0 _ v rfl rfl
 cases l with
 |nil =>
  have:∃a c,v = .slice a 0 c:=by
   generalize hx:(PV.list (([]:List ByteArray).map strCell))=x at hv
   cases hv with
   |nil a c=>exact⟨a,c,rfl⟩
   |list xs b o c s f hc hb hs ho h =>
    injection hx with hx
    subst hx
    exact⟨_,c,rfl⟩
   |_=>cases hx
  obtain⟨a,c,rfl⟩:=this
  refine Calls.mono (Any.strings_Join_none Lay.lays156 Lay.extra a c sep w) ?_
  rintro e w' ⟨he,rfl⟩
  exact⟨_,he,.str _,Below.refl _ _⟩
 |cons x0 r =>
  have:∃b o c,v = .slice (some ⟨b,o,none⟩) (x0::r).length c∧(x0::r).length≤c∧I b∧∀(j:Nat) x,(x0::r)[j]? = some x→w.cell? ⟨b,o+j,none⟩=some (.string x):=by
   generalize hx:(PV.list ((x0::r).map strCell))=x at hv
   cases hv with
   |list xs b o c s f hc hb hs ho h =>
    injection hx with hx
    subst hx
    have hs1:s=1:=by
     have:=hs 0 _ rfl
     simpa[strCell] using this.symm
    subst hs1
    refine⟨b,o,c,by rw[List.length_map],by simpa using hc,hb,fun j x hj => ?_⟩
    have hrow:((x0::r).map strCell)[j]? = some (strCell x):=by rw[List.getElem?_map,hj];rfl
    have h1:=(ho j 0 _ (.str x) hrow rfl).2
    have h2:=rdv_str (h j 0 _ (.str x) hrow rfl)
    rw[h2] at h1
    simpa using h1
   |_=>cases hx
  obtain⟨b,o,c,rfl,hc,hb,hcell⟩:=this
  refine Calls.mono (Any.strings_Join Lay.lays156 Lay.extra b o c (x0::r) sep w hcell (hI b hb) hn hc hlen) ?_
  rintro e w' ⟨he,hw⟩
  exact⟨_,he,.str _,hw⟩
end Go.Proofs.YtboilcfohmmpbaaGreatDoor.Sym
namespace Go.Proofs.YtboilcfohmmpbaaGreatDoor.Sym
open Go Path CInt
set_option linter.unusedVariables false
def numT(n:Int):ByteArray:=if n<0 then ByteArray.mk #[45]++dig n.natAbs else dig n.natAbs
def ratT(q:Rat):ByteArray:=if (q.den:Int)=1 then numT q.num else numT q.num++ByteArray.mk #[47]++numT (q.den:Int)
theorem dig_small{n:Nat}(h:n<10):dig n=ByteArray.mk #[UInt8.ofNat (48+n)]:=by
 unfold dig
 rw[Lib.decDigits,dif_pos h]
theorem dig_size{n:Nat}(h:n<1000000000):(dig n).size≤10:=by
 have key:∀(k n:Nat),n<10^(k+1)→(Lib.decDigits n).length≤k+1:=by
  intro k
  induction k with
  |zero =>
   intro n h
   rw[Lib.decDigits,dif_pos (by omega)]
   exact Nat.le_refl _
  |succ k ih =>
   intro n h
   by_cases h9:n<10
   ·rw[Lib.decDigits,dif_pos h9];simp
   ·rw[Lib.decDigits,dif_neg h9,List.length_append,List.length_singleton]
    have:=ih (n/10) (by rw[Nat.pow_succ] at h;omega)
    omega
 have:=key 8 n (by omega)
 show(Lib.decDigits n).toArray.size≤10
 rw[List.size_toArray]
 omega
theorem join_one(x sep:ByteArray):joinB [x] sep=x:=by
 unfold joinB
 rw[List.map_cons,List.map_nil,Lib.join_one]
theorem numT_size{n:Int}(h:n.natAbs<1000000000):(numT n).size≤11:=by
 have:=dig_size h
 unfold numT
 split
 ·rw[ByteArray.size_append]
  have e:(ByteArray.mk #[45]).size=1:=rfl
  omega
 ·omega
namespace CTx
theorem iText(n:Int)(h:n.natAbs<1000000000)(hI:n≠0→Contract prg 130 [vI (n.natAbs:Int)] (.str (dig n.natAbs))):Contract prg 94 [(whole n).pv] (.str (numT n)):=by
 have hl:(words n.natAbs).length≤1:=len_of_lt (by omega)
 have hfit:Fit (whole n).mag:=by
  show Fit (words n.natAbs)
  unfold Fit
  omega
 have hm:=CInt.mag (whole n) hfit
 have hn:=CInt.neg (whole n) hfit
 rw[whole_val] at hm hn
 by_cases h0:n=0
 ·subst h0
  have e:numT 0=ByteArray.mk #[48]:=by
   unfold numT
   rw[if_neg (by omega),show Int.natAbs 0=0 from rfl,dig_small (by omega)];rfl
  rw[e]
  exact integer_Text.e0 _ _ hm rfl
 ·have hw:(words n.natAbs).length≠0:=fun e=>h0 (by have:=words_len0.1 e;omega)
  have hs:=CInt.short (words n.natAbs) (1000000000:UInt32) (by omega) (by decide)
  rw[nat_words,show(1000000000:UInt32).toNat=1000000000 from rfl,Nat.div_eq_of_lt h,Nat.mod_eq_of_lt h,words_zero] at hs
  have hv:(UInt32.ofNat n.natAbs).toNat=n.natAbs:=by
   rw[w_ofNat]
   exact Nat.mod_eq_of_lt (by omega)
  have hi:Contract prg 130 [vI ((UInt32.ofNat n.natAbs).toNat:Int)] (.str (dig n.natAbs)):=by
   rw[hv];exact hI h0
  have hd:=dig_size h
  have hj:=Join [dig n.natAbs] (ByteArray.mk #[]) (by simp) (by
   rw[List.map_cons,List.map_nil,Lib.join_one,Array.length_toList]
   have:(dig n.natAbs).data.size=(dig n.natAbs).size:=rfl
   omega)
  rw[join_one] at hj
  have hN:integer_Text.Loop1 [] [dig n.natAbs] (whole n) (.str (numT n)):=by
   by_cases hneg:n<0
   ·have:=integer_Text.l12 [] _ _ _ _ (by simp) hj hn (decide_eq_true hneg) (by
     have e:(ByteArray.mk #[45]).size=1:=rfl
     omega)
    unfold numT
    rw[if_pos hneg]
    exact this
   ·have:=integer_Text.l13 [] _ _ _ _ (by simp) hj hn (decide_eq_false hneg)
    unfold numT
    rw[if_neg hneg]
    exact this
  exact integer_Text.e1 _ _ hm hw (integer_Text.l11 _ [] _ _ _ _ (by omega) hs hi (by simp) (by simp) hN)
theorem iText_small(n:Int)(h:n.natAbs<100):Contract prg 94 [(whole n).pv] (.str (numT n)):=iText n (by omega) (fun _=>Itoa_small _ h)
theorem fText(q:Rat)(h1:q.num.natAbs<1000000000)(h2:q.den<1000000000)(hN:Contract prg 94 [(whole q.num).pv] (.str (numT q.num)))(hD:Contract prg 94 [(whole (q.den:Int)).pv] (.str (numT (q.den:Int)))):Contract prg 42 [(mkR q).pv] (.str (ratT q)):=by
 have l1:wl q.num≤1:=len_of_lt (by omega)
 have l2:wl (q.den:Int)≤1:=len_of_lt (by rw[Int.natAbs_natCast];omega)
 have hh:ht q≤1:=Nat.max_le.2 ⟨l1,l2⟩
 have hp:=CFr.Parts (mkR q) (fit_mkR (by omega))
 rw[mkR_val] at hp
 have hc:=CInt.Cmp (whole (q.den:Int)) (whole 1) (show Fit (whole (q.den:Int)).mag from Nat.le_trans l2 (by omega)) (by decide)
 rw[whole_val,whole_val] at hc
 have s1:=numT_size h1
 have s2:=numT_size (n:=(q.den:Int)) (by rw[Int.natAbs_natCast];exact h2)
 by_cases hd:(q.den:Int)=1
 ·have:=fraction_Text.e0 _ _ _ _ _ _ hp CFr.one hc (by rw[hd];rfl) hN
  unfold ratT
  rw[if_pos hd]
  exact this
 ·have e:(ByteArray.mk #[47]).size=1:=rfl
  have hc0:cmpI (q.den:Int) 1≠0:=by
   unfold cmpI
   intro hx
   split at hx
   ·cases hx
   ·omega
  have:=fraction_Text.e1 _ _ _ _ _ _ _ hp CFr.one hc hc0 hN (by omega) hD (by rw[ByteArray.size_append];omega)
  unfold ratT
  rw[if_neg hd]
  exact this
theorem fText_small(q:Rat)(h1:q.num.natAbs<100)(h2:q.den<100):Contract prg 42 [(mkR q).pv] (.str (ratT q)) :=
 fText q (by omega) (by omega) (iText_small _ h1) (iText_small _ (by rw[Int.natAbs_natCast];exact h2))
end CTx
end Go.Proofs.YtboilcfohmmpbaaGreatDoor.Sym
namespace Go.Proofs.YtboilcfohmmpbaaGreatDoor.Sym.Path
open Go
set_option maxRecDepth 20000
set_option linter.unusedVariables false
namespace linkworklaw08_of
@[reducible] noncomputable def fn:Func:=Tryz.f26
noncomputable def atK1:List Itm:=focus [0,2,0,2,0,0,2,0,0] [.code (bodyOf fn)]
def inv1(site_16:List ARat)(l:List Int)(t_8:Nat):St:=⟨[(3,(.row 16 0 site_16.length 3)),(6,(.pv (lpv intCell l))),(7,(eI (l.length:Int))),(8,(eI (t_8:Int)))],[(16,(.pure ((site_16:List ARat).map ARat.cells).flatten))]⟩
@[reducible] noncomputable def Loop1(site_16:List ARat)(l:List Int)(t_8:Nat)(r:PV):Prop:=L prg fn atK1 (inv1 site_16 l t_8) r
theorem e0 (l : List Int) {r : PV}  (hL : Loop1 [] l 0 r) : Contract prg 26 [(lpv intCell l)] r :=
 Contract.ofL Tryz.func26 (by kernel_rfl) (L.go mixed tabOk (n:=87) (ns:=[1]) (tr:=[.reg [],.reg [.nil],.adopt 3 16 3,.reg [.none,(iI (l.length:Int))],.keep [3,6,7,8]]) (cj (o_len intCell l) True.intro) (by kernel_rfl) hL)
theorem l10(site_16:List ARat)(l:List Int)(t_8:Nat)(v:Int)(of:ARat){r:PV}(h1:t_8<l.length)(h2:l[t_8]? = some v)(h3:Contract prg 27 [(vI v)] of.pv)(h4:((site_16++[of]):List ARat).length*56≤140737488355328)(h5:(t_8+1)<9223372036854775808)(hL:Loop1 (site_16++[of]) l (t_8+1) r):Loop1 site_16 l t_8 r :=
 L.go mixed tabOk (n:=126) (ns:=[1,3,1,6,1]) (tr:=[.auto,.reg [],.dec true,.reg [(.row t_8 (intCell v))],.reg [.none,.none,(.pv of.pv),.none,(.app ((site_16++[of]):List ARat).length (((site_16++[of]):List ARat).map ARat.cells).flatten)],.reg [(iI (((t_8+1):Nat):Int))],.keep [3,6,7,8],.drop [15]]) (cj (dltN_t h1) (cj (o_at intCell (Eq.refl (((t_8:Nat):Int):Int)) h2) (cj h3 (cj (o_appR sz_ARat (site_16:List ARat) ([of]:List ARat) 56 (Eq.refl (site_16:List ARat).length) (Eq.refl ([of]:List ARat).length) h4 rfl) (cj (bs_addN h5) True.intro))))) (by kernel_rfl) hL
theorem l11(site_16:List ARat)(l:List Int)(t_8:Nat)(h1:l.length≤t_8):Loop1 site_16 l t_8 (polyPV site_16) :=
 L.done mixed tabOk (n:=120) (ns:=[1,3]) (tr:=[.auto,.reg [],.dec false,.reg [],.frzT 2 ((site_16:List ARat).map ARat.cells)]) (cj (dltN_f h1) (cj (o_frz sz_ARat (site_16:List ARat) (Eq.refl (site_16:List ARat).length)) True.intro)) (by kernel_rfl)
end linkworklaw08_of
namespace linkworklaw08_awake
theorem e0(of of1:List ARat)(res:ARat)(of2:List ARat)(dis:ARat)(of3:List ARat)(dis2:ARat)(of4 of5 bez bez1 bez2:List ARat)(tex tex1:ByteArray)(sig:Int)(of6:List ARat)(sam:Bool)(of7:List ARat)(sam1:Bool)(of8:List ARat)(sam2:Bool)(h1:Contract prg 26 [(lpv intCell [(-2),0,1])] (polyPV of))(h2:Contract prg 26 [(lpv intCell [(-3),1])] (polyPV of1))(h3:Contract prg 13 [(polyPV of),(polyPV of1)] (.tup [res.pv,.nilI]))(h4:Contract prg 26 [(lpv intCell [0,(-1),0,1])] (polyPV of2))(h5:Contract prg 14 [(polyPV of2)] (.tup [dis.pv,.nilI]))(h6:Contract prg 26 [(lpv intCell [2,(-3),0,1])] (polyPV of3))(h7:Contract prg 14 [(polyPV of3)] (.tup [dis2.pv,.nilI]))(h8:Contract prg 26 [(lpv intCell [0,1])] (polyPV of4))(h9:Contract prg 26 [(lpv intCell [(-1),1])] (polyPV of5))(h10:Contract prg 35 [(polyPV of4),(polyPV of5)] (.tup [(polyPV bez),(polyPV bez1),(polyPV bez2),.nilI]))(h11:Contract prg 42 [res.pv] (.str tex))(h12:tex=(ByteArray.mk #[55]))(h13:Contract prg 42 [dis.pv] (.str tex1))(h14:tex1=(ByteArray.mk #[52]))(h15:Contract prg 31 [dis2.pv] (vI sig))(h16:sig=0)(h17:Contract prg 26 [(lpv intCell [1])] (polyPV of6))(h18:Contract prg 39 [(polyPV bez),(polyPV of6)] (vB sam))(h19:sam=true)(h20:Contract prg 26 [(lpv intCell [(-1)])] (polyPV of7))(h21:Contract prg 39 [(polyPV bez1),(polyPV of7)] (vB sam1))(h22:sam1=true)(h23:Contract prg 26 [(lpv intCell [1])] (polyPV of8))(h24:Contract prg 39 [(polyPV bez2),(polyPV of8)] (vB sam2)):Contract prg 11 [] (vB sam2) :=
 Contract.ofL Tryz.func11 (by kernel_rfl) (L.done mixed tabOk (n:=96) (ns:=[3,1,3,1,1,3,1,1,3,1,1,3,1,3,1,1,1,1,1,1,1,1,1,1,1,1,1,1,1,1,1,1,1,1,1,1,1,1,3,1,1,1,1,1,1,1,3,1,1,1,1,1,1,1,3,1,1,1,1,1]) (tr:=[.reg [],.reg [(.slc 0 0 (([(-2),0,1]:List Int).map intCell)),(.pv (polyPV of)),(.slc 0 0 (([(-3),1]:List Int).map intCell)),(.pv (polyPV of1)),(.pv (.tup [res.pv,.nilI]))],.reg [(.slc 0 0 (([0,(-1),0,1]:List Int).map intCell)),(.pv (polyPV of2)),(.pv (.tup [dis.pv,.nilI]))],.reg [(.slc 0 0 (([2,(-3),0,1]:List Int).map intCell)),(.pv (polyPV of3)),(.pv (.tup [dis2.pv,.nilI]))],.reg [(.slc 0 0 (([0,1]:List Int).map intCell)),(.pv (polyPV of4)),(.slc 0 0 (([(-1),1]:List Int).map intCell)),(.pv (polyPV of5)),(.pv (.tup [(polyPV bez),(polyPV bez1),(polyPV bez2),.nilI]))],.reg [.none,.none,.none,.none,.none,.none,.none,.none,.none,.none,.none,.none,.none,.none,.none,.none,(.pv (.str tex)),.none,.none,.none,.none,(.pv (.str tex1)),.none,(.dec true),.none,.none,(.pv (vI sig)),.none,(.dec true),.none,.none,(.slc 0 0 (([1]:List Int).map intCell)),(.pv (polyPV of6)),(.pv (vB sam)),(.dec true),.none,.none,(.slc 0 0 (([(-1)]:List Int).map intCell)),(.pv (polyPV of7)),(.pv (vB sam1)),(.dec true),.none,.none,(.slc 0 0 (([1]:List Int).map intCell)),(.pv (polyPV of8)),(.pv (vB sam2)),(.dec true)]]) (cj (o_bs sz_int ([(-2),0,1]:List Int)) (cj h1 (cj (o_bs sz_int ([(-3),1]:List Int)) (cj h2 (cj h3 (cj (o_bs sz_int ([0,(-1),0,1]:List Int)) (cj h4 (cj h5 (cj (o_bs sz_int ([2,(-3),0,1]:List Int)) (cj h6 (cj h7 (cj (o_bs sz_int ([0,1]:List Int)) (cj h8 (cj (o_bs sz_int ([(-1),1]:List Int)) (cj h9 (cj h10 (cj (Eq.refl true) (cj (Eq.refl true) (cj (Eq.refl true) (cj (Eq.refl true) (cj (Eq.refl true) (cj (Eq.refl true) (cj (Eq.refl true) (cj (Eq.refl true) (cj h11 (cj (Eq.refl true) (cj (dseq_t h12) (cj (dseq_t h12) (cj h13 (cj (dseq_t h12) (cj (dseq_t h12) (cj (dseq_t h14) (cj (dseq_t h14) (cj h15 (cj (dseq_t h14) (cj (dseq_t h14) (cj (deq_t h16) (cj (deq_t h16) (cj (o_bs sz_int ([1]:List Int)) (cj (deq_t h16) (cj h17 (cj (deq_t h16) (cj h18 (cj (deq_t h16) (cj h19 (cj h19 (cj (o_bs sz_int ([(-1)]:List Int)) (cj h19 (cj h20 (cj h19 (cj h21 (cj h19 (cj h22 (cj h22 (cj (o_bs sz_int ([1]:List Int)) (cj h22 (cj h23 (cj h22 (cj h24 (cj h22 True.intro)))))))))))))))))))))))))))))))))))))))))))))))))))))))))))) (by kernel_rfl))
end linkworklaw08_awake
namespace linkworklaw08_short
@[reducible] noncomputable def fn:Func:=Tryz.f10
noncomputable def atK1:List Itm:=focus [0,2,0,0,2,0,0] [.code (bodyOf fn)]
def inv1(l:List (List ARat))(t_9:Nat):St:=⟨[(7,(.pv (lpv (lcell ARat.cells) l))),(8,(eI (l.length:Int))),(9,(eI (t_9:Int)))],[]⟩
@[reducible] noncomputable def Loop1(l:List (List ARat))(t_9:Nat)(r:PV):Prop:=L prg fn atK1 (inv1 l t_9) r
noncomputable def atK2:List Itm:=focus [0,2,0,0,2,0,0,0,0,2,0,0,2,0,0,0,2,0,0,2,1,2,0,2,0,0] [.code (bodyOf fn)]
def inv2(l:List (List ARat))(t_9:Nat)(v:List ARat)(t_28:Nat):St:=⟨[(7,(.pv (lpv (lcell ARat.cells) l))),(8,(eI (l.length:Int))),(9,(eI (t_9:Int))),(26,(.pv (polyPV v))),(27,(eI (v.length:Int))),(28,(eI (t_28:Int)))],[]⟩
@[reducible] noncomputable def Loop2(l:List (List ARat))(t_9:Nat)(v:List ARat)(t_28:Nat)(r:PV):Prop:=L prg fn atK2 (inv2 l t_9 v t_28) r
theorem e0 (l : List (List ARat)) {r : PV}  (hL : Loop1 l 0 r) : Contract prg 10 [(lpv (lcell ARat.cells) l)] r :=
 Contract.ofL Tryz.func10 (by kernel_rfl) (L.go mixed tabOk (n:=81) (ns:=[1]) (tr:=[.reg [],.reg [.none,(iI (l.length:Int))],.keep [7,8,9]]) (cj (o_len (lcell ARat.cells) l) True.intro) (by kernel_rfl) hL)
theorem l10(l:List (List ARat))(t_9:Nat)(v:List ARat)(h1:t_9<l.length)(h2:l[t_9]? = some v)(h3:6<v.length)(h4:v.length≤65):Loop1 l t_9 (vB false) :=
 L.done mixed tabOk (n:=129) (ns:=[1,3,1,1,1,1,1,1,1,1,1,1]) (tr:=[.auto,.reg [],.dec true,.reg [(.row t_9 ((lcell ARat.cells) v))],.reg [.none,(iI (v.length:Int)),.none,.none,.none,(iI (v.length:Int)),.none,(.dec true),.none,.skip,.skip,.skip,(.dec true)],.auto,.reg []]) (cj (dltN_t h1) (cj (o_at (lcell ARat.cells) (Eq.refl (((t_9:Nat):Int):Int)) h2) (cj (o_len ARat.cells v) (cj (dltN_t h3) (cj (dltN_t h3) (cj (o_len ARat.cells v) (cj (dltN_t h3) (cj (dltN_t h3) (cj (dleN_t h4) (cj (dleN_t h4) (cj (dleN_t h4) (cj (dleN_t h4) True.intro)))))))))))) (by kernel_rfl)
theorem l11(l:List (List ARat))(t_9:Nat)(v:List ARat)(h1:t_9<l.length)(h2:l[t_9]? = some v)(h3:6<v.length)(h4:65<v.length)(h5:100<v.length):Loop1 l t_9 (vB false) :=
 L.done mixed tabOk (n:=129) (ns:=[1,3,1,1,1,1,1,1,1,1,1,1,1,1]) (tr:=[.auto,.reg [],.dec true,.reg [(.row t_9 ((lcell ARat.cells) v))],.reg [.none,(iI (v.length:Int)),.none,.none,.none,(iI (v.length:Int)),.none,(.dec true),.none,.none,(iI (v.length:Int)),.none,(.dec false)],.dec true,.reg []]) (cj (dltN_t h1) (cj (o_at (lcell ARat.cells) (Eq.refl (((t_9:Nat):Int):Int)) h2) (cj (o_len ARat.cells v) (cj (dltN_t h3) (cj (dltN_t h3) (cj (o_len ARat.cells v) (cj (dltN_t h3) (cj (dltN_t h3) (cj (dleN_f h4) (cj (dleN_f h4) (cj (o_len ARat.cells v) (cj (dleN_f h4) (cj (dleN_f h4) (cj (dltN_t h5) True.intro)))))))))))))) (by kernel_rfl)
theorem l12(l:List (List ARat))(t_9:Nat)(v:List ARat){r:PV}(h1:t_9<l.length)(h2:l[t_9]? = some v)(h3:6<v.length)(h4:65<v.length)(h5:v.length≤100)(hL:Loop2 l t_9 v 0 r):Loop1 l t_9 r :=
 L.go mixed tabOk (n:=138) (ns:=[1,3,1,1,1,1,1,1,1,1,1,1,1,1,1]) (tr:=[.auto,.reg [],.dec true,.reg [(.row t_9 ((lcell ARat.cells) v))],.reg [.none,(iI (v.length:Int)),.none,.none,.none,(iI (v.length:Int)),.none,(.dec true),.none,.none,(iI (v.length:Int)),.none,(.dec false)],.dec false,.reg [.none,(iI (v.length:Int))],.keep [7,8,9,26,27,28]]) (cj (dltN_t h1) (cj (o_at (lcell ARat.cells) (Eq.refl (((t_9:Nat):Int):Int)) h2) (cj (o_len ARat.cells v) (cj (dltN_t h3) (cj (dltN_t h3) (cj (o_len ARat.cells v) (cj (dltN_t h3) (cj (dltN_t h3) (cj (dleN_f h4) (cj (dleN_f h4) (cj (o_len ARat.cells v) (cj (dleN_f h4) (cj (dleN_f h4) (cj (dltN_f h5) (cj (o_len ARat.cells v) True.intro))))))))))))))) (by kernel_rfl) hL
theorem l14(l:List (List ARat))(t_9:Nat)(v:List ARat){r:PV}(h1:t_9<l.length)(h2:l[t_9]? = some v)(h3:v.length≤6)(h4:v.length≤100)(hL:Loop2 l t_9 v 0 r):Loop1 l t_9 r :=
 L.go mixed tabOk (n:=138) (ns:=[1,3,1,1,1,1,1,1,1,1,1,1,1]) (tr:=[.auto,.reg [],.dec true,.reg [(.row t_9 ((lcell ARat.cells) v))],.reg [.none,(iI (v.length:Int)),.none,.none,.skip,.skip,.skip,(.dec false),.none,.none,(iI (v.length:Int))],.dec false,.reg [.none,(iI (v.length:Int))],.keep [7,8,9,26,27,28]]) (cj (dltN_t h1) (cj (o_at (lcell ARat.cells) (Eq.refl (((t_9:Nat):Int):Int)) h2) (cj (o_len ARat.cells v) (cj (dltN_f h3) (cj (dltN_f h3) (cj (dltN_f h3) (cj (dltN_f h3) (cj (Eq.refl false) (cj (Eq.refl false) (cj (o_len ARat.cells v) (cj (Eq.refl false) (cj (dltN_f h4) (cj (o_len ARat.cells v) True.intro))))))))))))) (by kernel_rfl) hL
theorem l15(l:List (List ARat))(t_9:Nat)(h1:l.length≤t_9):Loop1 l t_9 (vB true) :=
 L.done mixed tabOk (n:=114) (ns:=[1]) (tr:=[.auto,.reg [],.dec false,.reg []]) (cj (dltN_f h1) True.intro) (by kernel_rfl)
theorem l20(l:List (List ARat))(t_9:Nat)(v:List ARat)(t_28:Nat)(v1:ARat)(low:Bool)(h1:t_28<v.length)(h2:v[t_28]? = some v1)(h3:Contract prg 41 [v1.pv,(vW (1000:UInt32)),(vW (1000:UInt32))] (vB low))(h4:low=false):Loop2 l t_9 v t_28 (vB false) :=
 L.done mixed tabOk (n:=183) (ns:=[1,3,1,1]) (tr:=[.auto,.reg [],.dec true,.reg [(.row t_28 (ARat.cells v1))],.reg [.none,(.pv (vB low))],.dec true,.reg []]) (cj (dltN_t h1) (cj (o_at ARat.cells (Eq.refl (((t_28:Nat):Int):Int)) h2) (cj h3 (cj (bnot_t h4) True.intro)))) (by kernel_rfl)
theorem l21(l:List (List ARat))(t_9:Nat)(v:List ARat)(t_28:Nat)(v1:ARat)(low:Bool){r:PV}(h1:t_28<v.length)(h2:v[t_28]? = some v1)(h3:Contract prg 41 [v1.pv,(vW (1000:UInt32)),(vW (1000:UInt32))] (vB low))(h4:low=true)(h5:(t_28+1)<9223372036854775808)(hL:Loop2 l t_9 v (t_28+1) r):Loop2 l t_9 v t_28 r :=
 L.go mixed tabOk (n:=186) (ns:=[1,3,1,1,1]) (tr:=[.auto,.reg [],.dec true,.reg [(.row t_28 (ARat.cells v1))],.reg [.none,(.pv (vB low))],.dec false,.reg [(iI (((t_28+1):Nat):Int))],.keep [7,8,9,26,27,28],.drop [6]]) (cj (dltN_t h1) (cj (o_at ARat.cells (Eq.refl (((t_28:Nat):Int):Int)) h2) (cj h3 (cj (bnot_f h4) (cj (bs_addN h5) True.intro))))) (by kernel_rfl) hL
theorem l22(l:List (List ARat))(t_9:Nat)(v:List ARat)(t_28:Nat){r:PV}(h1:v.length≤t_28)(h2:(t_9+1)<9223372036854775808)(hL:Loop1 l (t_9+1) r):Loop2 l t_9 v t_28 r :=
 L.go mixed tabOk (n:=171) (ns:=[1,1]) (tr:=[.auto,.reg [],.dec false,.reg [(iI (((t_9+1):Nat):Int))],.keep [7,8,9]]) (cj (dltN_f h1) (cj (bs_addN h2) True.intro)) (by kernel_rfl) hL
end linkworklaw08_short
namespace linkworklaw08_valid
@[reducible] noncomputable def fn:Func:=Tryz.f21
noncomputable def atK1:List Itm:=focus [0,2,0,0,2,0,0] [.code (bodyOf fn)]
def inv1(l:List (List ARat))(t_7:Nat):St:=⟨[(5,(.pv (lpv (lcell ARat.cells) l))),(6,(eI (l.length:Int))),(7,(eI (t_7:Int)))],[]⟩
@[reducible] noncomputable def Loop1(l:List (List ARat))(t_7:Nat)(r:PV):Prop:=L prg fn atK1 (inv1 l t_7) r
theorem e0 (l : List (List ARat)) {r : PV}  (hL : Loop1 l 0 r) : Contract prg 21 [(lpv (lcell ARat.cells) l)] r :=
 Contract.ofL Tryz.func21 (by kernel_rfl) (L.go mixed tabOk (n:=81) (ns:=[1]) (tr:=[.reg [],.reg [.none,(iI (l.length:Int))],.keep [5,6,7]]) (cj (o_len (lcell ARat.cells) l) True.intro) (by kernel_rfl) hL)
theorem l10(l:List (List ARat))(t_7:Nat)(v:List ARat)(sho:Bool)(h1:t_7<l.length)(h2:l[t_7]? = some v)(h3:Contract prg 10 [(lpv (lcell ARat.cells) [v])] (vB sho))(h4:sho=false):Loop1 l t_7 (vB false) :=
 L.done mixed tabOk (n:=126) (ns:=[1,3,3,1,1,1,1,1,1,1,1]) (tr:=[.auto,.reg [],.dec true,.reg [(.row t_7 ((lcell ARat.cells) v))],.reg [.none,(.slc 0 0 (([v]:List (List ARat)).map (lcell ARat.cells))),(.pv (vB sho)),.none,.none,.skip,.skip,.skip,(.dec true),.none,.skip,.skip,.skip],.auto,.reg []]) (cj (dltN_t h1) (cj (o_at (lcell ARat.cells) (Eq.refl (((t_7:Nat):Int):Int)) h2) (cj (o_bs (sz_l ARat.cells) ([v]:List (List ARat))) (cj h3 (cj (bnot_t h4) (cj (bnot_t h4) (cj (bnot_t h4) (cj (bnot_t h4) (cj (Eq.refl true) (cj (Eq.refl true) (cj (Eq.refl true) True.intro))))))))))) (by kernel_rfl)
theorem l11(l:List (List ARat))(t_7:Nat)(v:List ARat)(sho:Bool)(che:Int)(h1:t_7<l.length)(h2:l[t_7]? = some v)(h3:Contract prg 10 [(lpv (lcell ARat.cells) [v])] (vB sho))(h4:sho=true)(h5:Contract prg 40 [(polyPV v)] (vI che))(h6:che≠0):Loop1 l t_7 (vB false) :=
 L.done mixed tabOk (n:=126) (ns:=[1,3,3,1,1,1,1,1,1,1,1,1,1]) (tr:=[.auto,.reg [],.dec true,.reg [(.row t_7 ((lcell ARat.cells) v))],.reg [.none,(.slc 0 0 (([v]:List (List ARat)).map (lcell ARat.cells))),(.pv (vB sho)),.none,.none,.none,(.pv (vI che)),.none,(.dec false),.none,.skip,.skip,.skip,(.dec true)],.auto,.reg []]) (cj (dltN_t h1) (cj (o_at (lcell ARat.cells) (Eq.refl (((t_7:Nat):Int):Int)) h2) (cj (o_bs (sz_l ARat.cells) ([v]:List (List ARat))) (cj h3 (cj (bnot_f h4) (cj (bnot_f h4) (cj h5 (cj (bnot_f h4) (cj (bnot_f h4) (cj (dne_t h6) (cj (dne_t h6) (cj (dne_t h6) (cj (dne_t h6) True.intro))))))))))))) (by kernel_rfl)
theorem l12(l:List (List ARat))(t_7:Nat)(v:List ARat)(sho:Bool)(che:Int)(h1:t_7<l.length)(h2:l[t_7]? = some v)(h3:Contract prg 10 [(lpv (lcell ARat.cells) [v])] (vB sho))(h4:sho=true)(h5:Contract prg 40 [(polyPV v)] (vI che))(h6:che=0)(h7:v.length=0):Loop1 l t_7 (vB false) :=
 L.done mixed tabOk (n:=126) (ns:=[1,3,3,1,1,1,1,1,1,1,1,1,1,1,1]) (tr:=[.auto,.reg [],.dec true,.reg [(.row t_7 ((lcell ARat.cells) v))],.reg [.none,(.slc 0 0 (([v]:List (List ARat)).map (lcell ARat.cells))),(.pv (vB sho)),.none,.none,.none,(.pv (vI che)),.none,(.dec false),.none,.none,(iI (v.length:Int)),.none,(.dec false)],.dec true,.reg []]) (cj (dltN_t h1) (cj (o_at (lcell ARat.cells) (Eq.refl (((t_7:Nat):Int):Int)) h2) (cj (o_bs (sz_l ARat.cells) ([v]:List (List ARat))) (cj h3 (cj (bnot_f h4) (cj (bnot_f h4) (cj h5 (cj (bnot_f h4) (cj (bnot_f h4) (cj (dne_f h6) (cj (dne_f h6) (cj (o_len ARat.cells v) (cj (dne_f h6) (cj (dne_f h6) (cj (deqN_t h7) True.intro))))))))))))))) (by kernel_rfl)
theorem l13(l:List (List ARat))(t_7:Nat)(v:List ARat)(sho:Bool)(che:Int){r:PV}(h1:t_7<l.length)(h2:l[t_7]? = some v)(h3:Contract prg 10 [(lpv (lcell ARat.cells) [v])] (vB sho))(h4:sho=true)(h5:Contract prg 40 [(polyPV v)] (vI che))(h6:che=0)(h7:v.length≠0)(h8:(t_7+1)<9223372036854775808)(hL:Loop1 l (t_7+1) r):Loop1 l t_7 r :=
 L.go mixed tabOk (n:=129) (ns:=[1,3,3,1,1,1,1,1,1,1,1,1,1,1,1,1]) (tr:=[.auto,.reg [],.dec true,.reg [(.row t_7 ((lcell ARat.cells) v))],.reg [.none,(.slc 0 0 (([v]:List (List ARat)).map (lcell ARat.cells))),(.pv (vB sho)),.none,.none,.none,(.pv (vI che)),.none,(.dec false),.none,.none,(iI (v.length:Int)),.none,(.dec false)],.dec false,.reg [(iI (((t_7+1):Nat):Int))],.keep [5,6,7]]) (cj (dltN_t h1) (cj (o_at (lcell ARat.cells) (Eq.refl (((t_7:Nat):Int):Int)) h2) (cj (o_bs (sz_l ARat.cells) ([v]:List (List ARat))) (cj h3 (cj (bnot_f h4) (cj (bnot_f h4) (cj h5 (cj (bnot_f h4) (cj (bnot_f h4) (cj (dne_f h6) (cj (dne_f h6) (cj (o_len ARat.cells v) (cj (dne_f h6) (cj (dne_f h6) (cj (deqN_f h7) (cj (bs_addN h8) True.intro)))))))))))))))) (by kernel_rfl) hL
theorem l14(l:List (List ARat))(t_7:Nat)(h1:l.length≤t_7):Loop1 l t_7 (vB true) :=
 L.done mixed tabOk (n:=114) (ns:=[1]) (tr:=[.auto,.reg [],.dec false,.reg []]) (cj (dltN_f h1) True.intro) (by kernel_rfl)
end linkworklaw08_valid
namespace linkworklaw08_low
theorem e0(x:ARat)(num den:UInt32)(h1:x.num.length<2)(h2:x.den.length<2)(h3:x.num.length=0)(h4:x.den.length=0):Contract prg 41 [x.pv,(vW num),(vW den)] (vB true) :=
 Contract.ofL Tryz.func41 (by kernel_rfl) (L.done mixed tabOk (n:=72) (ns:=[1,1,1,1,1,1,1,1,1,1,1,1,1,1,1,1,1,1,1,1,1,1,1,1,1,1,1,1,1,1,1,1,1,1,1,1]) (tr:=[.reg [],.reg [.none,.none,(iI (x.num.length:Int)),.none,.none,.none,.none,(iI (x.den.length:Int)),.none,(.dec true),.none,.none,.none,(iI (x.num.length:Int)),.none,.none,.skip,.skip,.skip,.skip,.skip,.skip,(.dec true),(.dec true),.none,.none,.none,(iI (x.den.length:Int)),.none,.none,.skip,.skip,.skip,.skip,.skip,.skip,(.dec true)]]) (cj (o_len wordPV x.num) (cj (dltN_t h1) (cj (dltN_t h1) (cj (dltN_t h1) (cj (o_len wordPV x.den) (cj (dltN_t h1) (cj (dltN_t h1) (cj (dltN_t h2) (cj (dltN_t h2) (cj (dltN_t h2) (cj (o_len wordPV x.num) (cj (dltN_t h2) (cj (dltN_t h2) (cj (deqN_t h3) (cj (deqN_t h3) (cj (deqN_t h3) (cj (deqN_t h3) (cj (deqN_t h3) (cj (deqN_t h3) (cj (dltN_t h2) (cj (deqN_t h3) (cj (dltN_t h2) (cj (Eq.refl true) (cj (Eq.refl true) (cj (Eq.refl true) (cj (o_len wordPV x.den) (cj (Eq.refl true) (cj (Eq.refl true) (cj (deqN_t h4) (cj (deqN_t h4) (cj (deqN_t h4) (cj (deqN_t h4) (cj (deqN_t h4) (cj (deqN_t h4) (cj (Eq.refl true) (cj (deqN_t h4) True.intro)))))))))))))))))))))))))))))))))))) (by kernel_rfl))
theorem e1(x:ARat)(num den v:UInt32)(h1:x.num.length<2)(h2:x.den.length<2)(h3:x.num.length=0)(h4:x.den.length≠0)(h5:x.den[0]? = some v):Contract prg 41 [x.pv,(vW num),(vW den)] (vB (decide ((v.toNat:Int)≤(den.toNat:Int)))) :=
 Contract.ofL Tryz.func41 (by kernel_rfl) (L.done mixed tabOk (n:=72) (ns:=[1,1,1,1,1,1,1,1,1,1,1,1,1,1,1,1,1,1,1,1,1,1,1,1,1,1,1,1,1,1,1,3,1,1,1,1,1]) (tr:=[.reg [],.reg [.none,.none,(iI (x.num.length:Int)),.none,.none,.none,.none,(iI (x.den.length:Int)),.none,(.dec true),.none,.none,.none,(iI (x.num.length:Int)),.none,.none,.skip,.skip,.skip,.skip,.skip,.skip,(.dec true),(.dec true),.none,.none,.none,(iI (x.den.length:Int)),.none,.none,.none,.none,(.row 0 (wordPV v)),.none,.none,.none,(.dec false)]]) (cj (o_len wordPV x.num) (cj (dltN_t h1) (cj (dltN_t h1) (cj (dltN_t h1) (cj (o_len wordPV x.den) (cj (dltN_t h1) (cj (dltN_t h1) (cj (dltN_t h2) (cj (dltN_t h2) (cj (dltN_t h2) (cj (o_len wordPV x.num) (cj (dltN_t h2) (cj (dltN_t h2) (cj (deqN_t h3) (cj (deqN_t h3) (cj (deqN_t h3) (cj (deqN_t h3) (cj (deqN_t h3) (cj (deqN_t h3) (cj (dltN_t h2) (cj (deqN_t h3) (cj (dltN_t h2) (cj (Eq.refl true) (cj (Eq.refl true) (cj (Eq.refl true) (cj (o_len wordPV x.den) (cj (Eq.refl true) (cj (Eq.refl true) (cj (deqN_f h4) (cj (deqN_f h4) (cj (deqN_f h4) (cj (o_at wordPV (Eq.refl (0:Int)) h5) (cj (deqN_f h4) (cj (deqN_f h4) (cj (deqN_f h4) (cj (Eq.refl true) (cj (deqN_f h4) True.intro))))))))))))))))))))))))))))))))))))) (by kernel_rfl))
theorem e2(x:ARat)(num den v:UInt32)(h1:x.num.length<2)(h2:x.den.length<2)(h3:x.num.length≠0)(h4:x.num[0]? = some v)(h5:v.toNat≤num.toNat)(h6:x.den.length=0):Contract prg 41 [x.pv,(vW num),(vW den)] (vB true) :=
 Contract.ofL Tryz.func41 (by kernel_rfl) (L.done mixed tabOk (n:=72) (ns:=[1,1,1,1,1,1,1,1,1,1,1,1,1,1,1,1,3,1,1,1,1,1,1,1,1,1,1,1,1,1,1,1,1,1,1,1,1,1]) (tr:=[.reg [],.reg [.none,.none,(iI (x.num.length:Int)),.none,.none,.none,.none,(iI (x.den.length:Int)),.none,(.dec true),.none,.none,.none,(iI (x.num.length:Int)),.none,.none,.none,.none,(.row 0 (wordPV v)),.none,.none,.none,(.dec false),(.dec true),.none,.none,.none,(iI (x.den.length:Int)),.none,.none,.skip,.skip,.skip,.skip,.skip,.skip,(.dec true),(.dec true)]]) (cj (o_len wordPV x.num) (cj (dltN_t h1) (cj (dltN_t h1) (cj (dltN_t h1) (cj (o_len wordPV x.den) (cj (dltN_t h1) (cj (dltN_t h1) (cj (dltN_t h2) (cj (dltN_t h2) (cj (dltN_t h2) (cj (o_len wordPV x.num) (cj (dltN_t h2) (cj (dltN_t h2) (cj (deqN_f h3) (cj (deqN_f h3) (cj (deqN_f h3) (cj (o_at wordPV (Eq.refl (0:Int)) h4) (cj (deqN_f h3) (cj (deqN_f h3) (cj (deqN_f h3) (cj (dltN_t h2) (cj (deqN_f h3) (cj (dltN_t h2) (cj (dleN_t h5) (cj (dleN_t h5) (cj (dleN_t h5) (cj (o_len wordPV x.den) (cj (dleN_t h5) (cj (dleN_t h5) (cj (deqN_t h6) (cj (deqN_t h6) (cj (deqN_t h6) (cj (deqN_t h6) (cj (deqN_t h6) (cj (deqN_t h6) (cj (dleN_t h5) (cj (deqN_t h6) (cj (dleN_t h5) True.intro)))))))))))))))))))))))))))))))))))))) (by kernel_rfl))
theorem e3(x:ARat)(num den v v1:UInt32)(h1:x.num.length<2)(h2:x.den.length<2)(h3:x.num.length≠0)(h4:x.num[0]? = some v)(h5:v.toNat≤num.toNat)(h6:x.den.length≠0)(h7:x.den[0]? = some v1):Contract prg 41 [x.pv,(vW num),(vW den)] (vB (decide ((v1.toNat:Int)≤(den.toNat:Int)))) :=
 Contract.ofL Tryz.func41 (by kernel_rfl) (L.done mixed tabOk (n:=72) (ns:=[1,1,1,1,1,1,1,1,1,1,1,1,1,1,1,1,3,1,1,1,1,1,1,1,1,1,1,1,1,1,1,1,3,1,1,1,1,1,1]) (tr:=[.reg [],.reg [.none,.none,(iI (x.num.length:Int)),.none,.none,.none,.none,(iI (x.den.length:Int)),.none,(.dec true),.none,.none,.none,(iI (x.num.length:Int)),.none,.none,.none,.none,(.row 0 (wordPV v)),.none,.none,.none,(.dec false),(.dec true),.none,.none,.none,(iI (x.den.length:Int)),.none,.none,.none,.none,(.row 0 (wordPV v1)),.none,.none,.none,(.dec false),(.dec true)]]) (cj (o_len wordPV x.num) (cj (dltN_t h1) (cj (dltN_t h1) (cj (dltN_t h1) (cj (o_len wordPV x.den) (cj (dltN_t h1) (cj (dltN_t h1) (cj (dltN_t h2) (cj (dltN_t h2) (cj (dltN_t h2) (cj (o_len wordPV x.num) (cj (dltN_t h2) (cj (dltN_t h2) (cj (deqN_f h3) (cj (deqN_f h3) (cj (deqN_f h3) (cj (o_at wordPV (Eq.refl (0:Int)) h4) (cj (deqN_f h3) (cj (deqN_f h3) (cj (deqN_f h3) (cj (dltN_t h2) (cj (deqN_f h3) (cj (dltN_t h2) (cj (dleN_t h5) (cj (dleN_t h5) (cj (dleN_t h5) (cj (o_len wordPV x.den) (cj (dleN_t h5) (cj (dleN_t h5) (cj (deqN_f h6) (cj (deqN_f h6) (cj (deqN_f h6) (cj (o_at wordPV (Eq.refl (0:Int)) h7) (cj (deqN_f h6) (cj (deqN_f h6) (cj (deqN_f h6) (cj (dleN_t h5) (cj (deqN_f h6) (cj (dleN_t h5) True.intro))))))))))))))))))))))))))))))))))))))) (by kernel_rfl))
theorem e4(x:ARat)(num den v:UInt32)(h1:x.num.length<2)(h2:x.den.length<2)(h3:x.num.length≠0)(h4:x.num[0]? = some v)(h5:num.toNat<v.toNat):Contract prg 41 [x.pv,(vW num),(vW den)] (vB false) :=
 Contract.ofL Tryz.func41 (by kernel_rfl) (L.done mixed tabOk (n:=72) (ns:=[1,1,1,1,1,1,1,1,1,1,1,1,1,1,1,1,3,1,1,1,1,1,1,1,1,1,1,1,1,1]) (tr:=[.reg [],.reg [.none,.none,(iI (x.num.length:Int)),.none,.none,.none,.none,(iI (x.den.length:Int)),.none,(.dec true),.none,.none,.none,(iI (x.num.length:Int)),.none,.none,.none,.none,(.row 0 (wordPV v)),.none,.none,.none,(.dec false),(.dec true),.none,.skip,.skip,.skip,.skip,.skip,.skip,.skip,.skip,.skip,.skip,.skip,.skip,(.dec false)]]) (cj (o_len wordPV x.num) (cj (dltN_t h1) (cj (dltN_t h1) (cj (dltN_t h1) (cj (o_len wordPV x.den) (cj (dltN_t h1) (cj (dltN_t h1) (cj (dltN_t h2) (cj (dltN_t h2) (cj (dltN_t h2) (cj (o_len wordPV x.num) (cj (dltN_t h2) (cj (dltN_t h2) (cj (deqN_f h3) (cj (deqN_f h3) (cj (deqN_f h3) (cj (o_at wordPV (Eq.refl (0:Int)) h4) (cj (deqN_f h3) (cj (deqN_f h3) (cj (deqN_f h3) (cj (dltN_t h2) (cj (deqN_f h3) (cj (dltN_t h2) (cj (dleN_f h5) (cj (dleN_f h5) (cj (dleN_f h5) (cj (dleN_f h5) (cj (dleN_f h5) (cj (dleN_f h5) (cj (dleN_f h5) True.intro)))))))))))))))))))))))))))))) (by kernel_rfl))
theorem e5(x:ARat)(num den:UInt32)(h1:x.num.length<2)(h2:2≤x.den.length):Contract prg 41 [x.pv,(vW num),(vW den)] (vB false) :=
 Contract.ofL Tryz.func41 (by kernel_rfl) (L.done mixed tabOk (n:=72) (ns:=[1,1,1,1,1,1,1,1,1,1,1,1,1,1,1,1,1,1,1,1]) (tr:=[.reg [],.reg [.none,.none,(iI (x.num.length:Int)),.none,.none,.none,.none,(iI (x.den.length:Int)),.none,(.dec true),.none,.skip,.skip,.skip,.skip,.skip,.skip,.skip,.skip,.skip,.skip,.skip,.skip,(.dec false),.none,.skip,.skip,.skip,.skip,.skip,.skip,.skip,.skip,.skip,.skip,.skip,.skip]]) (cj (o_len wordPV x.num) (cj (dltN_t h1) (cj (dltN_t h1) (cj (dltN_t h1) (cj (o_len wordPV x.den) (cj (dltN_t h1) (cj (dltN_t h1) (cj (dltN_f h2) (cj (dltN_f h2) (cj (dltN_f h2) (cj (dltN_f h2) (cj (dltN_f h2) (cj (dltN_f h2) (cj (dltN_f h2) (cj (Eq.refl false) (cj (Eq.refl false) (cj (Eq.refl false) (cj (Eq.refl false) (cj (Eq.refl false) (cj (Eq.refl false) True.intro)))))))))))))))))))) (by kernel_rfl))
theorem e6(x:ARat)(num den:UInt32)(h1:2≤x.num.length):Contract prg 41 [x.pv,(vW num),(vW den)] (vB false) :=
 Contract.ofL Tryz.func41 (by kernel_rfl) (L.done mixed tabOk (n:=72) (ns:=[1,1,1,1,1,1,1,1,1,1,1,1,1,1,1,1,1,1]) (tr:=[.reg [],.reg [.none,.none,(iI (x.num.length:Int)),.none,.none,.skip,.skip,.skip,.skip,(.dec false),.none,.skip,.skip,.skip,.skip,.skip,.skip,.skip,.skip,.skip,.skip,.skip,.skip,.none,.none,.skip,.skip,.skip,.skip,.skip,.skip,.skip,.skip,.skip,.skip,.skip,.skip]]) (cj (o_len wordPV x.num) (cj (dltN_f h1) (cj (dltN_f h1) (cj (dltN_f h1) (cj (dltN_f h1) (cj (dltN_f h1) (cj (Eq.refl false) (cj (Eq.refl false) (cj (Eq.refl false) (cj (Eq.refl false) (cj (Eq.refl false) (cj (Eq.refl false) (cj (Eq.refl false) (cj (Eq.refl false) (cj (Eq.refl false) (cj (Eq.refl false) (cj (Eq.refl false) (cj (Eq.refl false) True.intro)))))))))))))))))) (by kernel_rfl))
end linkworklaw08_low
namespace linkworklaw08_ResultantCertifies
theorem e0(p q:List ARat)(c:ACofactors)(val awa:Bool)(h1:Contract prg 21 [(lpv (lcell ARat.cells) [p,q])] (vB val))(h2:val=false)(h3:Contract prg 11 [] (vB awa)):Contract prg 9 [(polyPV p),(polyPV q),c.pv] (vB awa) :=
 Contract.ofL Tryz.func9 (by kernel_rfl) (L.done mixed tabOk (n:=84) (ns:=[3,1,1,1,1,1,1,1,1,1,1,1,1,1,1,1,1,1,1,1,1,1,1,1,1,1,1]) (tr:=[.reg [],.reg [.none,.none,(.slc 0 0 (([p,q]:List (List ARat)).map (lcell ARat.cells))),(.pv (vB val)),.none,.none,.skip,.skip,.skip,.skip,.skip,.skip,.skip,.skip,.skip,(.dec true),.none,.skip,.skip,.skip,.skip,.none,.none,.skip,.skip,.skip,.skip,.none,.none,.skip,.skip,.skip,.skip,.none,.none,.skip,.skip],.auto,.reg [(.pv (vB awa))]]) (cj (o_bs (sz_l ARat.cells) ([p,q]:List (List ARat))) (cj h1 (cj (bnot_t h2) (cj (bnot_t h2) (cj (bnot_t h2) (cj (bnot_t h2) (cj (bnot_t h2) (cj (bnot_t h2) (cj (bnot_t h2) (cj (bnot_t h2) (cj (bnot_t h2) (cj (bnot_t h2) (cj (Eq.refl true) (cj (Eq.refl true) (cj (Eq.refl true) (cj (Eq.refl true) (cj (Eq.refl true) (cj (Eq.refl true) (cj (Eq.refl true) (cj (Eq.refl true) (cj (Eq.refl true) (cj (Eq.refl true) (cj (Eq.refl true) (cj (Eq.refl true) (cj (Eq.refl true) (cj (Eq.refl true) (cj h3 True.intro))))))))))))))))))))))))))) (by kernel_rfl))
theorem e1(p q:List ARat)(c:ACofactors)(val sho awa:Bool)(h1:Contract prg 21 [(lpv (lcell ARat.cells) [p,q])] (vB val))(h2:val=true)(h3:Contract prg 10 [(lpv (lcell ARat.cells) [c.u,c.v,c.g])] (vB sho))(h4:sho=false)(h5:Contract prg 11 [] (vB awa)):Contract prg 9 [(polyPV p),(polyPV q),c.pv] (vB awa) :=
 Contract.ofL Tryz.func9 (by kernel_rfl) (L.done mixed tabOk (n:=84) (ns:=[3,1,1,1,1,1,1,1,1,3,1,1,1,1,1,1,1,1,1,1,1,1,1,1,1,1,1,1,1,1]) (tr:=[.reg [],.reg [.none,.none,(.slc 0 0 (([p,q]:List (List ARat)).map (lcell ARat.cells))),(.pv (vB val)),.none,.none,.none,.none,.none,.none,.none,.none,(.slc 0 0 (([c.u,c.v,c.g]:List (List ARat)).map (lcell ARat.cells))),(.pv (vB sho)),.none,(.dec false),.none,.skip,.skip,.skip,.skip,(.dec true),.none,.skip,.skip,.skip,.skip,.none,.none,.skip,.skip,.skip,.skip,.none,.none,.skip,.skip],.auto,.reg [(.pv (vB awa))]]) (cj (o_bs (sz_l ARat.cells) ([p,q]:List (List ARat))) (cj h1 (cj (bnot_f h2) (cj (bnot_f h2) (cj (bnot_f h2) (cj (bnot_f h2) (cj (bnot_f h2) (cj (bnot_f h2) (cj (bnot_f h2) (cj (o_bs (sz_l ARat.cells) ([c.u,c.v,c.g]:List (List ARat))) (cj (bnot_f h2) (cj h3 (cj (bnot_f h2) (cj (bnot_f h2) (cj (bnot_t h4) (cj (bnot_t h4) (cj (bnot_t h4) (cj (bnot_t h4) (cj (bnot_t h4) (cj (Eq.refl true) (cj (Eq.refl true) (cj (Eq.refl true) (cj (Eq.refl true) (cj (Eq.refl true) (cj (Eq.refl true) (cj (Eq.refl true) (cj (Eq.refl true) (cj (Eq.refl true) (cj (Eq.refl true) (cj h5 True.intro)))))))))))))))))))))))))))))) (by kernel_rfl))
theorem e2(p q:List ARat)(c:ACofactors)(val sho:Bool)(che:Int)(awa:Bool)(h1:Contract prg 21 [(lpv (lcell ARat.cells) [p,q])] (vB val))(h2:val=true)(h3:Contract prg 10 [(lpv (lcell ARat.cells) [c.u,c.v,c.g])] (vB sho))(h4:sho=true)(h5:Contract prg 40 [(polyPV c.u)] (vI che))(h6:che≠0)(h7:Contract prg 11 [] (vB awa)):Contract prg 9 [(polyPV p),(polyPV q),c.pv] (vB awa) :=
 Contract.ofL Tryz.func9 (by kernel_rfl) (L.done mixed tabOk (n:=84) (ns:=[3,1,1,1,1,1,1,1,1,3,1,1,1,1,1,1,1,1,1,1,1,1,1,1,1,1,1,1,1,1,1,1]) (tr:=[.reg [],.reg [.none,.none,(.slc 0 0 (([p,q]:List (List ARat)).map (lcell ARat.cells))),(.pv (vB val)),.none,.none,.none,.none,.none,.none,.none,.none,(.slc 0 0 (([c.u,c.v,c.g]:List (List ARat)).map (lcell ARat.cells))),(.pv (vB sho)),.none,(.dec false),.none,.none,.none,(.pv (vI che)),.none,(.dec false),.none,.skip,.skip,.skip,.skip,(.dec true),.none,.skip,.skip,.skip,.skip,.none,.none,.skip,.skip],.auto,.reg [(.pv (vB awa))]]) (cj (o_bs (sz_l ARat.cells) ([p,q]:List (List ARat))) (cj h1 (cj (bnot_f h2) (cj (bnot_f h2) (cj (bnot_f h2) (cj (bnot_f h2) (cj (bnot_f h2) (cj (bnot_f h2) (cj (bnot_f h2) (cj (o_bs (sz_l ARat.cells) ([c.u,c.v,c.g]:List (List ARat))) (cj (bnot_f h2) (cj h3 (cj (bnot_f h2) (cj (bnot_f h2) (cj (bnot_f h4) (cj (bnot_f h4) (cj (bnot_f h4) (cj h5 (cj (bnot_f h4) (cj (bnot_f h4) (cj (dne_t h6) (cj (dne_t h6) (cj (dne_t h6) (cj (dne_t h6) (cj (dne_t h6) (cj (Eq.refl true) (cj (Eq.refl true) (cj (Eq.refl true) (cj (Eq.refl true) (cj (Eq.refl true) (cj (Eq.refl true) (cj h7 True.intro)))))))))))))))))))))))))))))))) (by kernel_rfl))
theorem e3(p q:List ARat)(c:ACofactors)(val sho:Bool)(che che1:Int)(awa:Bool)(h1:Contract prg 21 [(lpv (lcell ARat.cells) [p,q])] (vB val))(h2:val=true)(h3:Contract prg 10 [(lpv (lcell ARat.cells) [c.u,c.v,c.g])] (vB sho))(h4:sho=true)(h5:Contract prg 40 [(polyPV c.u)] (vI che))(h6:che=0)(h7:Contract prg 40 [(polyPV c.v)] (vI che1))(h8:che1≠0)(h9:Contract prg 11 [] (vB awa)):Contract prg 9 [(polyPV p),(polyPV q),c.pv] (vB awa) :=
 Contract.ofL Tryz.func9 (by kernel_rfl) (L.done mixed tabOk (n:=84) (ns:=[3,1,1,1,1,1,1,1,1,3,1,1,1,1,1,1,1,1,1,1,1,1,1,1,1,1,1,1,1,1,1,1,1,1]) (tr:=[.reg [],.reg [.none,.none,(.slc 0 0 (([p,q]:List (List ARat)).map (lcell ARat.cells))),(.pv (vB val)),.none,.none,.none,.none,.none,.none,.none,.none,(.slc 0 0 (([c.u,c.v,c.g]:List (List ARat)).map (lcell ARat.cells))),(.pv (vB sho)),.none,(.dec false),.none,.none,.none,(.pv (vI che)),.none,(.dec false),.none,.none,.none,(.pv (vI che1)),.none,(.dec false),.none,.skip,.skip,.skip,.skip,(.dec true),.none,.skip,.skip],.auto,.reg [(.pv (vB awa))]]) (cj (o_bs (sz_l ARat.cells) ([p,q]:List (List ARat))) (cj h1 (cj (bnot_f h2) (cj (bnot_f h2) (cj (bnot_f h2) (cj (bnot_f h2) (cj (bnot_f h2) (cj (bnot_f h2) (cj (bnot_f h2) (cj (o_bs (sz_l ARat.cells) ([c.u,c.v,c.g]:List (List ARat))) (cj (bnot_f h2) (cj h3 (cj (bnot_f h2) (cj (bnot_f h2) (cj (bnot_f h4) (cj (bnot_f h4) (cj (bnot_f h4) (cj h5 (cj (bnot_f h4) (cj (bnot_f h4) (cj (dne_f h6) (cj (dne_f h6) (cj (dne_f h6) (cj h7 (cj (dne_f h6) (cj (dne_f h6) (cj (dne_t h8) (cj (dne_t h8) (cj (dne_t h8) (cj (dne_t h8) (cj (dne_t h8) (cj (Eq.refl true) (cj (Eq.refl true) (cj h9 True.intro)))))))))))))))))))))))))))))))))) (by kernel_rfl))
theorem e4(p q:List ARat)(c:ACofactors)(val sho:Bool)(che che1 che2:Int)(awa:Bool)(h1:Contract prg 21 [(lpv (lcell ARat.cells) [p,q])] (vB val))(h2:val=true)(h3:Contract prg 10 [(lpv (lcell ARat.cells) [c.u,c.v,c.g])] (vB sho))(h4:sho=true)(h5:Contract prg 40 [(polyPV c.u)] (vI che))(h6:che=0)(h7:Contract prg 40 [(polyPV c.v)] (vI che1))(h8:che1=0)(h9:Contract prg 40 [(polyPV c.g)] (vI che2))(h10:che2≠0)(h11:Contract prg 11 [] (vB awa)):Contract prg 9 [(polyPV p),(polyPV q),c.pv] (vB awa) :=
 Contract.ofL Tryz.func9 (by kernel_rfl) (L.done mixed tabOk (n:=84) (ns:=[3,1,1,1,1,1,1,1,1,3,1,1,1,1,1,1,1,1,1,1,1,1,1,1,1,1,1,1,1,1,1,1,1,1,1,1]) (tr:=[.reg [],.reg [.none,.none,(.slc 0 0 (([p,q]:List (List ARat)).map (lcell ARat.cells))),(.pv (vB val)),.none,.none,.none,.none,.none,.none,.none,.none,(.slc 0 0 (([c.u,c.v,c.g]:List (List ARat)).map (lcell ARat.cells))),(.pv (vB sho)),.none,(.dec false),.none,.none,.none,(.pv (vI che)),.none,(.dec false),.none,.none,.none,(.pv (vI che1)),.none,(.dec false),.none,.none,.none,(.pv (vI che2)),.none,(.dec false),.none,.skip,.skip,(.dec true)],.auto,.reg [(.pv (vB awa))]]) (cj (o_bs (sz_l ARat.cells) ([p,q]:List (List ARat))) (cj h1 (cj (bnot_f h2) (cj (bnot_f h2) (cj (bnot_f h2) (cj (bnot_f h2) (cj (bnot_f h2) (cj (bnot_f h2) (cj (bnot_f h2) (cj (o_bs (sz_l ARat.cells) ([c.u,c.v,c.g]:List (List ARat))) (cj (bnot_f h2) (cj h3 (cj (bnot_f h2) (cj (bnot_f h2) (cj (bnot_f h4) (cj (bnot_f h4) (cj (bnot_f h4) (cj h5 (cj (bnot_f h4) (cj (bnot_f h4) (cj (dne_f h6) (cj (dne_f h6) (cj (dne_f h6) (cj h7 (cj (dne_f h6) (cj (dne_f h6) (cj (dne_f h8) (cj (dne_f h8) (cj (dne_f h8) (cj h9 (cj (dne_f h8) (cj (dne_f h8) (cj (dne_t h10) (cj (dne_t h10) (cj (dne_t h10) (cj h11 True.intro)))))))))))))))))))))))))))))))))))) (by kernel_rfl))
theorem e6(p q:List ARat)(c:ACofactors)(val sho:Bool)(che che1 che2:Int)(awa:Bool)(bez bez1 bez2:List ARat)(acc acc2:Bool)(h1:Contract prg 21 [(lpv (lcell ARat.cells) [p,q])] (vB val))(h2:val=true)(h3:Contract prg 10 [(lpv (lcell ARat.cells) [c.u,c.v,c.g])] (vB sho))(h4:sho=true)(h5:Contract prg 40 [(polyPV c.u)] (vI che))(h6:che=0)(h7:Contract prg 40 [(polyPV c.v)] (vI che1))(h8:che1=0)(h9:Contract prg 40 [(polyPV c.g)] (vI che2))(h10:che2=0)(h11:Contract prg 11 [] (vB awa))(h12:awa=true)(h13:Contract prg 35 [(polyPV p),(polyPV q)] (.tup [(polyPV bez),(polyPV bez1),(polyPV bez2),.nilI]))(h14:Contract prg 36 [(polyPV p),(polyPV q),(polyPV bez),(polyPV bez1),(polyPV bez2)] (.tup [(vB acc),.nilI]))(h15:Contract prg 36 [(polyPV p),(polyPV q),(polyPV c.u),(polyPV c.v),(polyPV c.g)] (.tup [(vB acc2),.nilI]))(h16:acc=true)(h17:acc2=false):Contract prg 9 [(polyPV p),(polyPV q),c.pv] (vB true) :=
 Contract.ofL Tryz.func9 (by kernel_rfl) (L.done mixed tabOk (n:=105) (ns:=[3,1,1,1,1,1,1,1,1,3,1,1,1,1,1,1,1,1,1,1,1,1,1,1,1,1,1,1,1,1,1,1,1,1,1,1,1,1,1,1,1,1,1,1,1,1,1,1,1,1,1,1,1,1,1]) (tr:=[.reg [],.reg [.none,.none,(.slc 0 0 (([p,q]:List (List ARat)).map (lcell ARat.cells))),(.pv (vB val)),.none,.none,.none,.none,.none,.none,.none,.none,(.slc 0 0 (([c.u,c.v,c.g]:List (List ARat)).map (lcell ARat.cells))),(.pv (vB sho)),.none,(.dec false),.none,.none,.none,(.pv (vI che)),.none,(.dec false),.none,.none,.none,(.pv (vI che1)),.none,(.dec false),.none,.none,.none,(.pv (vI che2)),.none,(.dec false),.none,(.pv (vB awa)),.none,(.dec false)],.dec false,.reg [.none,.none,(.pv (.tup [(polyPV bez),(polyPV bez1),(polyPV bez2),.nilI]))],.reg [.none,.none,.none,.none,.none,(.pv (.tup [(vB acc),.nilI]))],.reg [.none,.none,.none,.none,.none,.none,.none,.none,(.pv (.tup [(vB acc2),.nilI]))],.reg [.none,.none,.none,.none,.none,.none,.none,.none,.none,.none,.none,.none,.none,.none,.none,.none,.none,.skip,.skip,.skip,.skip,(.dec true),(.dec true)]]) (cj (o_bs (sz_l ARat.cells) ([p,q]:List (List ARat))) (cj h1 (cj (bnot_f h2) (cj (bnot_f h2) (cj (bnot_f h2) (cj (bnot_f h2) (cj (bnot_f h2) (cj (bnot_f h2) (cj (bnot_f h2) (cj (o_bs (sz_l ARat.cells) ([c.u,c.v,c.g]:List (List ARat))) (cj (bnot_f h2) (cj h3 (cj (bnot_f h2) (cj (bnot_f h2) (cj (bnot_f h4) (cj (bnot_f h4) (cj (bnot_f h4) (cj h5 (cj (bnot_f h4) (cj (bnot_f h4) (cj (dne_f h6) (cj (dne_f h6) (cj (dne_f h6) (cj h7 (cj (dne_f h6) (cj (dne_f h6) (cj (dne_f h8) (cj (dne_f h8) (cj (dne_f h8) (cj h9 (cj (dne_f h8) (cj (dne_f h8) (cj (dne_f h10) (cj h11 (cj (dne_f h10) (cj (dne_f h10) (cj (bnot_f h12) (cj h13 (cj h14 (cj h15 (cj (Eq.refl true) (cj (Eq.refl true) (cj (Eq.refl true) (cj (Eq.refl true) (cj (Eq.refl true) (cj h16 (cj h16 (cj h16 (cj (bnot_t h17) (cj (bnot_t h17) (cj (bnot_t h17) (cj (bnot_t h17) (cj h16 (cj (bnot_t h17) (cj h16 True.intro))))))))))))))))))))))))))))))))))))))))))))))))))))))) (by kernel_rfl))
theorem e7(p q:List ARat)(c:ACofactors)(val sho:Bool)(che che1 che2:Int)(awa:Bool)(bez bez1 bez2:List ARat)(acc acc2 sam:Bool)(h1:Contract prg 21 [(lpv (lcell ARat.cells) [p,q])] (vB val))(h2:val=true)(h3:Contract prg 10 [(lpv (lcell ARat.cells) [c.u,c.v,c.g])] (vB sho))(h4:sho=true)(h5:Contract prg 40 [(polyPV c.u)] (vI che))(h6:che=0)(h7:Contract prg 40 [(polyPV c.v)] (vI che1))(h8:che1=0)(h9:Contract prg 40 [(polyPV c.g)] (vI che2))(h10:che2=0)(h11:Contract prg 11 [] (vB awa))(h12:awa=true)(h13:Contract prg 35 [(polyPV p),(polyPV q)] (.tup [(polyPV bez),(polyPV bez1),(polyPV bez2),.nilI]))(h14:Contract prg 36 [(polyPV p),(polyPV q),(polyPV bez),(polyPV bez1),(polyPV bez2)] (.tup [(vB acc),.nilI]))(h15:Contract prg 36 [(polyPV p),(polyPV q),(polyPV c.u),(polyPV c.v),(polyPV c.g)] (.tup [(vB acc2),.nilI]))(h16:acc=true)(h17:acc2=true)(h18:Contract prg 39 [(polyPV c.g),(polyPV bez2)] (vB sam)):Contract prg 9 [(polyPV p),(polyPV q),c.pv] (vB sam) :=
 Contract.ofL Tryz.func9 (by kernel_rfl) (L.done mixed tabOk (n:=105) (ns:=[3,1,1,1,1,1,1,1,1,3,1,1,1,1,1,1,1,1,1,1,1,1,1,1,1,1,1,1,1,1,1,1,1,1,1,1,1,1,1,1,1,1,1,1,1,1,1,1,1,1,1,1,1,1,1,1]) (tr:=[.reg [],.reg [.none,.none,(.slc 0 0 (([p,q]:List (List ARat)).map (lcell ARat.cells))),(.pv (vB val)),.none,.none,.none,.none,.none,.none,.none,.none,(.slc 0 0 (([c.u,c.v,c.g]:List (List ARat)).map (lcell ARat.cells))),(.pv (vB sho)),.none,(.dec false),.none,.none,.none,(.pv (vI che)),.none,(.dec false),.none,.none,.none,(.pv (vI che1)),.none,(.dec false),.none,.none,.none,(.pv (vI che2)),.none,(.dec false),.none,(.pv (vB awa)),.none,(.dec false)],.dec false,.reg [.none,.none,(.pv (.tup [(polyPV bez),(polyPV bez1),(polyPV bez2),.nilI]))],.reg [.none,.none,.none,.none,.none,(.pv (.tup [(vB acc),.nilI]))],.reg [.none,.none,.none,.none,.none,.none,.none,.none,(.pv (.tup [(vB acc2),.nilI]))],.reg [.none,.none,.none,.none,.none,.none,.none,.none,.none,.none,.none,.none,.none,.none,.none,.none,.none,.none,.none,.none,(.pv (vB sam)),(.dec false),(.dec true)]]) (cj (o_bs (sz_l ARat.cells) ([p,q]:List (List ARat))) (cj h1 (cj (bnot_f h2) (cj (bnot_f h2) (cj (bnot_f h2) (cj (bnot_f h2) (cj (bnot_f h2) (cj (bnot_f h2) (cj (bnot_f h2) (cj (o_bs (sz_l ARat.cells) ([c.u,c.v,c.g]:List (List ARat))) (cj (bnot_f h2) (cj h3 (cj (bnot_f h2) (cj (bnot_f h2) (cj (bnot_f h4) (cj (bnot_f h4) (cj (bnot_f h4) (cj h5 (cj (bnot_f h4) (cj (bnot_f h4) (cj (dne_f h6) (cj (dne_f h6) (cj (dne_f h6) (cj h7 (cj (dne_f h6) (cj (dne_f h6) (cj (dne_f h8) (cj (dne_f h8) (cj (dne_f h8) (cj h9 (cj (dne_f h8) (cj (dne_f h8) (cj (dne_f h10) (cj h11 (cj (dne_f h10) (cj (dne_f h10) (cj (bnot_f h12) (cj h13 (cj h14 (cj h15 (cj (Eq.refl true) (cj (Eq.refl true) (cj (Eq.refl true) (cj (Eq.refl true) (cj (Eq.refl true) (cj h16 (cj h16 (cj h16 (cj (bnot_f h17) (cj (bnot_f h17) (cj (bnot_f h17) (cj (bnot_f h17) (cj h18 (cj h16 (cj (bnot_f h17) (cj h16 True.intro)))))))))))))))))))))))))))))))))))))))))))))))))))))))) (by kernel_rfl))
end linkworklaw08_ResultantCertifies
end Go.Proofs.YtboilcfohmmpbaaGreatDoor.Sym.Path
namespace Go.Proofs.YtboilcfohmmpbaaGreatDoor.Sym
open Go Path CInt Dt Rs
set_option linter.unusedVariables false
theorem ratT_int8(n:Int):ratT (n:Rat)=numT n:=by
 unfold ratT
 rw[if_pos (by rw[Rat.den_intCast];rfl),Rat.num_intCast]
namespace C08
theorem of(l:List Int)(h:∀n∈l,InI64 n)(hl:l.length≤1000):Contract prg 26 [lpv intCell l] (pq (l.map (fun n=>((n:Int):Rat)))):=by
 have loop:∀d t:Nat,l.length-t=d→t≤l.length→linkworklaw08_of.Loop1 (((l.take t).map (fun n=>((n:Int):Rat))).map mkR) l t (pq (l.map (fun n=>((n:Int):Rat)))):=by
  intro d
  induction d with
  |zero =>
   intro t hd ht
   have:t=l.length:=by omega
   subst this
   rw[List.take_length]
   exact linkworklaw08_of.l11 _ _ _ (Nat.le_refl _)
  |succ d ih =>
   intro t hd ht
   obtain⟨v,hv⟩:∃v,l[t]? = some v:=⟨_,List.getElem?_eq_getElem (by omega)⟩
   have:=ih (t+1) (by omega) (by omega)
   rw[List.take_add_one,hv] at this
   refine linkworklaw08_of.l10 _ l t v (mkR ((v:Int):Rat)) (by omega) hv (CRb.Of v (h v (List.mem_of_getElem? hv))) ?_ (by omega) ?_
   ·rw[List.length_append,List.length_map,List.length_map,List.length_take,List.length_singleton];omega
   ·simpa using this
 exact linkworklaw08_of.e0 l (loop _ 0 rfl (by omega))
def Lo(a:ARat):Prop:=a.num.length≤1∧a.den.length≤1∧nat a.num≤1000∧nat a.den≤1000
theorem nat_one{l:Words}{v:UInt32}(hl:l.length<2)(h:l[0]? = some v):nat l=v.toNat:=by
 match l,hl,h with
 |[w],_,h=>simp at h;subst h;simp[nat]
theorem nat_none{l:Words}(h:l.length=0):nat l=0:=by rw[List.eq_nil_of_length_eq_zero h];rfl
theorem low(x:ARat):∃b,Contract prg 41 [x.pv,vW 1000,vW 1000] (vB b)∧(b=true→Lo x):=by
 have e:(1000:UInt32).toNat=1000:=rfl
 by_cases h1:x.num.length<2
 ·by_cases h2:x.den.length<2
  ·have den:nat x.num≤1000→∀v u:UInt32,x.den[0]? = some u→decide (u.toNat≤(1000:UInt32).toNat)=true→Lo x:=fun h v u hu hd=>⟨by omega,by omega,h,by rw[nat_one h2 hu];have:=of_decide_eq_true hd;omega⟩
   by_cases h3:x.num.length=0
   ·have hn:nat x.num≤1000:=by rw[nat_none h3];omega
    by_cases h4:x.den.length=0
    ·exact⟨_,linkworklaw08_low.e0 x _ _ h1 h2 h3 h4,fun _=>⟨by omega,by omega,hn,by rw[nat_none h4];omega⟩⟩
    ·obtain⟨v,hv⟩:∃v,x.den[0]? = some v:=⟨_,List.getElem?_eq_getElem (by omega)⟩
     exact⟨_,linkworklaw08_low.e1 x _ _ v h1 h2 h3 h4 hv,fun h=>den hn v v hv (by have h':=of_decide_eq_true h;exact decide_eq_true (by omega))⟩
   ·obtain⟨v,hv⟩:∃v,x.num[0]? = some v:=⟨_,List.getElem?_eq_getElem (by omega)⟩
    by_cases h5:v.toNat≤(1000:UInt32).toNat
    ·have hn:nat x.num≤1000:=by rw[nat_one h1 hv];omega
     by_cases h4:x.den.length=0
     ·exact⟨_,linkworklaw08_low.e2 x _ _ v h1 h2 h3 hv h5 h4,fun _=>⟨by omega,by omega,hn,by rw[nat_none h4];omega⟩⟩
     ·obtain⟨u,hu⟩:∃v,x.den[0]? = some v:=⟨_,List.getElem?_eq_getElem (by omega)⟩
      exact⟨_,linkworklaw08_low.e3 x _ _ v u h1 h2 h3 hv h5 h4 hu,fun h=>den hn v u hu (by have h':=of_decide_eq_true h;exact decide_eq_true (by omega))⟩
    ·exact⟨_,linkworklaw08_low.e4 x _ _ v h1 h2 h3 hv (by omega),fun h=>by cases h⟩
  ·exact⟨_,linkworklaw08_low.e5 x _ _ h1 (by omega),fun h=>by cases h⟩
 ·exact⟨_,linkworklaw08_low.e6 x _ _ (by omega),fun h=>by cases h⟩
def ShP(p:List ARat):Prop:=(p.length≤6∨65<p.length∧p.length≤100)∧∀a∈p,Lo a
theorem short(l:List (List ARat))(hl:l.length≤1000):∃b,Contract prg 10 [lpv (lcell ARat.cells) l] (vB b)∧(b=true→∀p∈l,ShP p):=by
 have inner:∀(t:Nat) (v:List ARat),(v.length≤6∨65<v.length∧v.length≤100)→t<l.length→(∃b,linkworklaw08_short.Loop1 l (t+1) (vB b)∧(b=true→∀p∈l.drop (t+1),ShP p)) →
   ∀d u:Nat,v.length-u=d→∃b,linkworklaw08_short.Loop2 l t v u (vB b)∧(b=true→(∀a∈v.drop u,Lo a)∧∀p∈l.drop (t+1),ShP p):=by
  intro t v hv6 ht ⟨b0,hL,hB⟩ d
  induction d with
  |zero =>
   intro u hd
   exact⟨b0,linkworklaw08_short.l22 l t v u (by omega) (by omega) hL,fun h=>⟨(by rw[List.drop_of_length_le (by omega)];intro a ha;cases ha),hB h⟩⟩
  |succ d ih =>
   intro u hd
   obtain⟨a,ha⟩:∃a,v[u]? = some a:=⟨_,List.getElem?_eq_getElem (by omega)⟩
   obtain⟨b1,h1,h2⟩:=low a
   cases b1 with
   |false=>exact⟨false,linkworklaw08_short.l20 l t v u a _ (by omega) ha h1 rfl,fun h=>by cases h⟩
   |true =>
    obtain⟨b,g1,g2⟩:=ih (u+1) (by omega)
    refine⟨b,linkworklaw08_short.l21 l t v u a _ (by omega) ha h1 rfl (by omega) g1,fun h=>⟨fun x hx => ?_,(g2 h).2⟩⟩
    rw[drop_cons ha] at hx
    rcases List.mem_cons.1 hx with rfl|hx
    ·exact h2 rfl
    ·exact(g2 h).1 x hx
 have outer:∀d t:Nat,l.length-t=d→∃b,linkworklaw08_short.Loop1 l t (vB b)∧(b=true→∀p∈l.drop t,ShP p):=by
  intro d
  induction d with
  |zero =>
   intro t hd
   exact⟨true,linkworklaw08_short.l15 l t (by omega),fun _=>by rw[List.drop_of_length_le (by omega)];intro p hp;cases hp⟩
  |succ d ih =>
   intro t hd
   obtain⟨v,hv⟩:∃v,l[t]? = some v:=⟨_,List.getElem?_eq_getElem (by omega)⟩
   have fin:(v.length≤6∨65<v.length∧v.length≤100)→(∀b,linkworklaw08_short.Loop2 l t v 0 (vB b)→linkworklaw08_short.Loop1 l t (vB b))→∃b,linkworklaw08_short.Loop1 l t (vB b)∧(b=true→∀p∈l.drop t,ShP p):=by
    intro h6 hLL
    obtain⟨b,g1,g2⟩:=inner t v h6 (by omega) (ih (t+1) (by omega)) _ 0 rfl
    refine⟨b,hLL b g1,fun h p hp => ?_⟩
    rw[drop_cons hv] at hp
    rcases List.mem_cons.1 hp with rfl|hp
    ·have:=(g2 h).1
     rw[List.drop_zero] at this
     exact⟨h6,this⟩
    ·exact(g2 h).2 p hp
   by_cases h6:v.length≤6
   ·exact fin (Or.inl h6) (fun b g=>linkworklaw08_short.l14 l t v (by omega) hv h6 (by omega) g)
   ·by_cases h7:v.length≤65
    ·exact⟨false,linkworklaw08_short.l10 l t v (by omega) hv (by omega) h7,fun h=>by cases h⟩
    ·by_cases h8:v.length≤100
     ·exact fin (Or.inr ⟨by omega,h8⟩) (fun b g=>linkworklaw08_short.l12 l t v (by omega) hv (by omega) (by omega) h8 g)
     ·exact⟨false,linkworklaw08_short.l11 l t v (by omega) hv (by omega) (by omega) (by omega),fun h=>by cases h⟩
 obtain⟨b,h1,h2⟩:=outer _ 0 rfl
 rw[List.drop_zero] at h2
 exact⟨b,linkworklaw08_short.e0 l h1,h2⟩
theorem same(q:List Rat)(hl:q.length≤1000)(hf:Fl 68719476736 q):Contract prg 39 [pq q,pq q] (vB true):=by
 have:=CBa.Rats (q.map mkR) (q.map mkR) (by rw[lenM];omega) (fun a ha=>by
  obtain⟨x,hx,rfl⟩:=List.mem_map.1 ha
  have:=fit_mkRk (hf x hx)
  omega)
 rw[eqRs_self] at this
 exact linkworkref05_Same.e0 _ _ _ this
theorem ShP.fit{p:List ARat}(h:ShP p){k:Nat}(hk:1≤k):FitP k p:=fun a ha=>⟨Nat.le_trans (h.2 a ha).1 hk,Nat.le_trans (h.2 a ha).2.1 hk⟩
structure S8 (p:List ARat):Prop where
 ep:(vals p).map mkR=p
 zp:lastZ (vals p)=false
 len:(vals p).length≤6
 fl:Fl 1 (vals p)
 pl:p.length=(vals p).length
theorem ShP.s8{p:List ARat}(h:ShP p)(hc:chk p=0):S8 p:=by
 have hl:=chk_len hc
 have pl:p.length=(vals p).length:=by unfold vals;rw[List.length_map]
 refine⟨vals_of (chk_valid hc),chk_last hc,?_,fl_vals (h.fit (by omega)) (by omega),pl⟩
 rcases h.1 with h1|h1<;>omega
theorem S8.ch{p:List ARat}(s:S8 p):Ch 7 (vals p):=(Ch.of_fl s.fl).mono (by have:=s.len;omega)
theorem S8.pv{p:List ARat}(s:S8 p):pq (vals p)=polyPV p:=by unfold pq;rw[s.ep]
theorem S8.bz{p q:List ARat}(s:S8 p)(u:S8 q):Bz (vals p) (vals q):=⟨s.zp,u.zp,s.len,u.len,s.fl,u.fl⟩
theorem S8.ne{p:List ARat}(s:S8 p)(h:p.length≠0):vals p≠[]:=fun e=>h (by rw[s.pl,e];rfl)
theorem rsOk{p q:List Rat}(zp:lastZ p=false)(zq:lastZ q=false)(p0:p≠[])(q0:q≠[])(fp:Fl 20 p)(fq:Fl 20 q)(h:p.length+q.length≤12):RsOk 20 p q:=by
 refine⟨zp,zq,p0,q0,by omega,by omega,by omega,fp,fq,by omega,?_⟩
 have h1:=List.length_pos_iff.2 p0
 have h2:=List.length_pos_iff.2 q0
 have h4:5^(p.length-1+(q.length-1)+1)≤5^11:=Nat.pow_le_pow_right (by omega) (by omega)
 have h5:5^(p.length-1+(q.length-1)+1)*20≤5^11*20:=Nat.mul_le_mul_right _ h4
 exact Nat.le_trans h5 (by decide)
theorem valid(l:List (List ARat))(hl:l.length≤1000):∃b,Contract prg 21 [lpv (lcell ARat.cells) l] (vB b)∧(b=true→∀p∈l,S8 p∧p.length≠0):=by
 have loop:∀d t:Nat,l.length-t=d→∃b,linkworklaw08_valid.Loop1 l t (vB b)∧(b=true→∀p∈l.drop t,S8 p∧p.length≠0):=by
  intro d
  induction d with
  |zero =>
   intro t hd
   exact⟨true,linkworklaw08_valid.l14 l t (by omega),fun _=>by rw[List.drop_of_length_le (by omega)];intro p hp;cases hp⟩
  |succ d ih =>
   intro t hd
   obtain⟨v,hv⟩:∃v,l[t]? = some v:=⟨_,List.getElem?_eq_getElem (by omega)⟩
   obtain⟨b1,h1,h2⟩:=short [v] (by simp)
   cases b1 with
   |false=>exact⟨false,linkworklaw08_valid.l10 l t v _ (by omega) hv h1 rfl,fun h=>by cases h⟩
   |true =>
    have hs:=h2 rfl v (by simp)
    have hc:=CRe.Check v (hs.fit (by omega))
    by_cases h0:chk v=0
    ·by_cases h3:v.length=0
     ·exact⟨false,linkworklaw08_valid.l12 l t v _ _ (by omega) hv h1 rfl hc h0 h3,fun h=>by cases h⟩
     ·obtain⟨b,g1,g2⟩:=ih (t+1) (by omega)
      refine⟨b,linkworklaw08_valid.l13 l t v _ _ (by omega) hv h1 rfl hc h0 h3 (by omega) g1,fun h p hp => ?_⟩
      rw[drop_cons hv] at hp
      rcases List.mem_cons.1 hp with rfl|hp
      ·exact⟨hs.s8 h0,h3⟩
      ·exact g2 h p hp
    ·exact⟨false,linkworklaw08_valid.l11 l t v _ _ (by omega) hv h1 rfl hc h0,fun h=>by cases h⟩
 obtain⟨b,h1,h2⟩:=loop _ 0 rfl
 rw[List.drop_zero] at h2
 exact⟨b,linkworklaw08_valid.e0 l h1,h2⟩
abbrev exA:List Rat:=[((-2:Int):Rat),((0:Int):Rat),((1:Int):Rat)]
abbrev exB:List Rat:=[((-3:Int):Rat),((1:Int):Rat)]
abbrev exC:List Rat:=[((0:Int):Rat),((-1:Int):Rat),((0:Int):Rat),((1:Int):Rat)]
abbrev exD:List Rat:=[((2:Int):Rat),((-3:Int):Rat),((0:Int):Rat),((1:Int):Rat)]
abbrev exE:List Rat:=[((0:Int):Rat),((1:Int):Rat)]
abbrev exF:List Rat:=[((-1:Int):Rat),((1:Int):Rat)]
theorem awake:Contract prg 11 [] (vB true):=by
 have a1:=of [-2,0,1] (by unfold InI64;decide) (by decide)
 have a2:=of [-3,1] (by unfold InI64;decide) (by decide)
 have a3:=of [0, -1,0,1] (by unfold InI64;decide) (by decide)
 have a4:=of [2, -3,0,1] (by unfold InI64;decide) (by decide)
 have a5:=of [0,1] (by unfold InI64;decide) (by decide)
 have a6:=of [-1,1] (by unfold InI64;decide) (by decide)
 have a7:=of [1] (by unfold InI64;decide) (by decide)
 have a8:=of [-1] (by unfold InI64;decide) (by decide)
 have fA:Fl 1 exA:=by decide +kernel
 have fB:Fl 1 exB:=by decide +kernel
 have fC:Fl 1 exC:=by decide +kernel
 have fD:Fl 1 exD:=by decide +kernel
 have fE:Fl 1 exE:=by decide +kernel
 have fF:Fl 1 exF:=by decide +kernel
 have r1:=CRsP.ResultantQ (rsOk (p:=exA) (q:=exB) (by decide +kernel) (by decide +kernel) (by simp) (by simp) (fl_mono fA (by omega)) (fl_mono fB (by omega)) (by decide))
 have e1:res exA exB=((7:Int):Rat):=by decide +kernel
 rw[e1] at r1
 have r2:=CRsP.DiscriminantQ (p:=exC) ⟨by decide +kernel,by decide,by decide,fC⟩
 have e2:discL exC=((4:Int):Rat):=by decide +kernel
 rw[e2] at r2
 have r3:=CRsP.DiscriminantQ (p:=exD) ⟨by decide +kernel,by decide,by decide,fD⟩
 have e3:discL exD=((0:Int):Rat):=by decide +kernel
 rw[e3] at r3
 have r4:=CRsP.BezoutQ (p:=exE) (q:=exF) ⟨by decide +kernel,by decide +kernel,by decide,by decide,fE,fF⟩ (by simp)
 have e4:bzu exE exF=[((1:Int):Rat)]:=by decide +kernel
 have e5:bzv exE exF=[((-1:Int):Rat)]:=by decide +kernel
 have e6:gcdL exE exF=[((1:Int):Rat)]:=by decide +kernel
 rw[e4,e5,e6] at r4
 have t1:=CTx.fText_small ((7:Int):Rat) (by decide) (by decide)
 have t2:=CTx.fText_small ((4:Int):Rat) (by decide) (by decide)
 have n1:numT 7=ByteArray.mk #[55]:=by unfold numT;rw[if_neg (by decide),show(7:Int).natAbs=7 from rfl,dig_small (by omega)];rfl
 have n2:numT 4=ByteArray.mk #[52]:=by unfold numT;rw[if_neg (by decide),show(4:Int).natAbs=4 from rfl,dig_small (by omega)];rfl
 rw[ratT_int8,n1] at t1
 rw[ratT_int8,n2] at t2
 have s1:=same [((1:Int):Rat)] (by decide) (by decide +kernel)
 have s2:=same [((-1:Int):Rat)] (by decide) (by decide +kernel)
 have g1:=QF.Sign ((0:Int):Rat) (by decide)
 exact linkworklaw08_awake.e0 _ _ _ _ _ _ _ _ _ _ _ _ _ _ _ _ _ _ _ _ _ a1 a2 r1 a3 r2 a4 r3 a5 a6 r4 t1 rfl t2 rfl g1 (by decide +kernel) a7 s1 rfl a8 s2 rfl a7 s1
end C08
end Go.Proofs.YtboilcfohmmpbaaGreatDoor.Sym

namespace Go.Proofs.YtboilcfohmmpbaaGreatDoor.Sym
open Go Path CInt Dt Rs
set_option linter.unusedVariables false
def accT(S p q g:List Rat):Bool:=decide (g≠[]∧topL g=1∧S=g∧restL p g=[]∧restL q g=[])
def accB(p q u v g:List Rat):Bool:=accT (trimL (addL (trimL (mulL u p)) (trimL (mulL v q)))) p q g
theorem topL_monic8{p:List Rat}(hz:lastZ p=false)(h:p≠[]):topL (monicL p)=1:=by
 unfold topL
 rw[monicL_len hz,monicL_of hz h,coef_smulL]
 have:=top_ne hz h
 change 1/topL p*topL p=1
 rw[Rat.div_def,Rat.one_mul,Rat.inv_mul_cancel _ this]
structure AcOk (p q u v g:List Rat):Prop where
 zp:lastZ p=false
 zq:lastZ q=false
 zu:lastZ u=false
 zv:lastZ v=false
 zg:lastZ g=false
 lp:p.length≤6
 lq:q.length≤6
 lu:u.length≤12
 lv:v.length≤12
 lg:g.length≤6
 fp:Fl 1 p
 fq:Fl 1 q
 fu:Fl 1140030200 u
 fv:Fl 1140030200 v
 cg:Ch 30000 g
theorem fl_mul6{u p:List Rat}(lp:p.length≤6)(fu:Fl 1140030200 u)(fp:Fl 1 p):Fl 6840181213 (trimL (mulL u p)):=by
 refine fl_trimL (fl_of_coef (fun i => ?_))
 have h:=ht_mul_take fu fp (by omega) (by omega) (Or.inr lp) u.length i
 rw[List.take_length] at h
 omega
theorem fl_acc{u v p q:List Rat}(lp:p.length≤6)(lq:q.length≤6)(fu:Fl 1140030200 u)(fv:Fl 1140030200 v)(fp:Fl 1 p)(fq:Fl 1 q):Fl 13680362427 (trimL (addL (trimL (mulL u p)) (trimL (mulL v q)))):=by
 refine fl_trimL (fl_of_coef (fun i => ?_))
 have h1:=fl_coef (fl_mul6 lp fu fp) (by omega) i
 have h2:=fl_coef (fl_mul6 lq fv fq) (by omega) i
 have h3:=ht_add (coef (trimL (mulL u p)) i) (coef (trimL (mulL v q)) i)
 rw[coef_addL]
 omega
theorem len_mul8{u p:List Rat}(lu:u.length≤12)(lp:p.length≤6):(trimL (mulL u p)).length≤18:=by
 have h1:=len_trimL (mulL u p)
 have h2:=len_mulL u p
 omega
theorem chk5{l:List (List Rat)}(h:∀p∈l,lastZ p=false∧p.length≤65):chkL (l.map (fun p=>p.map mkR))=0:=by
 induction l with
 |nil=>rfl
 |cons p l ih =>
  rw[List.map_cons,chkL,if_pos (chk_map (h p (by simp)).1 (h p (by simp)).2)]
  exact ih (fun q hq=>h q (by simp[hq]))
theorem AcOk.chk{p q u v g:List Rat}(h:AcOk p q u v g):chkL [p.map mkR,q.map mkR,u.map mkR,v.map mkR,g.map mkR]=0:=by
 refine chk5 (l:=[p,q,u,v,g]) (fun x hx => ?_)
 simp at hx
 have:=h.lp;have:=h.lq;have:=h.lu;have:=h.lv;have:=h.lg
 rcases hx with rfl|rfl|rfl|rfl|rfl
 ·exact⟨h.zp,by omega⟩
 ·exact⟨h.zq,by omega⟩
 ·exact⟨h.zu,by omega⟩
 ·exact⟨h.zv,by omega⟩
 ·exact⟨h.zg,by omega⟩
theorem AcOk.fit{p q u v g:List Rat}(h:AcOk p q u v g):∀x∈[p.map mkR,q.map mkR,u.map mkR,v.map mkR,g.map mkR],FitP 274877906944 x:=by
 intro x hx
 simp at hx
 rcases hx with rfl|rfl|rfl|rfl|rfl
 ·exact fitQ h.fp (by omega)
 ·exact fitQ h.fq (by omega)
 ·exact fitQ h.fu (by omega)
 ·exact fitQ h.fv (by omega)
 ·exact fitQ (h.cg.fl (by omega)) (by omega)
theorem AcOk.div{p q u v g:List Rat}(h:AcOk p q u v g){x:List Rat}(lx:x.length≤6):2*(7+(x.length+1-g.length)*(30000+1))+3*30000+5≤68719476736:=by
 have:(x.length+1-g.length)*(30000+1)≤7*(30000+1):=Nat.mul_le_mul_right _ (by omega)
 omega
namespace CRsP
theorem same(a b:List Rat)(ha:Fl 68719476736 a)(hb:Fl 68719476736 b)(hl:a.length≤1000):Contract prg 83 [pq a,pq b] (vB (decide (a=b))):=by
 by_cases h:a.length=b.length
 ·have loop:∀d t:Nat,t+d=a.length→resultant_same.Loop1 (a.map mkR) (b.map mkR) t (vB (decide (a.drop t=b.drop t))):=by
   intro d
   induction d with
   |zero =>
    intro t ht
    rw[show a.drop t=[] from List.drop_eq_nil_of_le (by omega),show b.drop t=[] from List.drop_eq_nil_of_le (by omega)]
    exact resultant_same.l12 _ _ t (by rw[lenM];omega)
   |succ d ih =>
    intro t ht
    obtain⟨x,hx⟩:∃x,a[t]? = some x:=⟨_,List.getElem?_eq_getElem (by omega)⟩
    obtain⟨y,hy⟩:∃y,b[t]? = some y:=⟨_,List.getElem?_eq_getElem (by omega)⟩
    have hc:=QF.Cmp x y (ha x (List.mem_of_getElem? hx)) (hb y (List.mem_of_getElem? hy))
    rw[drop_cons hx,drop_cons hy]
    by_cases e:x=y
    ·subst e
     have:decide (x::a.drop (t+1)=x::b.drop (t+1))=decide (a.drop (t+1)=b.drop (t+1)):=by
      rw[Bool.eq_iff_iff,decide_eq_true_iff,decide_eq_true_iff];simp
     rw[this]
     exact resultant_same.l11 _ _ t _ _ _ (by rw[lenM];omega) (getM hx) (getM hy) hc (cmpR_eq.2 rfl) (by omega) (ih (t+1) (by omega))
    ·have:decide (x::a.drop (t+1)=y::b.drop (t+1))=false:=decide_eq_false (fun h=>e (List.cons.inj h).1)
     rw[this]
     exact resultant_same.l10 _ _ t _ _ _ (by rw[lenM];omega) (getM hx) (getM hy) hc (fun h=>e (cmpR_eq.1 h))
  exact resultant_same.e1 _ _ (by rw[lenM,lenM];exact h) (loop a.length 0 (by omega))
 ·rw[decide_eq_false (fun e=>h (by rw[e]))]
  exact resultant_same.e0 _ _ (by rw[lenM,lenM];exact h)
theorem AcceptsQ{p q u v g:List Rat}(h:AcOk p q u v g):Contract prg 36 [pq p,pq q,pq u,pq v,pq g] (.tup [vB (accB p q u v g),.nilI]):=by
 have lp:=h.lp;have lq:=h.lq;have lu:=h.lu;have lv:=h.lv;have lg:=h.lg
 have hc:=CRs.checks [p.map mkR,q.map mkR,u.map mkR,v.map mkR,g.map mkR] (by simp) h.fit
 rw[h.chk] at hc
 have m1:=PQ.Mul (a:=1140030200) (b:=1) 6 u p h.zu h.zp (by omega) (by omega) h.fu h.fp (by omega) (by omega) (Or.inr lp) (by omega) (by omega)
 have m2:=PQ.Mul (a:=1140030200) (b:=1) 6 v q h.zv h.zq (by omega) (by omega) h.fv h.fq (by omega) (by omega) (Or.inr lq) (by omega) (by omega)
 have f1:=fl_mul6 lp h.fu h.fp
 have f2:=fl_mul6 lq h.fv h.fq
 have l1:=len_mul8 lu lp
 have l2:=len_mul8 lv lq
 have m3:=PQ.Add (a:=6840181213) (b:=6840181213) (trimL (mulL u p)) (trimL (mulL v q)) (lastZ_trimL _) (lastZ_trimL _) (by omega) (by omega) f1 f2 (by omega) (by omega) (by omega)
 have f3:=fl_acc lp lq h.fu h.fv h.fp h.fq
 have l3:(trimL (addL (trimL (mulL u p)) (trimL (mulL v q)))).length≤18:=by
  have h1:=len_trimL (addL (trimL (mulL u p)) (trimL (mulL v q)))
  rw[len_addL] at h1
  omega
 unfold accB accT
 generalize trimL (addL (trimL (mulL u p)) (trimL (mulL v q)))=S at *
 by_cases g0:g=[]
 ·rw[decide_eq_false (fun h=>h.1 g0)]
  exact resultant_Accepts.e0 _ _ _ _ (g.map mkR) _ _ _ hc m1 m2 m3 (by rw[g0];rfl)
 ·have hgl:=List.length_pos_iff.2 g0
  have hta:=ht_top h.cg (by omega)
  have h11:Sym.ht 1=1:=by decide
  have hcm:=QF.Cmp (topL g) 1 (by omega) (by omega)
  by_cases t1:topL g=1
  ·have hs:=same S g (fl_mono f3 (by omega)) (h.cg.fl (by omega) |> fun h=>fl_mono h (by omega)) (by omega)
   by_cases s1:S=g
   ·rw[decide_eq_true s1] at hs
    refine resultant_Accepts.e3 _ _ _ _ (g.map mkR) _ _ _ (g.length-1) (mkR (topL g)) (mkR 1) _ _ hc m1 m2 m3 (by rw[lenM];omega) (by rw[lenM];unfold InI64;omega) (by rw[lenM];omega) (getM (getTop g0)) (CFr.Of 1 ⟨by decide,by decide⟩) hcm (cmpR_eq.2 t1) hs rfl ?_
    have d1:=PQ.Div p g h.zp h.zg g0 (by omega) (by omega) ((Ch.of_fl h.fp).mono (by omega)) h.cg (by omega) (by omega) (h.div lp)
    have d2:=PQ.Div q g h.zq h.zg g0 (by omega) (by omega) ((Ch.of_fl h.fq).mono (by omega)) h.cg (by omega) (by omega) (h.div lq)
    by_cases r1:restL p g=[]
    ·refine resultant_Accepts.l11 _ 0 _ _ (p.map mkR) _ _ (by omega) rfl d1 (by rw[lenM];have:(divL p g).2=[]:=r1;rw[this];simp) (by omega) ?_
     by_cases r2:restL q g=[]
     ·rw[decide_eq_true ⟨g0,t1,s1,r1,r2⟩]
      exact resultant_Accepts.l11 _ 1 _ _ (q.map mkR) _ _ (by omega) rfl d2 (by rw[lenM];have:(divL q g).2=[]:=r2;rw[this];simp) (by omega) (resultant_Accepts.l13 _ 2 _ _ (by omega))
     ·rw[decide_eq_false (fun h=>r2 h.2.2.2.2)]
      exact resultant_Accepts.l10 _ 1 _ _ (q.map mkR) _ _ (by omega) rfl d2 (by rw[lenM];exact List.length_pos_iff.2 r2)
    ·rw[decide_eq_false (fun h=>r1 h.2.2.2.1)]
     exact resultant_Accepts.l10 _ 0 _ _ (p.map mkR) _ _ (by omega) rfl d1 (by rw[lenM];exact List.length_pos_iff.2 r1)
   ·rw[decide_eq_false s1] at hs
    rw[decide_eq_false (fun h=>s1 h.2.2.1)]
    exact resultant_Accepts.e2 _ _ _ _ (g.map mkR) _ _ _ (g.length-1) (mkR (topL g)) (mkR 1) _ _ hc m1 m2 m3 (by rw[lenM];omega) (by rw[lenM];unfold InI64;omega) (by rw[lenM];omega) (getM (getTop g0)) (CFr.Of 1 ⟨by decide,by decide⟩) hcm (cmpR_eq.2 t1) hs rfl
  ·rw[decide_eq_false (fun h=>t1 h.2.1)]
   exact resultant_Accepts.e1 _ _ _ _ (g.map mkR) _ _ _ (g.length-1) (mkR (topL g)) (mkR 1) _ hc m1 m2 m3 (by rw[lenM];omega) (by rw[lenM];unfold InI64;omega) (by rw[lenM];omega) (getM (getTop g0)) (CFr.Of 1 ⟨by decide,by decide⟩) hcm (fun e=>t1 (cmpR_eq.1 e))
end CRsP
theorem trim_self{p:List Rat}(h:lastZ p=false):trimL p=p:=coef_inj (lastZ_trimL p) h (coef_trimL p)
theorem acc_own{p q:List Rat}(h:Bz p q)(q0:q≠[]):accB p q (bzu p q) (bzv p q) (gcdL p q)=true:=by
 have R:=h.res q0
 obtain⟨d1,d2⟩:=gcdL_dv p q h.zp h.zq
 unfold accB accT
 refine decide_eq_true ⟨R.g0,?_,?_,dv_rest0 d1 R.zg R.g0,dv_rest0 d2 R.zg R.g0⟩
 ·exact topL_monic8 (gcdF_trim _ _ _ h.zp h.zq) (gcdF_ne _ _ _ (Or.inr ⟨q0,by omega⟩))
 ·rw[←trim_self R.zg]
  exact eval_ext (fun z=>by rw[evalL_addL,evalL_trimL,evalL_trimL,evalL_mulL,evalL_mulL];exact R.id z)
theorem acc_gcd{p q u v g:List Rat}(h:AcOk p q u v g)(q0:q≠[])(ha:accB p q u v g=true):g=gcdL p q:=by
 unfold accB accT at ha
 obtain⟨g0,t1,s1,r1,r2⟩:=of_decide_eq_true ha
 obtain⟨d1,d2⟩:=gcdL_dv p q h.zp h.zq
 have zg:=gcdL_trim p q
 have hne:gcdL p q≠[]:=monicL_ne (gcdF_trim _ _ _ h.zp h.zq) (gcdF_ne _ _ _ (Or.inr ⟨q0,by omega⟩))
 have hmon:∀{x:List Rat},lastZ x=false→x≠[]→topL x=1→monicL x=x:=fun {x} hz h0 ht=>by
  rw[monicL_of hz h0,ht,show(1:Rat)/1=1 by decide +kernel,smulL_one]
 have htg:topL (gcdL p q)=1:=topL_monic8 (gcdF_trim _ _ _ h.zp h.zq) (gcdF_ne _ _ _ (Or.inr ⟨q0,by omega⟩))
 have es:∀z,evalL g z=evalL u z*evalL p z+evalL v z*evalL q z:=fun z=>by
  rw[←s1,evalL_trimL,evalL_addL,evalL_trimL,evalL_trimL,evalL_mulL,evalL_mulL]
 have dvp:∀{x:List Rat},restL x g=[]→Dv g x:=fun {x} hr=>⟨(divL x g).1,fun z=>by
  have:=rest_eval (P:=x) h.zg g0 z
  rw[hr] at this
  change _+(0:Rat)=_ at this
  grind⟩
 obtain⟨a,ea⟩:=dvp r1
 obtain⟨b,eb⟩:=dvp r2
 obtain⟨a',ea'⟩:=d1
 obtain⟨b',eb'⟩:=d2
 obtain⟨u',v',e1⟩:=gcdL_bez p q h.zp h.zq
 have k1:Dv g (gcdL p q):=⟨addL (mulL u' a) (mulL v' b),fun z=>by rw[e1 z,evalL_addL,evalL_mulL,evalL_mulL,ea,eb];grind⟩
 have k2:Dv (gcdL p q) g:=⟨addL (mulL u a') (mulL v b'),fun z=>by rw[es z,evalL_addL,evalL_mulL,evalL_mulL,ea',eb'];grind⟩
 have:=monic_uniq h.zg zg g0 hne k1 k2
 rwa[hmon h.zg g0 t1,hmon zg hne htg] at this
namespace C08
theorem S8.ac{p q u v g:List ARat}(s1:S8 p)(s2:S8 q)(s3:S8 u)(s4:S8 v)(s5:S8 g):AcOk (vals p) (vals q) (vals u) (vals v) (vals g) :=
 ⟨s1.zp,s2.zp,s3.zp,s4.zp,s5.zp,s1.len,s2.len,by have:=s3.len;omega,by have:=s4.len;omega,s5.len,s1.fl,s2.fl,fl_mono s3.fl (by omega),fl_mono s4.fl (by omega),s5.ch.mono (by omega)⟩
theorem ac_own{p q:List Rat}(h:Bz p q)(q0:q≠[]):AcOk p q (bzu p q) (bzv p q) (gcdL p q):=by
 have R:=h.res q0
 exact⟨h.zp,h.zq,R.zu,R.zv,R.zg,h.lp,h.lq,by have:=R.lu;omega,R.lv,R.lg,h.fp,h.fq,fl_mono (R.cu.fl (by omega)) (by omega),R.fv,R.cg⟩
theorem ResultantCertifies(p q:List ARat)(c:ACofactors){A B C:Prop}(_:A)(_:B)(_:C):Contract prg 9 [polyPV p,polyPV q,c.pv] (vB true):=by
 obtain⟨b1,h1,g1⟩:=valid [p,q] (by simp)
 cases b1 with
 |false=>exact linkworklaw08_ResultantCertifies.e0 p q c _ _ h1 rfl awake
 |true =>
  obtain⟨b2,h2,g2⟩:=short [c.u,c.v,c.g] (by simp)
  cases b2 with
  |false=>exact linkworklaw08_ResultantCertifies.e1 p q c _ _ _ h1 rfl h2 rfl awake
  |true =>
   obtain⟨s,hp⟩:=g1 rfl p (by simp)
   obtain⟨t,hq⟩:=g1 rfl q (by simp)
   have ku:=g2 rfl c.u (by simp)
   have kv:=g2 rfl c.v (by simp)
   have kg:=g2 rfl c.g (by simp)
   have cu:=CRe.Check c.u (ku.fit (by omega))
   have cv:=CRe.Check c.v (kv.fit (by omega))
   have cg:=CRe.Check c.g (kg.fit (by omega))
   by_cases e1:chk c.u=0
   ·by_cases e2:chk c.v=0
    ·by_cases e3:chk c.g=0
     ·have su:=ku.s8 e1
      have sv:=kv.s8 e2
      have sg:=kg.s8 e3
      have bz:=s.bz t
      have q0:=t.ne hq
      have R:=bz.res q0
      have a1:=CRsP.BezoutQ bz q0
      have a2:=CRsP.AcceptsQ (ac_own bz q0)
      rw[acc_own bz q0] at a2
      have AC:=S8.ac s t su sv sg
      have a3:=CRsP.AcceptsQ AC
      rw[s.pv,t.pv] at a1 a2
      rw[s.pv,t.pv,su.pv,sv.pv,sg.pv] at a3
      cases ha:accB (vals p) (vals q) (vals c.u) (vals c.v) (vals c.g) with
      |false =>
       rw[ha] at a3
       exact linkworklaw08_ResultantCertifies.e6 p q c _ _ _ _ _ _ _ _ _ _ _ h1 rfl h2 rfl cu e1 cv e2 cg e3 awake rfl a1 a2 a3 rfl rfl
      |true =>
       rw[ha] at a3
       have hg:=acc_gcd AC q0 ha
       have hs:=same (gcdL (vals p) (vals q)) (by have:=R.lg;omega) (fl_mono (R.cg.fl (by omega)) (by omega))
       have:=linkworklaw08_ResultantCertifies.e7 p q c _ _ _ _ _ _ _ _ _ _ _ true h1 rfl h2 rfl cu e1 cv e2 cg e3 awake rfl a1 a2 a3 rfl rfl (by
        rw[←sg.pv,hg];exact hs)
       exact this
     ·exact linkworklaw08_ResultantCertifies.e4 p q c _ _ _ _ _ _ h1 rfl h2 rfl cu e1 cv e2 cg e3 awake
    ·exact linkworklaw08_ResultantCertifies.e3 p q c _ _ _ _ _ h1 rfl h2 rfl cu e1 cv e2 awake
   ·exact linkworklaw08_ResultantCertifies.e2 p q c _ _ _ _ h1 rfl h2 rfl cu e1 awake
end C08
end Go.Proofs.YtboilcfohmmpbaaGreatDoor.Sym
namespace Go.Proofs.YtboilcfohmmpbaaGreatDoor.Sym
open Go Go.RowKit Go.ChangeShapes Go.WideShapes Go.ChangeAt
set_option linter.unusedVariables false
namespace RowResultantCertifies
theorem own:ownKnob Tryz.prog.godebug=none:=by kernel_rfl
theorem laid:laidOutB prg=true:=by kernel_rfl
theorem okArg{P:Program}{W:World}{base:Nat}{ps:Array TypeId}{args:Array Value}(hval:∀(j:Nat) t v,ps[j]? = some t→args[j]? = some v→Value.okWide P W .any base t v)(j:Nat){t:TypeId}{v:Value}(h1:ps[j]? = some t)(h2:args[j]? = some v):Value.okWide P W .any base t v:=hval j t v h1 h2
set_option maxRecDepth 100000 in
theorem contract(H:Type)(enc:TypeId×Value→H)(W:World)(base:Nat)(args:Array Value)(ds gs:List (DataW H))(before:List MemPlace)
  (hval:∀(j:Nat) t v,Tryz.f9.params[j]? = some t→args[j]? = some v→Value.okWide Tryz.prog W .any base t v)
  (hW:DataW.Whole enc Tryz.prog Tryz.f9.params.toList Rows.resultantCertifiesSpec.vars false W args.toList ds gs before)
  (hz:(DataW.weightsEach Tryz.prog (Tryz.f9.params.toList++Rows.resultantCertifiesSpec.plain.varTypes Tryz.prog) (ds++gs)).all (·≤reachBytes)=true) :
  Calls Tryz.prog 9 args W fun e W'=>∃v,e = .returned v∧Rows.resultantCertifiesSpec.post enc Tryz.prog Tryz.f9 false true false false W args v W':=by
 have hW':=hW
 obtain⟨p,q,hA,hV,rfl,hfz,hnd⟩:=hW
 have hp:Tryz.f9.params = #[23,23,64]:=by kernel_rfl
 rw[hp] at hA hval hz
 obtain⟨v0,vs0,d0,ds0,p0,q0,hargs,rfl,rfl,h0,r0⟩:=trodAll_cons hA
 obtain⟨v1,vs1,d1,ds1,p1,q1,rfl,rfl,rfl,h1,r1⟩:=trodAll_cons r0
 obtain⟨v2,vs2,d2,ds2,p2,q2,rfl,rfl,rfl,h2,r2⟩:=trodAll_cons r1
 obtain⟨rfl,rfl,rfl⟩:=trodAll_nil r2
 obtain rfl:args = #[v0,v1,v2]:=by cases args;simp_all
 obtain⟨rfl,rfl⟩:=trodVars_none hV
 obtain⟨n0,hn0⟩:=h0
 have hw0:∀k∈d0.weights prg 23,k≤reachBytes:=by
  intro k hk
  have:=List.all_eq_true.1 hz k (DataW.weights_mem_each (j:=0) rfl rfl k hk)
  simpa using this
 obtain⟨x0,hx0,b0⟩:=opens_poly enc W 0 (fun _=>true) true n0 _ _ hn0 hw0
 obtain⟨ra0,rl0,rc0,rfl⟩:=okWide_slice (show Tryz.prog.underlying 23=some (.slice 33) by kernel_rfl) (okArg hval 0 (t:=23) (v:=v0) (by simp) (by simp))
 have hrd0:Rd (Old W) W (polyPV x0) (.slice ra0 rl0 rc0):=(hx0.2 0 _ _ rfl rfl).2
 obtain⟨n1,hn1⟩:=h1
 have hw1:∀k∈d1.weights prg 23,k≤reachBytes:=by
  intro k hk
  have:=List.all_eq_true.1 hz k (DataW.weights_mem_each (j:=1) rfl rfl k hk)
  simpa using this
 obtain⟨x1,hx1,b1⟩:=opens_poly enc W 0 (fun _=>true) true n1 _ _ hn1 hw1
 obtain⟨ra1,rl1,rc1,rfl⟩:=okWide_slice (show Tryz.prog.underlying 23=some (.slice 33) by kernel_rfl) (okArg hval 1 (t:=23) (v:=v1) (by simp) (by simp))
 have hrd1:Rd (Old W) W (polyPV x1) (.slice ra1 rl1 rc1):=(hx1.2 0 _ _ rfl rfl).2
 obtain⟨n2,hn2⟩:=h2
 have hw2:∀k∈d2.weights prg 64,k≤reachBytes:=by
  intro k hk
  have:=List.all_eq_true.1 hz k (DataW.weights_mem_each (j:=2) rfl rfl k hk)
  simpa using this
 obtain⟨x2,hx2,b2⟩:=opens_ACofactors enc W 0 (fun _=>true) true n2 _ _ hn2 hw2
 obtain⟨fs2,hu2,_⟩:=flds_spec (show fldsOf (prg.underlying 64)=some [(23,0),(23,1),(23,2)] by kernel_rfl)
 have hv2:Value.okWide Tryz.prog W .any base 64 v2:=okArg hval 2 (by simp) (by simp)
 have hrd2:Rd (Old W) W x2.pv v2:=rd_struct (P:=Tryz.prog) (cs:=x2.cells) hu2 hv2 hx2
 have hc:=C08.ResultantCertifies x0 x1 x2 b0 b1 b2
 refine(hc.2 (Old W) W (fun _=>none) #[.slice ra0 rl0 rc0,.slice ra1 rl1 rc1,v2] (fun b hb=>hb) (stoOk_nil _ _ _) rfl ?_).mono ?_
 ·intro j e v he hv
  cases j with
  |zero=>simp at he hv;subst he hv;exact hrd0
  |succ j =>
   cases j with
   |zero=>simp at he hv;subst he hv;exact hrd1
   |succ j =>
    cases j with
    |zero=>simp at he hv;subst he hv;exact hrd2
    |succ j=>simp at he
 ·intro e W' ⟨v,β',he,_,hk,_,hv,_⟩
  subst he
  have hv:Rd _ W' (vB true) v:=hv
  cases hv
  have hk':Keeps (fun _=>False) W W':=⟨hk.os,hk.tape,hk.output,hk.size,fun k h1 _=>hk.block k h1 (fun ⟨y,hy,_⟩=>absurd hy dom_nil),hk.shape,hk.drawn⟩
  refine⟨_,rfl,post_true (tb:=4) hW' hk' rfl (by kernel_rfl) (by kernel_rfl) rfl rfl rfl laid ?_⟩
  rw[hp]
  intro t ht
  have:t=23∨t=23∨t=64:=by simpa using ht
  rcases this with rfl|rfl|rfl
  all_goals exact⟨by kernel_rfl,of_decide_eq_true (by kernel_rfl)⟩
def tabCells:DataW Unit→Array Value
 |.agg l=>(l.map fun d=>match d with
  |.lit (.int k n)=>Value.int k n
  |_=>Value.nilIface).toArray
 |_ => #[]
def setTab(b:Nat)(d:DataW Unit)(h:Array Obj):Array Obj:=h.modify b fun
 |.cells _ t fr => .cells (tabCells d) t fr
 |o=>o
noncomputable def laidWorld(os:Os):World :=
 { World.holding Tryz.prog os ⟨#[],#[],[]⟩ with heap:=setTab 0 Rows.laid_internal_strconv_uint64pow10 (setTab 2 Rows.laid_math_bits_deBruijn32tab (setTab 3 Rows.laid_math_bits_deBruijn64tab (World.holding Tryz.prog os ⟨#[],#[],[]⟩).heap)) }
theorem laid_met(os:Os):laidMet Tryz.prog Rows.resultantCertifiesRow.laid ((laidWorld os).forCall (fun _ _=>0) ⟨#[],#[.slice none 0 0,.slice none 0 0,.agg #[.slice none 0 0,.slice none 0 0,.slice none 0 0]],[]⟩).memory :=
 laidMet_of_run' 8 (by kernel_rfl) (by kernel_rfl)
theorem reads(os:Os){H:Type}(enc:TypeId×Value→H):(DataW.whole enc Tryz.prog ((laidWorld os).forCall (fun _ _=>0) ⟨#[],#[.slice none 0 0,.slice none 0 0,.agg #[.slice none 0 0,.slice none 0 0,.slice none 0 0]],[]⟩).memory Tryz.f9.params.toList Rows.resultantCertifiesSpec.vars false (#[.slice none 0 0,.slice none 0 0,.agg #[.slice none 0 0,.slice none 0 0,.slice none 0 0]]:Array Value).toList 8).isSome=true:=by kernel_rfl
set_option maxRecDepth 100000 in
theorem lifted(os:Os)(started:os.Started)(H:Type)(enc:TypeId×Value→H)(F:Stop.Interp) :
  ReturnsInHanded {} Tryz.checked os 9 .any ((OpenSpec.ofChange Rows.resultantCertifiesSpec).preRow enc Tryz.prog Tryz.f9 Rows.resultantCertifiesRow.domain false Rows.resultantCertifiesRow.laid) (((OpenSpec.ofChange Rows.resultantCertifiesSpec).at F).post enc Tryz.prog Tryz.f9 false true false false):=by
 obtain⟨x,hx⟩:=Option.isSome_iff_exists.1 (reads os enc)
 refine returnsInHanded_of_row (C:=Tryz.checked) (s:=OpenSpec.ofChange Rows.resultantCertifiesSpec) own started (by kernel_rfl) Tryz.func9
  (witness_row_at (enc:=enc) (C:=Tryz.checked) false (laidWorld os) #[.slice none 0 0,.slice none 0 0,.agg #[.slice none 0 0,.slice none 0 0,.slice none 0 0]] rfl (by kernel_rfl) (by kernel_rfl) (by kernel_rfl)
   (OpenSpec.preRow_of_cond 8 hx (by kernel_rfl) (fun k hk=>by cases hk) (by kernel_rfl) (laid_met os))) ?_
 intro W base args ds gs before hval hW _ _ hz hL _ _
 exact contract H enc W base args ds gs before hval hW hz
theorem j1:(Rows.resultantCertifiesRow.inPlace==Tryz.prog.inPlace 9)=true:=by kernel_rfl
theorem j2:(Rows.resultantCertifiesRow.unfollowed==Tryz.prog.unfollowed 9)=true:=by kernel_rfl
theorem j3:(Rows.resultantCertifiesRow.recurses==Tryz.prog.recurses 9)=true:=by kernel_rfl
theorem j4:(Rows.resultantCertifiesRow.named==Tryz.prog.varsNamed 9)=true:=by kernel_rfl
theorem closed:joinedFacts Tryz.prog 9 Tryz.f9 Rows.resultantCertifiesSpec Rows.resultantCertifiesRow=true:=by
 unfold joinedFacts
 rw[j1,j2,j3,j4]
 kernel_rfl
set_option maxRecDepth 100000 in
theorem said:Rows.ResultantCertifiesSaid :=
 OpenClaim.holds_of_cond 9 Tryz.f9 rfl rfl rfl rfl rfl rfl rfl ⟨rfl,rfl,rfl,rfl,rfl⟩ rfl rfl rfl rfl rfl (by kernel_rfl) Tryz.func9 closed
  (of_decide_eq_true (by kernel_rfl)) (by unfold Func.isWrapper;first|(rw [if_pos (by decide +kernel)];kernel_rfl)|(rw [if_neg (by decide +kernel)];exact⟨rfl,rfl⟩))
  (fun os started H enc _ F=>by rw[OpenClaim.pre_eq_preRow];exact lifted os started H enc F)
theorem plainL(f:FuncId)(fn:Func)(hf:Tryz.pinned.checked.prog.funcNamed Rows.resultantCertifiesRow.func=some f)(hfn:Tryz.pinned.checked.prog.funcs[f]? = some fn) :
  true=Tryz.pinned.checked.prog.looks []∧∀(j:Nat) t,fn.params[j]? = some t→Tryz.pinned.checked.prog.wantsStandIn t=false:=by
 obtain rfl:f=9:=Option.some.inj ((show Tryz.prog.funcNamed Rows.resultantCertifiesRow.func=some 9 by kernel_rfl).symm.trans hf) |>.symm
 obtain rfl:fn=Tryz.f9:=(Option.some.inj (Tryz.func9.symm.trans hfn)).symm
 refine⟨by kernel_rfl,fun j t ht => ?_⟩
 have hp:Tryz.f9.params = #[23,23,64]:=by kernel_rfl
 rw[hp] at ht
 have:t=23∨t=23∨t=64:=by simpa using Array.mem_of_getElem? ht
 rcases this with rfl|rfl|rfl
 all_goals exact(show Tryz.prog.wantsStandIn _=false by kernel_rfl)
theorem proved:Rows.ResultantCertifiesCardSaid :=
 Claim7.holds_tied_plain_at .later [] _ _ _ _ said (fun _ h=>by cases h) (by kernel_rfl) (fun _ h=>by cases h) resultantCertifies_row_tie rfl ⟨rfl,rfl⟩ (by kernel_rfl) rfl plainL (by kernel_rfl)
end RowResultantCertifies
end Go.Proofs.YtboilcfohmmpbaaGreatDoor.Sym
