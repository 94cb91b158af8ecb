/- The statement LawSmooths is proved: smoothness of lesser numbers, of the derivative and of the moved law; no condition. -/
import Derived.Test.YtegpfcmnjhmhjaaGreatM2
import Derived.Test.YtegpfcmnjhmhjaaGreatM0
import Derived.Test.YtegpfcmnjhmhjaaGreatRows
import Derived.JoinedCond
namespace Go.Proofs.YtegpfcmnjhmhjaaGreat.Sym
open Go Path CInt
set_option linter.unusedVariables false
abbrev pq(q:List Rat):PV:=polyPV (q.map mkR)
theorem getM{q:List Rat}{n:Nat}{v:Rat}(h:q[n]? = some v):(q.map mkR)[n]? = some (mkR v):=by rw[List.getElem?_map,h];rfl
theorem lenM(q:List Rat):(q.map mkR).length=q.length:=List.length_map ..
theorem fitQ{k:Nat}{q:List Rat}(h:Fl k q)(hk:k≤68719476736):FitP 274877906944 (q.map mkR):=fit_map (fl_mono h (by omega))
def chk2(p q:List ARat):Int:=if chk p=0 then chk q else chk p
theorem tab_step{m t:Nat}{f g:Nat→Rat}{v:Rat}(ht:t<m)(hv:f t=v)(ho:∀i,i≠t→f i=g i):((tabL m g).map mkR).set t (mkR v)=(tabL m f).map mkR:=by
 rw[←List.map_set,tabL_set g v ht]
 congr 1
 refine tabL_congr (fun i _ => ?_)
 split
 ·rename_i e;rw[e,hv]
 ·rename_i e;exact(ho i e).symm
theorem ht_mul_take{a b n:Nat}{p q:List Rat}(hp:Fl a p)(hq:Fl b q)(ha:1≤a)(hb:1≤b)(hn:p.length≤n∨q.length≤n)(t i:Nat):ht (coef (mulL (p.take t) q) i)≤n*(a+b+1)+1:=by
 have hpt:∀i,ht (coef (p.take t) i)≤a:=fl_coef (fun x hx=>hp x (List.mem_of_mem_take hx)) ha
 rcases hn with h|h
 ·have h1:=ht_mul_coef (p.take t) q i hpt (fl_coef hq hb)
  have h2:(p.take t).length*(a+b+1)≤n*(a+b+1):=Nat.mul_le_mul_right _ (by rw[List.length_take];omega)
  omega
 ·rw[coef_mul_comm]
  have h1:=ht_mul_coef q (p.take t) i (fl_coef hq hb) hpt
  have h2:q.length*(b+a+1)≤n*(b+a+1):=Nat.mul_le_mul_right _ h
  rw[Nat.add_comm b a] at h1 h2
  omega
theorem fl_mul_min{a b n:Nat}{p q:List Rat}(hp:Fl a p)(hq:Fl b q)(ha:1≤a)(hb:1≤b)(hn:p.length≤n∨q.length≤n):Fl (n*(a+b+1)+1) (mulL p q):=by
 refine fl_of_coef (fun i => ?_)
 have:=ht_mul_take hp hq ha hb hn p.length i
 rwa[List.take_of_length_le (Nat.le_refl _)] at this
theorem trimL_congr_add{p p' q q':List Rat}(h1:trimL p=trimL p')(h2:trimL q=trimL q'):trimL (addL p q)=trimL (addL p' q') :=
 trimL_ext (fun i=>by rw[coef_addL,coef_addL,←coef_trimL p,←coef_trimL q,h1,h2,coef_trimL,coef_trimL])
theorem trimL_congr_mul{p p' q q':List Rat}(h1:trimL p=trimL p')(h2:trimL q=trimL q'):trimL (mulL p q)=trimL (mulL p' q') :=
 eval_ext (fun x=>by rw[evalL_mulL,evalL_mulL,←evalL_trimL x p,←evalL_trimL x q,h1,h2,evalL_trimL,evalL_trimL])
def cB(n a b:Nat):Nat→Nat
 |0=>1
 |j+1=>n*(cB n a b j+b+1)+1+a+1
theorem cB_pos(n a b j:Nat):1≤cB n a b j:=by cases j<;>simp[cB]<;>omega
theorem cB_mono(n a b:Nat)(hn:1≤n)(j:Nat):cB n a b j≤cB n a b (j+1):=by
 rw[cB]
 have:1*(cB n a b j+b+1)≤n*(cB n a b j+b+1):=Nat.mul_le_mul_right _ hn
 omega
theorem cB_le(n a b:Nat)(hn:1≤n):∀(d j:Nat),cB n a b j≤cB n a b (j+d)
 |0,j=>Nat.le_refl _
 |d+1,j=>Nat.le_trans (cB_le n a b hn d j) (cB_mono n a b hn (j+d))
theorem fl_compL{n a b:Nat}{q:List Rat}(hq:Fl b q)(hb:1≤b)(ha:1≤a)(hn:q.length≤n):∀p:List Rat,Fl a p→Fl (cB n a b p.length) (compL p q)
 |[],_=>fun x hx=>by cases hx
 |c::r,hp=>by
  have ih:=fl_compL hq hb ha hn r (fun x hx=>hp x (List.mem_cons_of_mem _ hx))
  have h1:=fl_mul_min ih hq (cB_pos n a b r.length) hb (Or.inr hn)
  have h2:Fl a [c]:=fun x hx=>by rw[List.mem_singleton.1 hx];exact hp c (List.mem_cons_self ..)
  rw[compL,List.length_cons,cB]
  exact fl_mono (fl_addL h1 h2 (by omega) ha) (by omega)
namespace CPl
theorem Trim{k:Nat}(q:List Rat)(hl:q.length≤1000000)(hf:Fl k q)(hk:k≤68719476736):Contract prg 36 [pq q] (pq (trimL q)):=by
 have:=CPo.Trim (q.map mkR) (by rw[lenM];omega) (fitQ hf hk)
 rwa[vals_mkR] at this
theorem coefficient(p:List Rat)(t:Nat):Contract prg 124 [pq p,vI (t:Int)] (mkR (coef p t)).pv:=by
 by_cases h:t<p.length
 ·exact poly_coefficient.e0 _ _ t _ (by rw[lenM];omega) rfl (getM (coef_get h))
 ·rw[coef_ge (by omega)]
  exact poly_coefficient.e1 _ _ (by rw[lenM];omega)
theorem plus{a b d:Nat}(p q:List Rat)(c:Rat)(hlp:p.length≤100000)(hlq:q.length≤100000)(hp:Fl a p)(hq:Fl b q)(hc:ht c≤d)(ha:1≤a)(hb:1≤b)(hk:a+b+d+1≤68719476736):Contract prg 83 [pq p,pq q,(mkR c).pv] (pq (trimL (addL p (smulL c q)))):=by
 have hcoef:∀i,ht (coef p i)≤a∧ht (coef q i)≤b:=fun i=>⟨fl_coef hp ha i,fl_coef hq hb i⟩
 have hmax:max (p.map mkR).length (q.map mkR).length=max p.length q.length:=by rw[lenM,lenM]
 have loop:∀(j t:Nat),max p.length q.length-t=j→poly_plus.Loop1 (p.map mkR) (q.map mkR) t (mkR c) ((tabL (max p.length q.length) (fun i=>if i<t then coef p i+c*coef q i else 0)).map mkR) (pq (trimL (addL p (smulL c q)))):=by
  intro j
  induction j with
  |zero =>
   intro t hj
   have e:trimL (addL p (smulL c q))=trimL (tabL (max p.length q.length) (fun i=>if i<t then coef p i+c*coef q i else 0)):=by
    refine trimL_ext (fun i => ?_)
    rw[coef_addL,coef_smulL]
    by_cases hi:i<max p.length q.length
    ·rw[coef_of (tabL_get _ hi),if_pos (by omega)]
    ·rw[coef_ge (p:=tabL _ _) (by rw[tabL_len];omega),coef_ge (p:=p) (by omega),coef_ge (p:=q) (by omega)];grind
   rw[e]
   refine poly_plus.l11 _ _ t _ _ _ (by omega) (by rw[hmax,lenM,tabL_len]) (Trim (k:=a+b+d+1) _ (by rw[tabL_len];omega) (fl_of_coef (fun i => ?_)) hk)
   obtain⟨c1,c2⟩:=hcoef i
   have h1:=ht_mul c (coef q i)
   have h2:=ht_add (coef p i) (c*coef q i)
   have h0:=ht_zero
   by_cases hi:i<max p.length q.length
   ·rw[coef_of (tabL_get _ hi),if_pos (by omega)];omega
   ·rw[coef_ge (p:=tabL _ _) (by rw[tabL_len];omega),h0];omega
  |succ j ih =>
   intro t hj
   obtain⟨c1,c2⟩:=hcoef t
   have h1:=ht_mul c (coef q t)
   refine poly_plus.l10 _ _ t _ _ _ _ _ _ (by omega) (coefficient p t) (coefficient q t) (QF.Mul c (coef q t) (by omega) (by omega)) (QF.Add (coef p t) (c*coef q t) (by omega) (by omega)) (by rw[lenM,tabL_len];omega) (by omega) ?_
   rw[tab_step (f:=fun i=>if i<t+1 then coef p i+c*coef q i else 0) (by omega) (if_pos (by omega)) (fun i hi=>by
    by_cases h:i<t
    ·rw[if_pos h,if_pos (by omega)]
    ·rw[if_neg h,if_neg (by omega)])]
   exact ih (t+1) (by omega)
 have:=loop _ 0 rfl
 refine poly_plus.e0 _ _ _ (by omega) ?_
 rw[hmax,tabL_zero]
 exact this
theorem times{a b:Nat}(n:Nat)(p q:List Rat)(hlp:p.length≤100000)(hlq:q.length≤100000)(hp:Fl a p)(hq:Fl b q)(ha:1≤a)(hb:1≤b)(hn:p.length≤n∨q.length≤n)(hk:(n+1)*(a+b+1)+1≤68719476736):Contract prg 84 [pq p,pq q] (pq (trimL (mulL p q))):=by
 rw[Nat.add_mul] at hk
 by_cases h0:p.length=0
 ·rw[List.eq_nil_of_length_eq_zero h0]
  exact poly_times.e0 _ _ rfl
 by_cases h1:q.length=0
 ·have e:trimL (mulL p q)=trimL []:=eval_ext (fun x=>by rw[evalL_mulL,List.eq_nil_of_length_eq_zero h1];show _*(0:Rat)=0;rw[Rat.mul_zero])
  rw[e]
  exact poly_times.e1 _ _ (by rw[lenM];exact h0) (by rw[lenM];exact h1)
 have hm:∀i,p.length+q.length-1≤i→∀t,coef (mulL (p.take t) q) i=0:=by
  intro i hi t
  have key:∀(p:List Rat) (i:Nat),p.length+q.length-1≤i→coef (mulL p q) i=0:=by
   intro p
   induction p with
   |nil=>intro i _;rfl
   |cons c p ih =>
    intro i hi
    rw[List.length_cons] at hi
    rw[coef_mul_cons,coef_ge (p:=q) (by omega)]
    cases i with
    |zero=>rw[coef_zero];grind
    |succ i =>
     rw[coef_succ]
     cases p with
     |nil=>rw[mulL,coef_nil];grind
     |cons d p=>rw[ih i (by omega)];grind
  exact key _ i (by rw[List.length_take];omega)
 have bG:=ht_mul_take hp hq ha hb hn
 have outer:∀(j t:Nat),p.length-t=j→t≤p.length→poly_times.Loop1 (q.map mkR) (p.length+q.length-1) (p.map mkR) t ((tabL (p.length+q.length-1) (coef (mulL (p.take t) q))).map mkR) (pq (trimL (mulL p q))):=by
  intro j
  induction j with
  |zero =>
   intro t hj ht
   have e:trimL (mulL p q)=trimL (tabL (p.length+q.length-1) (coef (mulL (p.take t) q))):=by
    refine trimL_ext (fun i => ?_)
    rw[tabL_coef (fun i hi=>hm i hi t),List.take_of_length_le (by omega)]
   rw[e]
   refine poly_times.l11 _ _ _ t _ _ (by rw[lenM];omega) (by rw[lenM,tabL_len]) (Trim (k:=n*(a+b+1)+1) _ (by rw[tabL_len];omega) (fl_of_coef (fun i => ?_)) (by omega))
   rw[tabL_coef (fun i hi=>hm i hi t)]
   exact bG t i
  |succ j ih =>
   intro t hj ht
   obtain⟨v,hv⟩:∃v,p[t]? = some v:=⟨_,List.getElem?_eq_getElem (by omega)⟩
   have hvh:=hp v (List.mem_of_getElem? hv)
   refine poly_times.l10 _ _ _ t _ (mkR v) (by rw[lenM];omega) (getM hv) ?_
   have inner:∀(k u:Nat),q.length-u=k→u≤q.length→poly_times.Loop2 (q.map mkR) (p.length+q.length-1) t (p.map mkR) t u (mkR v) ((tabL (p.length+q.length-1) (fun i=>coef (mulL (p.take t) q) i+if t≤i∧i<t+u then v*coef q (i-t) else 0)).map mkR) (pq (trimL (mulL p q))):=by
    intro k
    induction k with
    |zero =>
     intro u hk2 hu
     refine poly_times.l21 _ _ t _ t u _ _ (by rw[lenM];omega) (by omega) ?_
     have:=ih (t+1) (by omega) (by omega)
     rwa[tabL_congr (f:=coef (mulL (p.take (t+1)) q)) (g:=fun i=>coef (mulL (p.take t) q) i+if t≤i∧i<t+u then v*coef q (i-t) else 0) (fun i hi=>by
      rw[coef_mul_snoc hv,coef_shiftL,coef_smulL]
      congr 1
      by_cases h1:i<t
      ·rw[if_pos h1,if_neg (by omega)]
      ·rw[if_neg h1]
       by_cases h2:i<t+u
       ·rw[if_pos (by omega)]
       ·rw[if_neg (by omega),coef_ge (p:=q) (by omega),Rat.mul_zero])] at this
    |succ k ih2 =>
     intro u hk2 hu
     obtain⟨w,hw⟩:∃w,q[u]? = some w:=⟨_,List.getElem?_eq_getElem (by omega)⟩
     have hwh:=hq w (List.mem_of_getElem? hw)
     have hg:t+u<p.length+q.length-1:=by omega
     have b1:=bG t (t+u)
     have b2:=ht_mul v w
     refine poly_times.l20 _ _ t _ t u _ _ (mkR w) (mkR (coef (mulL (p.take t) q) (t+u))) _ _ (by rw[lenM];omega) (getM hw) (by omega) hg ?_ (QF.Mul v w (by omega) (by omega)) (QF.Add (coef (mulL (p.take t) q) (t+u)) (v*w) (by omega) (by omega)) (by rw[lenM,tabL_len];omega) (by omega) ?_
     ·rw[getM (tabL_get _ hg),if_neg (by omega),Rat.add_zero]
     ·rw[tab_step (f:=fun i=>coef (mulL (p.take t) q) i+if t≤i∧i<t+(u+1) then v*coef q (i-t) else 0) hg (by
       rw[if_pos (by omega),show t+u-t=u from by omega,coef_of hw]) (fun i hi=>by
       congr 1
       by_cases h:t≤i∧i<t+u
       ·rw[if_pos h,if_pos (by omega)]
       ·rw[if_neg h,if_neg (by omega)])]
      exact ih2 (u+1) (by omega) (by omega)
   have:=inner _ 0 rfl (by omega)
   rwa[tabL_congr (g:=coef (mulL (p.take t) q)) (fun i hi=>by rw[if_neg (by omega),Rat.add_zero])] at this
 have:=outer _ 0 rfl (by omega)
 refine poly_times.e2 _ _ (p.length+q.length-1) (by rw[lenM];exact h0) (by rw[lenM];exact h1) (by rw[lenM,lenM];omega) (by rw[lenM,lenM];unfold InI64;omega) (by rw[lenM,lenM];omega) (by omega) ?_
 rw[tabL_zero]
 exact this
theorem checks2(p q:List ARat)(hp:FitP 274877906944 p)(hq:FitP 274877906944 q):Contract prg 82 [lpv (lcell ARat.cells) [p,q]] (errPV (errOf (chk2 p q))):=by
 have h1:=CPo.Check p hp
 have h2:=CPo.Check q hq
 refine poly_checks.e0 [p,q] ?_
 unfold chk2
 by_cases e:chk p=0
 ·rw[if_pos e]
  rw[e] at h1
  refine poly_checks.l10 _ 0 p (by simp) rfl h1 (by omega) ?_
  by_cases e2:chk q=0
  ·rw[e2] at h2 ⊢
   exact poly_checks.l10 _ 1 q (by simp) rfl h2 (by omega) (poly_checks.l12 _ 2 (by simp))
  ·rw[errOf_ne e2] at h2 ⊢
   exact poly_checks.l11 _ 1 q _ (by simp) rfl h2
 ·rw[if_neg e]
  rw[errOf_ne e] at h1 ⊢
  exact poly_checks.l11 _ 0 p _ (by simp) rfl h1
theorem Compose{a b:Nat}(n:Nat)(p q:List Rat)(hc:chk2 (p.map mkR) (q.map mkR)=0)(hd:¬(1<p.length∧1<q.length∧64<(p.length-1)*(q.length-1)))(hp:Fl a p)(hq:Fl b q)(ha:1≤a)(hb:1≤b)(hn:q.length≤n)(hn1:1≤n)(hk:(n+1)*(cB n a b p.length+b+1)+a+3≤68719476736):Contract prg 38 [pq p,pq q] (.tup [pq (trimL (compL p q)),.nilI]):=by
 have hk':n*(cB n a b p.length+b+1)+(cB n a b p.length+b+1)+a+3≤68719476736:=by rw[Nat.add_mul] at hk;omega
 have hmn:1*(cB n a b p.length+b+1)≤n*(cB n a b p.length+b+1):=Nat.mul_le_mul_right _ hn1
 have hcl:chk (p.map mkR)=0∧chk (q.map mkR)=0:=by
  unfold chk2 at hc
  split at hc
  ·rename_i h;exact⟨h,hc⟩
  ·rename_i h;exact absurd hc h
 have hp65:=chk_len hcl.1
 have hq65:=chk_len hcl.2
 rw[lenM] at hp65 hq65
 have hck:=checks2 (p.map mkR) (q.map mkR) (fitQ hp (by have:=cB_pos n a b p.length;omega)) (fitQ hq (by omega))
 rw[hc] at hck
 have loop:∀(m:Nat) (out:List Rat),m≤p.length→out=trimL (compL (p.drop m) q)→poly_Compose.Loop1 (p.map mkR) (q.map mkR) (out.map mkR) ((m:Int)-1) (.tup [pq (trimL (compL p q)),.nilI]):=by
  intro m
  induction m with
  |zero =>
   intro out _ ho
   rw[List.drop_zero] at ho
   rw[←ho]
   exact poly_Compose.l11 _ _ _ _ (by omega)
  |succ m ih =>
   intro out hm ho
   obtain⟨v,hv⟩:∃v,p[m]? = some v:=⟨_,List.getElem?_eq_getElem (by omega)⟩
   have hvh:=hp v (List.mem_of_getElem? hv)
   have hlen:∀r:List Rat,(compL r q).length≤r.length*(q.length+1):=by
    intro r
    induction r with
    |nil=>simp[compL]
    |cons c r ih =>
     have:=len_mulL (compL r q) q
     rw[compL,len_addL]
     simp only[List.length_cons,List.length_nil]
     rw[Nat.add_mul]
     omega
   have hl1:=hlen (p.drop (m+1))
   have hl2:(p.drop (m+1)).length*(q.length+1)≤65*66:=Nat.mul_le_mul (by rw[List.length_drop];omega) (by omega)
   have hlo:out.length≤4290:=by rw[ho];have:=len_trimL (compL (p.drop (m+1)) q);omega
   have hfo:Fl (cB n a b (p.drop (m+1)).length) out:=by
    rw[ho]
    exact fl_trimL (fl_compL hq hb ha hn _ (fun x hx=>hp x (List.mem_of_mem_drop hx)))
   have hmono:=cB_le n a b hn1 (p.length-(p.drop (m+1)).length) (p.drop (m+1)).length
   rw[show (p.drop (m+1)).length+(p.length-(p.drop (m+1)).length)=p.length from by rw[List.length_drop];omega] at hmono
   have hfo':=fl_mono hfo hmono
   have htm:=times n out q (by omega) (by omega) hfo' hq (cB_pos ..) hb (Or.inr hn) (by omega)
   have hft:=fl_trimL (fl_mul_min hfo' hq (cB_pos ..) hb (Or.inr hn))
   have hsl:((p.map mkR).take (m+1)).drop m=[v].map mkR:=by
    rw[←List.map_take,←List.map_drop,List.take_add_one,hv,List.drop_append_of_le_length (by rw[List.length_take];omega),List.drop_of_length_le (by rw[List.length_take];omega)]
    rfl
   have htr:=Trim (k:=a) [v] (by simp) (fun x hx=>by rw[List.mem_singleton.1 hx];exact hvh) (by omega)
   have hone:=CFr.Of 1 (by unfold InI64;omega)
   have hl3:=len_mulL out q
   have hl4:=len_trimL (mulL out q)
   have hl5:=len_trimL [v]
   have hpl:=plus (d:=1) (trimL (mulL out q)) (trimL [v]) ((1:Int):Rat) (by omega) (by simp at hl5;omega) hft (fl_trimL (k:=a) (fun x hx=>by rw[List.mem_singleton.1 hx];exact hvh)) (by decide) (by omega) ha (by omega)
   have e:trimL (addL (trimL (mulL out q)) (smulL ((1:Int):Rat) (trimL [v])))=trimL (compL (p.drop m) q):=by
    rw[drop_cons hv,compL]
    refine trimL_congr_add ?_ ?_
    ·rw[trimL_idem,ho];exact trimL_congr_mul (trimL_idem _) rfl
    ·refine trimL_ext (fun i => ?_)
     rw[coef_smulL,coef_trimL,show((1:Int):Rat)=1 from rfl,Rat.one_mul]
   rw[e] at hpl
   have htr:Contract prg 36 [polyPV (((p.map mkR).take (m+1)).drop m)] (pq (trimL [v])):=by rw[hsl];exact htr
   refine poly_Compose.l10 _ _ _ _ _ m (m+1) _ _ _ (by omega) htm (by unfold InI64;omega) (by omega) (by omega) (by rw[lenM];omega) (by omega) htr hone hpl (by unfold InI64;omega) ?_
   have:=ih _ (by omega) rfl
   rwa[show ((m+1:Nat):Int)-1-1=(m:Int)-1 from by omega]
 have:=loop p.length [] (Nat.le_refl _) (by rw[List.drop_of_length_le (Nat.le_refl _)];rfl)
 have hpl:((p.map mkR).length:Int)-1=(p.length:Int)-1:=by rw[lenM]
 by_cases h1:1<p.length
 ·by_cases h2:1<q.length
  ·have d1:=poly_Degree.e0 (p.map mkR) (by rw[lenM];unfold InI64;omega)
   have d2:=poly_Degree.e0 (q.map mkR) (by rw[lenM];unfold InI64;omega)
   have hle:(p.length-1)*(q.length-1)≤64:=by
    refine Nat.le_of_not_lt fun h=>hd ⟨h1,h2,h⟩
   have hcast:(((p.map mkR).length:Int)-1)*(((q.map mkR).length:Int)-1)=(((p.length-1)*(q.length-1):Nat):Int):=by
    rw[lenM,lenM,Int.natCast_mul,Int.natCast_sub (by omega),Int.natCast_sub (by omega)];rfl
   refine poly_Compose.e1 _ _ _ _ hck (by rw[lenM];exact h1) (by rw[lenM];exact h2) d1 d2 (by rw[hcast];unfold InI64;omega) (by rw[hcast];omega) (by rw[lenM];unfold InI64;omega) ?_
   rw[hpl];exact this
  ·refine poly_Compose.e2 _ _ hck (by rw[lenM];exact h1) (by rw[lenM];omega) (by rw[lenM];unfold InI64;omega) ?_
   rw[hpl];exact this
 ·refine poly_Compose.e3 _ _ hck (by rw[lenM];omega) (by rw[lenM];unfold InI64;omega) ?_
  rw[hpl];exact this
end CPl
end Go.Proofs.YtegpfcmnjhmhjaaGreat.Sym
namespace Go.Proofs.YtegpfcmnjhmhjaaGreat.Sym
open Go Path CInt
set_option linter.unusedVariables false
def unW:List PV→UInt32
 |[.int _ n]=>UInt32.ofNat n.toNat
 |_=>0
def unR:List PV→Rat
 |[.bool s,.list n,.list d]=>ARat.val ⟨s,n.map unW,d.map unW⟩
 |_=>0
theorem unW_map(l:Words):(l.map wordPV).map unW=l:=by
 rw[List.map_map]
 conv=>rhs;rw[←List.map_id l]
 refine List.map_congr_left (fun w _ => ?_)
 show UInt32.ofNat (w.toNat:Int).toNat=w
 rw[Int.toNat_natCast]
 exact UInt32.ofNat_toNat
theorem unR_cells(a:ARat):unR a.cells=a.val:=by
 show ARat.val ⟨a.neg,(a.num.map wordPV).map unW,(a.den.map wordPV).map unW⟩=a.val
 rw[unW_map,unW_map]
def cRat(x y:List PV):Int:=cmpR (unR x) (unR y)
theorem swo_rat(xs:List (List PV)):Swo cRat xs where
 irrefl a _ h:=absurd (cmpR_lt.1 h) Rat.lt_irrefl
 trans a _ b _ c _ h1 h2:=by
  have h1:=cmpR_lt.1 h1
  have h2:=cmpR_lt.1 h2
  exact cmpR_lt.2 (by grind)
 ntrans a _ b _ c _ h1 h2 h3:=by
  have h1:¬unR a<unR b:=fun h=>h1 (cmpR_lt.2 h)
  have h2:¬unR b<unR c:=fun h=>h2 (cmpR_lt.2 h)
  have h3:=cmpR_lt.1 h3
  grind
theorem sort_list(L:List ARat)(h0:0<L.length):∃Z:List ARat,Z.Perm L∧sortBy cRat (L.map ARat.cells)=Z.map ARat.cells∧Z.Pairwise fun a b=>a.val≤b.val:=by
 have h0':0<(L.map ARat.cells).length:=by rw[List.length_map];exact h0
 have hO:=swo_rat (L.map ARat.cells)
 have he:sortBy cRat (L.map ARat.cells)=((sortIx cRat (L.map ARat.cells)).toList.map (L.getD · ⟨false,[],[]⟩)).map ARat.cells:=by
  unfold sortBy
  rw[List.map_map]
  refine List.map_congr_left (fun i hi => ?_)
  have hil:=sortIx_lt hO h0' hi
  rw[List.length_map] at hil
  show(L.map ARat.cells).getD i []=(L.getD i ⟨false,[],[]⟩).cells
  rw[List.getD_eq_getElem?_getD,List.getElem?_map,List.getElem?_eq_getElem hil,List.getD_eq_getElem?_getD,List.getElem?_eq_getElem hil]
  rfl
 refine⟨_,?_,he,?_⟩
 ·have:=(sortIx_spec hO h0').1.map (L.getD · (⟨false,[],[]⟩:ARat))
  rw[List.length_map,range_getD] at this
  exact this
 ·have:=sortBy_sorted hO h0'
  rw[he,List.pairwise_map] at this
  refine this.imp (fun {a b} h => ?_)
  have h:¬cmpR (unR b.cells) (unR a.cells)<0:=h
  rw[unR_cells,unR_cells] at h
  have:¬b.val<a.val:=fun k=>h (cmpR_lt.2 k)
  grind
theorem callable_of {P : Program} {f : FuncId} {fn : Func} (h : P.funcs[f]? = some fn) (hb : (fn.body.isSome && !(fn.name == "runtime.NumGoroutine")) = true) : Callable P f := by
  rw [Bool.and_eq_true, Bool.not_eq_true'] at hb
  exact ⟨fn, h, hb.1, hb.2⟩
namespace CLw
theorem SortFunc(L:List ARat)(h0:0<L.length)(hsz:L.length<4611686018427387904)(hf:∀a∈L,FitR a) :
  ∃Z:List ARat,Z.Perm L∧(Z.Pairwise fun a b=>a.val≤b.val)∧ContractX prg 33 [.row 100000 0 L.length 3,.pv (.fn 32)] [(100000,(.pure ((L:List ARat).map ARat.cells).flatten))] (.pv (.tup [])) [(100000,(.pure ((Z:List ARat).map ARat.cells).flatten))]:=by
 obtain⟨Z,h1,h2,h3⟩:=sort_list L h0
 have h:=sort_fn (P:=prg) (ρ:=Lay.sortRat_ren) (k:=3) (n:=L.length) (xs:=L.map ARat.cells) (c:=cRat) (by unfold Str;trivial) Lay.sortRat (callable_of Tryz.func33 (by kernel_rfl)) Tryz.isAgg28 Tryz.sizeOf28 [] [] 100000 (fun row hr=>by obtain⟨a,_,rfl⟩:=List.mem_map.1 hr;rfl) (by rw[List.length_map]) h0 (by omega) hsz (swo_rat _) (g:=32) (fun a ha b hb=>by
  obtain⟨x,hx,rfl⟩:=List.mem_map.1 ha
  obtain⟨y,hy,rfl⟩:=List.mem_map.1 hb
  have:=CFr.Cmp x y (hf x hx) (hf y hy)
  show Contract prg 32 [x.pv,y.pv] (.int .i64 (cmpR (unR x.cells) (unR y.cells)))
  rw[unR_cells,unR_cells]
  exact this)
 rw[List.nil_append,List.append_nil,List.nil_append,List.append_nil,h2] at h
 exact⟨Z,h1,h3,h⟩
theorem Shift1(y x:ARat)(hy:FitR y)(hx:FitR x):ContractX prg 31 [.pv y.pv,.ptr 100001 0] [(100001,(.lit [(eB x.neg),(.pv (wordsPV x.num)),(.pv (wordsPV x.den))]))] (.pv (vB (cmpR x.val y.val==0))) [(100001,(.lit [(eB x.neg),(.pv (wordsPV x.num)),(.pv (wordsPV x.den))]))] :=
 law_Shift_1.e0 y x _ (CFr.Cmp x y hx hy)
def idxR(v:Rat):Nat→List ARat→Int
 |_,[] => -1
 |t,a::r=>if v=a.val then (t:Int) else idxR v (t+1) r
theorem idxR_ge(v:Rat):∀(l:List ARat) (t:Nat),0≤idxR v t l↔v∈vals l
 |[],t=>by
  constructor
  ·intro h
   have:(0:Int) ≤ -1:=h
   omega
  ·intro h;cases h
 |a::r,t=>by
  rw[idxR]
  show _↔v∈a.val::vals r
  rw[List.mem_cons]
  split
  ·rename_i h
   exact⟨fun _ => .inl h,fun _=>by omega⟩
  ·rename_i h
   rw[idxR_ge v r (t+1)]
   exact⟨.inr,fun k=>k.resolve_left h⟩
theorem Index(s:List ARat)(f:ARat)(hs:∀a∈s,FitR a)(hf:FitR f)(hl:s.length<4611686018427387904) :
  ContractX prg 78 [.row 100000 0 s.length 3,.clo 31 100001] [(100000,(.pure ((s:List ARat).map ARat.cells).flatten)),(100001,(.lit [(eB f.neg),(.pv (wordsPV f.num)),(.pv (wordsPV f.den))]))] (.pv (vI (idxR f.val 0 s))) [(100000,(.pure ((s:List ARat).map ARat.cells).flatten)),(100001,(.lit [(eB f.neg),(.pv (wordsPV f.num)),(.pv (wordsPV f.den))]))]:=by
 refine slices_IndexFunc_Rat.e0 s s.length f ?_
 have loop:∀(j t:Nat),s.length-t=j→t≤s.length→slices_IndexFunc_Rat.Loop1 s.length f t s [(100000,(.pure ((s:List ARat).map ARat.cells).flatten)),(100001,(.lit [(eB f.neg),(.pv (wordsPV f.num)),(.pv (wordsPV f.den))]))] (.pv (vI (idxR f.val t (s.drop t)))) [(100000,(.pure ((s:List ARat).map ARat.cells).flatten)),(100001,(.lit [(eB f.neg),(.pv (wordsPV f.num)),(.pv (wordsPV f.den))]))]:=by
  intro j
  induction j with
  |zero =>
   intro t hj ht
   rw[List.drop_of_length_le (by omega)]
   exact slices_IndexFunc_Rat.l12 s.length f t s rfl rfl (by omega)
  |succ j ih =>
   intro t hj ht
   obtain⟨v,hv⟩:∃v,s[t]? = some v:=⟨_,List.getElem?_eq_getElem (by omega)⟩
   have hc:=Shift1 v f (hs v (List.mem_of_getElem? hv)) hf
   rw[drop_cons hv,idxR]
   by_cases e:f.val=v.val
   ·rw[if_pos e]
    exact slices_IndexFunc_Rat.l10 s.length f t s v _ rfl rfl (by omega) hv hc (by rw[cmpR_eq.2 e];rfl)
   ·rw[if_neg e]
    exact slices_IndexFunc_Rat.l11 s.length f t s v _ rfl (by omega) hv hc (by simpa using fun h=>e (cmpR_eq.1 h)) (by omega) (ih (t+1) (by omega) (by omega))
 have:=loop _ 0 rfl (Nat.zero_le _)
 rwa[List.drop_zero] at this
theorem Contains(s:List ARat)(f:ARat)(hs:∀a∈s,FitR a)(hf:FitR f)(hl:s.length<4611686018427387904) :
  ContractX prg 30 [.row 100000 0 s.length 3,.clo 31 100001] [(100000,(.pure ((s:List ARat).map ARat.cells).flatten)),(100001,(.lit [(eB f.neg),(.pv (wordsPV f.num)),(.pv (wordsPV f.den))]))] (.pv (vB (decide (f.val∈vals s)))) [(100000,(.pure ((s:List ARat).map ARat.cells).flatten)),(100001,(.lit [(eB f.neg),(.pv (wordsPV f.num)),(.pv (wordsPV f.den))]))]:=by
 have h:=slices_ContainsFunc_Rat.e0 s s.length f s _ (Index s f hs hf hl)
 rwa[show decide (idxR f.val 0 s≥0)=decide (f.val∈vals s) from by simp only[ge_iff_le,idxR_ge]] at h
theorem cB_le(n a b:Nat)(hn:1≤n){i j:Nat}(h:i≤j):cB n a b i≤cB n a b j:=by
 induction h with
 |refl=>exact Nat.le_refl _
 |step _ ih=>exact Nat.le_trans ih (cB_mono n a b hn _)
theorem lastW{l:ALaw}(g:Good l)(t:Nat):lastZ (pcW l t)=false:=by
 unfold pcW
 cases h:l.pieces[t]? with
 |some p=>exact chk_last (g.ps p (List.mem_of_getElem? h)).1
 |none=>rfl
theorem lastZ_d1(d:Rat):lastZ [d,1]=false:=by
 have:=lastZ_trimL [d,1]
 rwa[show trimL [d,1]=[d,1] from by simp[trimL]] at this
theorem trimL_d1(d:Rat):trimL [d,1]=[d,1]:=by simp[trimL]
def shiftPV(l:ALaw)(byV:Rat):PV:=if 16<(shB (vals l.breaks) byV).length then .tup [(⟨[],[]⟩:ALaw).pv,errPV (some 4)] else .tup [(shW l byV).pv,.nilI]
theorem sh_ht{l:ALaw}{byV b:Rat}(hf:FitW 64 l)(hby:ht byV≤64)(hb:b∈shB (vals l.breaks) byV):ht b≤260:=by
 rcases shB_mem.1 hb with e|⟨c,hc,e⟩
 ·rw[e,ht_zero];omega
 ·obtain⟨a,ha,rfl⟩:=List.mem_map.1 hc
  have h1:=ht_fit (hf.1 a ha).1 (hf.1 a ha).2 (by omega)
  have h2:=ht_add a.val byV
  have h3:=ht_frac (x:=a.val+byV) (k:=129) (by omega)
  rw[e];omega
theorem Shift(l:ALaw)(byV:ARat)(hc:chkLaw l=0)(hf:FitW 64 l)(hv:byV.valid=true)(hby:byV.num.length≤64∧byV.den.length≤64):Contract prg 9 [l.pv,byV.pv] (shiftPV l byV.val):=by
 have g:=good_of hc
 have hle:=g.le
 have hck:=Check l ⟨fun a ha=>⟨by have:=(hf.1 a ha).1;omega,by have:=(hf.1 a ha).2;omega⟩,fun p hp a ha=>⟨by have:=(hf.2 p hp a ha).1;omega,by have:=(hf.2 p hp a ha).2;omega⟩⟩
 rw[hc] at hck
 have hval:=CFr.Valid byV ⟨by omega,by omega⟩
 rw[hv] at hval
 have hbh:=ht_fit hby.1 hby.2 (by omega)
 have hlb:(vals l.breaks).length=l.breaks.length:=List.length_map ..
 have hzero:(⟨false,[],[]⟩:ARat)=mkR 0:=rfl
 have loop2:∀(j t:Nat),(shB (vals l.breaks) byV.val).length-t=j→t≤(shB (vals l.breaks) byV.val).length→(shB (vals l.breaks) byV.val).length≤17 →
   law_Shift.Loop2 ((shB (vals l.breaks) byV.val).map mkR) t l byV (((shB (vals l.breaks) byV.val).take t).map (fun b=>(shP l (frac (b-byV.val))).map mkR)) (.tup [(shW l byV.val).pv,.nilI]):=by
  intro j
  induction j with
  |zero =>
   intro t hj ht h17
   have e:(shB (vals l.breaks) byV.val).take t=shB (vals l.breaks) byV.val:=List.take_of_length_le (by omega)
   rw[e]
   exact law_Shift.l23 _ t l byV _ (by rw[List.length_map];omega)
  |succ j ih =>
   intro t hj ht h17
   obtain⟨b,hb⟩:∃b,(shB (vals l.breaks) byV.val)[t]? = some b:=⟨_,List.getElem?_eq_getElem (by omega)⟩
   have hz:((shB (vals l.breaks) byV.val).map mkR)[t]? = some (mkR b):=by rw[List.getElem?_map,hb];rfl
   have b0:=sh_ht hf hbh (List.mem_of_getElem? hb)
   have s1:=CFr.Sub (mkR b) byV (fit_mkR (by omega)) ⟨by omega,by omega⟩
   rw[mkR_val] at s1
   have b1:=ht_sub b byV.val
   have f1:=fit_mkRk (q:=b-byV.val) (k:=325) (by omega)
   have w1:=wrapped (mkR (b-byV.val)) ⟨by omega,by omega⟩
   rw[mkR_val] at w1
   have b2:=ht_frac (x:=b-byV.val) (k:=325) (by omega)
   have f2:=fit_mkRk (q:=frac (b-byV.val)) (k:=652) (by omega)
   have p1:=piece l (mkR (frac (b-byV.val))) g (fun a ha=>⟨by have:=(hf.1 a ha).1;omega,by have:=(hf.1 a ha).2;omega⟩) ⟨by omega,by omega⟩ (by rw[mkR_val];exact frac_ge _)
   rw[mkR_val] at p1
   obtain⟨q1,q2,q3⟩:=piece_spec g (frac_ge (b-byV.val)) (frac_lt (b-byV.val))
   have hsh:shP l (frac (b-byV.val))=trimL (compL (pcW l (pieceL (vals l.breaks) (frac (b-byV.val)))) [frac (b-byV.val)-brkW l (pieceL (vals l.breaks) (frac (b-byV.val))),1]):=rfl
   generalize hx:frac (b-byV.val)=x at *
   generalize hk:pieceL (vals l.breaks) x=k at *
   obtain⟨v1,v2,hv1,hv2,e1,e2,hcp,h9⟩:=g.at (t:=k) (by rw[←g.len];exact q1)
   have b3:=ht_brkW hf (by omega) k
   have s2:=CFr.Sub (mkR x) v1 (fit_mkR (by omega)) (by rw[e1];exact fit_mkR (by omega))
   rw[mkR_val,e1,mkR_val] at s2
   have b4:=ht_sub x (brkW l k)
   have hfl:Fl 717 [x-brkW l k,1]:=fun y hy=>by
    rcases List.mem_cons.1 hy with e|hy
    ·rw[e];omega
    ·rw[List.mem_singleton.1 hy];exact Nat.le_trans (show Sym.ht (1:Rat)≤1 from by decide) (by omega)
   have t1:=CPl.Trim [x-brkW l k,1] (by simp) hfl (by omega)
   rw[trimL_d1] at t1
   have hpl:=pcW_len g k
   have c1:=CPl.Compose (a:=64) (b:=717) 2 (pcW l k) [x-brkW l k,1] (by unfold chk2;rw[if_pos (chk_map (lastW g k) (by omega))];exact chk_map (lastZ_d1 _) (by simp)) (by simp;omega) (fl_pcW hf (by omega) k) hfl (by omega) (by omega) (by simp) (by omega) (by
    have:=cB_le 2 64 717 (by omega) hpl
    have e:cB 2 64 717 9≤800000:=by decide
    omega)
   rw[←hsh] at c1
   rw[e1] at hv1
   rw[e2] at hv2
   have hnx:=ih (t+1) (by omega) (by omega) h17
   rw[drop_take_map _ hb,hx] at hnx
   exact law_Shift.l20 _ t l byV _ _ _ _ _ k _ _ _ _ k _ _ (by rw[List.length_map];omega) hz s1 w1 p1 rfl hv1 s2 one t1 rfl hv2 c1 (by simp;omega) (by omega) hnx
 have loop1:∀(j t:Nat) (acc:List Rat),l.breaks.length-t=j→t≤l.breaks.length→((vals l.breaks).drop t).foldl (fun acc b=>addR acc (frac (b+byV.val))) acc=gaB (vals l.breaks) byV.val→(∀q∈acc,ht q≤260)→0<acc.length→acc.length≤t+1 →
   law_Shift.Loop1 (acc.map mkR).length l t byV (acc.map mkR) (shiftPV l byV.val):=by
  intro j
  induction j with
  |zero =>
   intro t acc hj ht hac hah h0 hal
   rw[List.drop_of_length_le (by omega)] at hac
   have hac:acc=gaB (vals l.breaks) byV.val:=hac
   have hlen:=gaB_shB_len (vals l.breaks) byV.val
   rw[←hac] at hlen
   unfold shiftPV
   by_cases h16:16<(shB (vals l.breaks) byV.val).length
   ·rw[if_pos h16]
    exact law_Shift.l13 _ l t byV _ (by omega) (by rw[List.length_map];omega)
   ·rw[if_neg h16]
    obtain⟨Z,z1,z2,z3⟩:=SortFunc (acc.map mkR) (by rw[List.length_map];exact h0) (by rw[List.length_map];omega) (fun a ha=>by
     obtain⟨q,hq,rfl⟩:=List.mem_map.1 ha
     exact fit_mkR (by have:=hah q hq;omega))
    have hZ:Z=(vals Z).map mkR:=by
     unfold vals
     rw[List.map_map]
     conv=>lhs;rw[←List.map_id Z]
     refine List.map_congr_left (fun a ha => ?_)
     obtain⟨q,hq,rfl⟩:=List.mem_map.1 (z1.mem_iff.1 ha)
     show mkR q=mkR (mkR q).val
     rw[mkR_val]
    have hvz:vals Z=shB (vals l.breaks) byV.val:=by
     refine gaB_sorted ?_ (List.pairwise_map.2 z2)
     have:=z1.map ARat.val
     rw[←hac]
     rw[show (acc.map mkR).map ARat.val=acc from vals_mkR acc] at this
     exact this
    have hl2:=loop2 _ 0 rfl (Nat.zero_le _) (by omega)
    rw[hvz] at hZ
    rw[hZ] at z3
    rw[List.take_zero,List.map_nil] at hl2
    exact law_Shift.l14 _ l t byV _ _ (by omega) (by rw[List.length_map];omega) z3 (by rw[List.length_map,List.length_map];omega) hl2
  |succ j ih =>
   intro t acc hj ht hac hah h0 hal
   obtain⟨v,hv⟩:∃v,l.breaks[t]? = some v:=⟨_,List.getElem?_eq_getElem (by omega)⟩
   have hvv:(vals l.breaks)[t]? = some v.val:=by unfold vals;rw[List.getElem?_map,hv];rfl
   rw[drop_cons hvv,List.foldl_cons] at hac
   have hvf:=hf.1 v (List.mem_of_getElem? hv)
   have hvh:=ht_fit hvf.1 hvf.2 (by omega)
   have a1:=CFr.Add v byV ⟨by omega,by omega⟩ ⟨by omega,by omega⟩
   have b1:=ht_add v.val byV.val
   have f1:=fit_mkRk (q:=v.val+byV.val) (k:=129) (by omega)
   have w1:=wrapped (mkR (v.val+byV.val)) ⟨by omega,by omega⟩
   rw[mkR_val] at w1
   have b2:=ht_frac (x:=v.val+byV.val) (k:=129) (by omega)
   generalize frac (v.val+byV.val)=x at *
   have hal2:(acc.map mkR).length=acc.length:=List.length_map ..
   have c1:=Contains (acc.map mkR) (mkR x) (fun a ha=>by
    obtain⟨q,hq,rfl⟩:=List.mem_map.1 ha
    exact fit_mkR (by have:=hah q hq;omega)) (fit_mkR (by omega)) (by omega)
   rw[mkR_val,vals_mkR] at c1
   by_cases hm:x∈acc
   ·rw[show addR acc x=acc from if_pos hm] at hac
    exact law_Shift.l11 _ l t byV _ v _ _ _ _ (by omega) hv a1 w1 c1 (decide_eq_true hm) (by omega) (ih (t+1) acc (by omega) (by omega) hac hah h0 (by omega))
   ·rw[show addR acc x=acc++[x] from if_neg hm] at hac
    have hn:=ih (t+1) (acc++[x]) (by omega) (by omega) hac (fun q hq=>by
     rcases List.mem_append.1 hq with hq|hq
     ·exact hah q hq
     ·rw[List.mem_singleton.1 hq];omega) (by simp) (by simp;omega)
    rw[show (acc++[x]).map mkR=acc.map mkR++[mkR x] from List.map_append ..] at hn
    exact law_Shift.l10 _ l t byV _ v _ _ _ _ (by omega) hv a1 w1 c1 (decide_eq_false hm) rfl (by simp;omega) (by omega) hn
 exact law_Shift.e1 l byV _ hck hval rfl (loop1 _ 0 [0] rfl (Nat.zero_le _) rfl (fun q hq=>by rw[List.mem_singleton.1 hq,ht_zero];omega) (by simp) (by simp))
theorem fitW_shift{l:ALaw}{byV:Rat}(g:Good l)(hf:FitW 64 l)(hby:ht byV≤64):FitW 800000 (shW l byV):=by
 constructor
 ·intro a ha
  obtain⟨b,hb,rfl⟩:=List.mem_map.1 (show a∈(shB (vals l.breaks) byV).map mkR from ha)
  have:=sh_ht hf hby hb
  have:=fit_mkRk (q:=b) (k:=260) (by omega)
  omega
 ·intro p hp
  obtain⟨b,hb,rfl⟩:=List.mem_map.1 (show p∈(shB (vals l.breaks) byV).map (fun b=>(shP l (frac (b-byV))).map mkR) from hp)
  have b0:=sh_ht hf hby hb
  have b1:=ht_sub b byV
  have b2:=ht_frac (x:=b-byV) (k:=325) (by omega)
  have b3:=ht_brkW hf (by omega) (pieceL (vals l.breaks) (frac (b-byV)))
  have b4:=ht_sub (frac (b-byV)) (brkW l (pieceL (vals l.breaks) (frac (b-byV))))
  have hfl:Fl 717 [frac (b-byV)-brkW l (pieceL (vals l.breaks) (frac (b-byV))),1]:=fun y hy=>by
   rcases List.mem_cons.1 hy with e|hy
   ·rw[e];omega
   ·rw[List.mem_singleton.1 hy];exact Nat.le_trans (show Sym.ht (1:Rat)≤1 from by decide) (by omega)
  have hpl:=pcW_len g (pieceL (vals l.breaks) (frac (b-byV)))
  have h:=fl_compL (n:=2) (a:=64) (b:=717) hfl (by omega) (by omega) (by simp) (pcW l (pieceL (vals l.breaks) (frac (b-byV)))) (fl_pcW hf (by omega) _)
  have:=cB_le 2 64 717 (by omega) hpl
  have e:cB 2 64 717 9≤800000:=by decide
  exact fit_mapk (fl_trimL (fl_mono h (by omega)))
end CLw
end Go.Proofs.YtegpfcmnjhmhjaaGreat.Sym

namespace Go.Proofs.YtegpfcmnjhmhjaaGreat.Sym
open Go Path CInt
set_option linter.unusedVariables false
def dEv(p:List Rat)(x:Rat):Rat:=evalL (derI 1 (p.drop 1)) x
theorem dEv_derive(p:List Rat)(x:Rat):evalL (deriveL p) x=dEv p x:=evalL_deriveL p x
theorem derI_succ(x:Rat):∀(q:List Rat) (i:Nat),evalL (derI (i+1) q) x=evalL (derI i q) x+evalL q x
 |[],_=>by show(0:Rat)=0+0;grind
 |a::r,i=>by
  rw[derI,derI,evalL,evalL,evalL,derI_succ x r (i+1)]
  have:(((i+1:Nat):Int):Rat)=((i:Int):Rat)+1:=by simp
  rw[this];grind
theorem dEv_cons(a:Rat)(p:List Rat)(x:Rat):dEv (a::p) x=evalL p x+x*dEv p x:=by
 show evalL (derI 1 p) x=_
 rw[derI_succ x p 0]
 have:evalL (derI 0 p) x=x*dEv p x:=by
  cases p with
  |nil=>show(0:Rat)=x*0;rw[Rat.mul_zero]
  |cons b r =>
   show evalL (derI 1 r) x*x+((0:Nat):Int)*b=x*evalL (derI 1 r) x
   have:(((0:Nat):Int):Rat)=0:=rfl
   rw[this];grind
 rw[this];grind
theorem dEv_nil(x:Rat):dEv [] x=0:=rfl
theorem dEv_add(x:Rat):∀p q:List Rat,dEv (addL p q) x=dEv p x+dEv q x
 |[],q=>by rw[addL,dEv_nil,Rat.zero_add]
 |a::p,[]=>by rw[addL,dEv_nil,Rat.add_zero]
 |a::p,b::q=>by rw[addL,dEv_cons,dEv_cons,dEv_cons,evalL_addL,dEv_add x p q];grind
theorem dEv_smul(c x:Rat):∀p:List Rat,dEv (smulL c p) x=c*dEv p x
 |[]=>by show(0:Rat)=c*0;rw[Rat.mul_zero]
 |a::p=>by
  show dEv (c*a::smulL c p) x=_
  rw[dEv_cons,dEv_cons,evalL_smulL,dEv_smul c x p];grind
theorem dEv_mul(x:Rat)(q:List Rat):∀p:List Rat,dEv (mulL p q) x=dEv p x*evalL q x+evalL p x*dEv q x
 |[]=>by rw[mulL,dEv_nil];show(0:Rat)=0*_+0*_;grind
 |a::p=>by
  rw[mulL,dEv_add,dEv_smul,dEv_cons,dEv_cons,evalL_mulL,dEv_mul x q p,evalL];grind
end Go.Proofs.YtegpfcmnjhmhjaaGreat.Sym
namespace Go.Proofs.YtegpfcmnjhmhjaaGreat.Sym
open Go Path CInt
set_option linter.unusedVariables false
theorem joinsF_iff(l:ALaw):∀j t,joinsF l j t=true↔∀i,t≤i→i<t+j→joinB l i=true
 |0,t=>⟨fun _ i h1 h2=>by omega,fun _=>rfl⟩
 |j+1,t=>by
  rw[joinsF]
  cases hb:joinB l t with
  |false =>
   rw[cond_false]
   constructor
   ·intro h;cases h
   ·intro h
    have:=h t (Nat.le_refl _) (by omega)
    rw[hb] at this;cases this
  |true =>
   rw[cond_true,joinsF_iff l j (t+1)]
   constructor
   ·intro h i h1 h2
    by_cases e:i=t
    ·rw[e];exact hb
    ·exact h i (by omega) (by omega)
   ·intro h i h1 h2;exact h i (by omega) (by omega)
theorem next_at {l : ALaw} (g : Good l) {i : Nat} (hi : i < l.pieces.length) : evalL (pcW l ((i + 1) % l.pieces.length)) 0 = atW l (endW l i) := by
  have hlen := g.len
  by_cases h : i + 1 < l.pieces.length
  · rw [Nat.mod_eq_of_lt h, endW_next (by omega)]
    have h0 := brkW_ge0 g (i + 1)
    have hp := lenW_pos g (t := i + 1) (by omega)
    have h1 := endW_le1 g (i + 1)
    unfold lenW at hp
    have hf : frac (brkW l (i + 1)) = brkW l (i + 1) := frac_id h0 (by grind)
    rw [atW_eq, hf, piece_uniq g (t := i + 1) (by omega) Rat.le_refl (by grind)]
    congr 1; grind
  · have e : i + 1 = l.pieces.length := by omega
    rw [e, Nat.mod_self]
    have ee : endW l i = 1 := by unfold endW; rw [List.getElem?_eq_none (by omega)]; rfl
    have hn0 := g.n0
    obtain ⟨c, hc⟩ : ∃ c, l.breaks[0]? = some c := ⟨_, List.getElem?_eq_getElem (by omega)⟩
    have hb : brkW l 0 = 0 := by rw [brkW_of hc]; exact g.first c hc
    have hp := lenW_pos g (t := 0) (by omega)
    unfold lenW at hp
    have hf : frac 1 = 0 := frac_eq 1 (by have : ((1 : Int) : Rat) = 1 := rfl
                                          grind) Rat.le_refl (by decide)
    rw [ee, atW_eq, hf, piece_uniq g (y := 0) (t := 0) (by omega) (by rw [hb]; exact Rat.le_refl) (by grind), hb]
    congr 1; grind
theorem joinsW_iff{l:ALaw}(g:Good l):joinsW l=true↔∀i,i<l.pieces.length→evalL (pcW l i) (lenW l i)=atW l (endW l i):=by
 unfold joinsW
 rw[joinsF_iff]
 constructor
 ·intro h i hi
  have:=of_decide_eq_true (h i (Nat.zero_le _) (by omega))
  rw[this,next_at g hi]
 ·intro h i _ hi
  refine decide_eq_true ?_
  rw[h i (by omega),next_at g (by omega)]
section
variable {l:ALaw} {byV:Rat}
theorem ex_end{s:Rat}(h:(s∈shB (vals l.breaks) byV∧0<s)∨s=1):∃j b,(shB (vals l.breaks) byV)[j]? = some b∧endW (shW l byV) j=s:=by
 obtain⟨r,hr⟩:=shB_head (vals l.breaks) byV
 rcases h with ⟨h,h0⟩|h
 ·obtain⟨m,hm,hms⟩:=List.getElem_of_mem h
  cases m with
  |zero =>
   have:(shB (vals l.breaks) byV)[0]? = some s:=by rw[List.getElem?_eq_getElem hm,hms]
   rw[hr] at this
   have:(0:Rat)=s:=by simpa using this
   rw[this] at h0;exact absurd h0 Rat.lt_irrefl
  |succ m =>
   refine⟨m,_,List.getElem?_eq_getElem (by omega),?_⟩
   rw[endW_next (by rw[shW_len.1];exact hm)]
   exact shW_brk (by rw[List.getElem?_eq_getElem hm,hms])
 ·have hl:0<(shB (vals l.breaks) byV).length:=by rw[hr];simp
  refine⟨(shB (vals l.breaks) byV).length-1,_,List.getElem?_eq_getElem (by omega),?_⟩
  unfold endW
  rw[List.getElem?_eq_none (by rw[shW_len.1];omega),h];rfl
theorem int_zero{N:Int}(h1:(N:Rat)<1)(h2 : -1<(N:Rat)):N=0:=by
 have e1:((1:Int):Rat)=1:=rfl
 have e2:((-1:Int):Rat) = -1:=rfl
 rw[←e1,Rat.intCast_lt_intCast] at h1
 rw[←e2,Rat.intCast_lt_intCast] at h2
 omega
theorem sh_joins(g:Good l)(h16:(shB (vals l.breaks) byV).length≤16):joinsW (shW l byV)=joinsW l:=by
 have g':=good_of (chk_shift (byV:=byV) g h16)
 have hlen:=g.len
 have hlen':=g'.len
 rw[Bool.eq_iff_iff,joinsW_iff g',joinsW_iff g]
 constructor
 ·intro h i hi
  have hp:=lenW_pos g (t:=i) (by omega)
  have hb0:=brkW_ge0 g i
  have he1:=endW_le1 g i
  have hl:lenW l i=endW l i-brkW l i:=rfl
  have hmem:frac (endW l i+byV)∈shB (vals l.breaks) byV:=by
   refine shB_mem.2 (.inr ?_)
   by_cases hn:i+1<l.breaks.length
   ·obtain⟨c,hc⟩:∃c,l.breaks[i+1]? = some c:=⟨_,List.getElem?_eq_getElem hn⟩
    refine⟨c.val,List.mem_map.2 ⟨c,List.mem_of_getElem? hc,rfl⟩,?_⟩
    have ee:endW l i=c.val:=by unfold endW;rw[hc]
    rw[ee]
   ·have hn0:=g.n0
    obtain⟨c,hc⟩:∃c,l.breaks[0]? = some c:=⟨_,List.getElem?_eq_getElem (by omega)⟩
    have h0:=g.first c hc
    refine⟨c.val,List.mem_map.2 ⟨c,List.mem_of_getElem? hc,rfl⟩,?_⟩
    have ee:endW l i=1:=by unfold endW;rw[List.getElem?_eq_none (by omega)];rfl
    rw[ee,h0]
    have:=frac_add (0+byV) 1
    have e1:((1:Int):Rat)=1:=rfl
    rw[←this,e1]
    congr 1;grind
  obtain⟨s,m,hs,hsm⟩:∃(s:Rat) (m:Int),((s∈shB (vals l.breaks) byV∧0<s)∨s=1)∧s=endW l i+byV-(m:Rat):=by
   by_cases h0:0<frac (endW l i+byV)
   ·exact⟨_,(endW l i+byV).floor,.inl ⟨hmem,h0⟩,rfl⟩
   ·have hz:=frac_ge (endW l i+byV)
    have hf:frac (endW l i+byV)=endW l i+byV-((endW l i+byV).floor:Rat):=rfl
    refine⟨1,(endW l i+byV).floor-1,.inr rfl,?_⟩
    rw[Rat.intCast_sub]
    have e1:((1:Int):Rat)=1:=rfl
    grind
  obtain⟨j,b,hj,hje⟩:=ex_end (l:=l) (byV:=byV) hs
  have hjl:j<(shW l byV).pieces.length:=by rw[shW_len.2];exact(List.getElem?_eq_some_iff.1 hj).1
  have hpj:=lenW_pos g' (t:=j) (by omega)
  have hlj:lenW (shW l byV) j=endW (shW l byV) j-brkW (shW l byV) j:=rfl
  rw[shW_brk hj] at hlj
  have hin:=sh_in g hj
  obtain⟨p1,p2,p3⟩:=piece_spec g (frac_ge (b-byV)) (frac_lt (b-byV))
  have hx:frac (b-byV)=b-byV-((b-byV).floor:Rat):=rfl
  have hx0:=frac_ge (b-byV)
  have hee:=endW_le1 g (pieceL (vals l.breaks) (frac (b-byV)))
  have hjj:=h j hjl
  rw[shW_pc hj,shP_eval,hlj,hje] at hjj
  rw[hje] at hin hlj
  have hN : -((b-byV).floor:Rat)-(m:Rat)=((-(b-byV).floor-m:Int):Rat):=by rw[Rat.intCast_sub,Rat.intCast_neg]
  have hX:frac (b-byV)+(s-b)=endW l i+((-(b-byV).floor-m:Int):Rat):=by rw[←hN];grind
  have hz:=int_zero (N := -(b-byV).floor-m) (by grind) (by grind)
  rw[hz] at hX
  have e0:((0:Int):Rat)=0:=rfl
  rw[e0] at hX
  generalize frac (b-byV)=x at *
  have hpi:pieceL (vals l.breaks) x=i:=by
   rcases Nat.lt_trichotomy (pieceL (vals l.breaks) x) i with h|h|h
   ·have h1:=endW_next (l:=l) (t:=pieceL (vals l.breaks) x) (by omega)
    by_cases e:pieceL (vals l.breaks) x+1=i
    ·rw[e] at h1;grind
    ·have:=brk_mono g (i:=pieceL (vals l.breaks) x+1) (j:=i) (by omega) (by omega);grind
   ·exact h
   ·have h1:=endW_next (l:=l) (t:=i) (by omega)
    by_cases e:i+1=pieceL (vals l.breaks) x
    ·rw[e] at h1;grind
    ·have:=brk_mono g (i:=i+1) (j:=pieceL (vals l.breaks) x) (by omega) (by omega);grind
  rw[hpi] at hjj
  have h1:s-b+(x-brkW l i)=lenW l i:=by rw[hl];grind
  rw[h1] at hjj
  rw[hjj]
  have h2:=sh_at g h16 (s-byV)
  rw[show s-byV+byV=s from by grind] at h2
  rw[h2]
  refine atW_frac l ?_
  have:=frac_add (s-byV) m
  rw[←this]
  congr 1;grind
 ·intro h j hjl
  obtain⟨b,hj⟩:∃b,(shB (vals l.breaks) byV)[j]? = some b:=⟨_,List.getElem?_eq_getElem (by rw[←shW_len.2];exact hjl)⟩
  have hpj:=lenW_pos g' (t:=j) (by omega)
  have hlj:lenW (shW l byV) j=endW (shW l byV) j-brkW (shW l byV) j:=rfl
  rw[shW_brk hj] at hlj
  have hin:=sh_in g hj
  obtain⟨p1,p2,p3⟩:=piece_spec g (frac_ge (b-byV)) (frac_lt (b-byV))
  have hx:frac (b-byV)=b-byV-((b-byV).floor:Rat):=rfl
  have hx0:=frac_ge (b-byV)
  have hee:=endW_le1 g (pieceL (vals l.breaks) (frac (b-byV)))
  rw[shW_pc hj,shP_eval,hlj]
  have h2:=sh_at g h16 (endW (shW l byV) j-byV)
  rw[show endW (shW l byV) j-byV+byV=endW (shW l byV) j from by grind] at h2
  rw[h2]
  have hfl:=frac_add (endW (shW l byV) j-byV) (-(b-byV).floor)
  rw[Rat.intCast_neg] at hfl
  generalize endW (shW l byV) j=s at *
  have hfx:frac (s-byV)=frac (frac (b-byV)+(s-b)):=by
   rw[←hfl];congr 1;grind
  rw[atW_frac l hfx]
  generalize frac (b-byV)=x at *
  generalize hk:pieceL (vals l.breaks) x=k at *
  by_cases e:x+(s-b)<endW l k
  ·have hf:frac (x+(s-b))=x+(s-b):=frac_id (by grind) (by grind)
   rw[atW_eq,hf,piece_uniq g p1 (by grind) e]
   congr 1;grind
  ·have e:x+(s-b)=endW l k:=by grind
   rw[e,←h k (by omega)]
   unfold lenW
   congr 1;grind
theorem dEv_comp(d t:Rat):∀p:List Rat,dEv (compL p [d,1]) t=dEv p (t+d)
 |[]=>rfl
 |a::p=>by
  have e:evalL [d,1] t=t+d:=by show(0*t+1)*t+d=_;grind
  have e2:dEv [d,1] t=1:=by
   rw[dEv_cons,dEv_cons,dEv_nil];show(0*t+1)+t*(0+t*0)=1;grind
  have e3:dEv [a] t=0:=by rw[dEv_cons,dEv_nil];show(0:Rat)+t*0=0;grind
  rw[compL,dEv_add,dEv_mul,dEv_comp d t p,evalL_compL,e,e2,e3,dEv_cons]
  grind
theorem brk_der(l:ALaw)(t:Nat):brkW (deriveW l) t=brkW l t:=by
 have e:∀m:ALaw,brkW m t=((vals m.breaks)[t]?).getD 0:=by
  intro m
  unfold brkW vals
  rw[List.getElem?_map]
  cases m.breaks[t]? <;> rfl
 rw[e,e,deriveW_br]
theorem shP_derive(l:ALaw)(x:Rat):deriveL (shP l x)=shP (deriveW l) x:=by
 unfold shP
 rw[deriveL_trimL,deriveW_br,deriveW_pc,brk_der]
 generalize pcW l _=p
 generalize x-_=d
 have h:∀t,evalL (deriveL (compL p [d,1])) t=evalL (compL (deriveL p) [d,1]) t:=fun t=>by
  rw[dEv_derive,dEv_comp,evalL_compL,dEv_derive]
  congr 1
  show _=(0*t+1)*t+d
  grind
 have:=eval_ext h
 rwa[trimL_of (lastZ_deriveL _)] at this
theorem derive_shift(l:ALaw)(byV:Rat):deriveW (shW l byV)=shW (deriveW l) byV:=by
 unfold deriveW
 show(⟨(vals (shW l byV).breaks).map mkR,_⟩:ALaw)=shW (deriveW l) byV
 rw[shW_vals]
 unfold shW
 rw[deriveW_br]
 congr 1
 rw[List.map_map]
 refine List.map_congr_left (fun b _ => ?_)
 show(deriveL (vals ((shP l (frac (b-byV))).map mkR))).map mkR=_
 rw[vals_mkR,shP_derive]
theorem sh_smooth:∀(j:Nat) {l:ALaw} {byV:Rat},chkLaw l=0→(shB (vals l.breaks) byV).length≤16→smoothF j (shW l byV)=smoothF j l
 |0,_,_,_,_=>rfl
 |j+1,l,byV,hc,h16=>by
  rw[smoothF,smoothF,sh_joins (good_of hc) h16,derive_shift,sh_smooth j (chk_derive hc) (by rw[deriveW_br];exact h16)]
theorem smooth_down:∀(j:Nat) (l:ALaw),smoothF (j+1) l=true→smoothF j l=true
 |0,_,_=>rfl
 |j+1,l,h=>by
  rw[smoothF] at h ⊢
  cases hb:joinsW l with
  |false=>rw[hb] at h;cases h
  |true=>rw[hb,cond_true] at h;rw[cond_true];exact smooth_down j _ h
theorem smooth_split(j:Nat)(l:ALaw):smoothF (j+2) l=(smoothF (j+1) l&&smoothF (j+1) (deriveW l)):=by
 have h:=smooth_down j (deriveW l)
 rw[smoothF]
 rw[show smoothF (j+1) l=bif joinsW l then smoothF j (deriveW l) else false from rfl]
 cases joinsW l<;>cases h1:smoothF (j+1) (deriveW l)<;>simp_all
end
end Go.Proofs.YtegpfcmnjhmhjaaGreat.Sym

namespace Go.Proofs.YtegpfcmnjhmhjaaGreat.Sym.Path
open Go
set_option maxRecDepth 20000
set_option linter.unusedVariables false
namespace linkworklaw52_valid
theorem e0(l:ALaw)(lar:Bool)(che:Int)(h1:Contract prg 7 [l.pv] (vB lar))(h2:lar=false)(h3:Contract prg 10 [l.pv] (vI che)):Contract prg 16 [l.pv] (vB (che==0)) :=
 Contract.ofL Tryz.func16 (by kernel_rfl) (L.done mixed tabOk (n:=72) (ns:=[1,1,1,1,1,1]) (tr:=[.reg [],.reg [.none,(.pv (vB lar)),.none,.none,.none,(.pv (vI che)),.none,(.dec true)]]) (cj h1 (cj (bnot_t h2) (cj (bnot_t h2) (cj h3 (cj (bnot_t h2) (cj (bnot_t h2) True.intro)))))) (by kernel_rfl))
theorem e1(l:ALaw)(lar:Bool)(h1:Contract prg 7 [l.pv] (vB lar))(h2:lar=true):Contract prg 16 [l.pv] (vB false) :=
 Contract.ofL Tryz.func16 (by kernel_rfl) (L.done mixed tabOk (n:=72) (ns:=[1,1,1,1,1]) (tr:=[.reg [],.reg [.none,(.pv (vB lar)),.none,.none,.skip,.skip,.skip,(.dec false)]]) (cj h1 (cj (bnot_f h2) (cj (bnot_f h2) (cj (bnot_f h2) (cj (bnot_f h2) True.intro))))) (by kernel_rfl))
end linkworklaw52_valid
namespace linkworklaw52_LawSmooths
theorem e1(l:ALaw)(k:Int)(byV:ARat)(awa val awa1:Bool)(h1:Contract prg 6 [] (vB awa))(h2:awa=true)(h3:Contract prg 16 [l.pv] (vB val))(h4:val=false)(h5:Contract prg 6 [] (vB awa1)):Contract prg 5 [l.pv,(vI k),byV.pv] (vB awa1) :=
 Contract.ofL Tryz.func5 (by kernel_rfl) (L.done mixed tabOk (n:=84) (ns:=[1,1,1,1,1,1,1,1,1,1,1,1,1,1,1,1,1]) (tr:=[.reg [],.reg [(.pv (vB awa)),.none,.none,.none,(.pv (vB val)),.none,(.dec false),.none,.skip,.skip,(.dec true),.none,.skip,.skip,.none,.none,.skip,.skip,.none,.none,.skip,.skip,.skip],.auto,.reg [(.pv (vB awa1))]]) (cj h1 (cj (bnot_f h2) (cj (bnot_f h2) (cj h3 (cj (bnot_f h2) (cj (bnot_f h2) (cj (bnot_t h4) (cj (bnot_t h4) (cj (bnot_t h4) (cj (Eq.refl true) (cj (Eq.refl true) (cj (Eq.refl true) (cj (Eq.refl true) (cj (Eq.refl true) (cj (Eq.refl true) (cj (Eq.refl true) (cj h5 True.intro))))))))))))))))) (by kernel_rfl))
theorem e2(l:ALaw)(k:Int)(byV:ARat)(awa val awa1:Bool)(h1:Contract prg 6 [] (vB awa))(h2:awa=true)(h3:Contract prg 16 [l.pv] (vB val))(h4:val=true)(h5:k<1)(h6:Contract prg 6 [] (vB awa1)):Contract prg 5 [l.pv,(vI k),byV.pv] (vB awa1) :=
 Contract.ofL Tryz.func5 (by kernel_rfl) (L.done mixed tabOk (n:=84) (ns:=[1,1,1,1,1,1,1,1,1,1,1,1,1,1,1,1,1,1]) (tr:=[.reg [],.reg [(.pv (vB awa)),.none,.none,.none,(.pv (vB val)),.none,(.dec false),.none,.none,.none,(.dec false),.none,.skip,.skip,(.dec true),.none,.skip,.skip,.none,.none,.skip,.skip,.skip],.auto,.reg [(.pv (vB awa1))]]) (cj h1 (cj (bnot_f h2) (cj (bnot_f h2) (cj h3 (cj (bnot_f h2) (cj (bnot_f h2) (cj (bnot_f h4) (cj (bnot_f h4) (cj (bnot_f h4) (cj (dlt_t h5) (cj (dlt_t h5) (cj (dlt_t h5) (cj (Eq.refl true) (cj (Eq.refl true) (cj (Eq.refl true) (cj (Eq.refl true) (cj (Eq.refl true) (cj h6 True.intro)))))))))))))))))) (by kernel_rfl))
theorem e3(l:ALaw)(k:Int)(byV:ARat)(awa val awa1:Bool)(h1:Contract prg 6 [] (vB awa))(h2:awa=true)(h3:Contract prg 16 [l.pv] (vB val))(h4:val=true)(h5:1≤k)(h6:8<k)(h7:Contract prg 6 [] (vB awa1)):Contract prg 5 [l.pv,(vI k),byV.pv] (vB awa1) :=
 Contract.ofL Tryz.func5 (by kernel_rfl) (L.done mixed tabOk (n:=84) (ns:=[1,1,1,1,1,1,1,1,1,1,1,1,1,1,1,1,1,1,1]) (tr:=[.reg [],.reg [(.pv (vB awa)),.none,.none,.none,(.pv (vB val)),.none,(.dec false),.none,.none,.none,(.dec false),.none,.none,.none,(.dec false),.none,.skip,.skip,(.dec true),.none,.skip,.skip,.skip],.auto,.reg [(.pv (vB awa1))]]) (cj h1 (cj (bnot_f h2) (cj (bnot_f h2) (cj h3 (cj (bnot_f h2) (cj (bnot_f h2) (cj (bnot_f h4) (cj (bnot_f h4) (cj (bnot_f h4) (cj (dlt_f h5) (cj (dlt_f h5) (cj (dlt_f h5) (cj (dlt_t h6) (cj (dlt_t h6) (cj (dlt_t h6) (cj (Eq.refl true) (cj (Eq.refl true) (cj (Eq.refl true) (cj h7 True.intro))))))))))))))))))) (by kernel_rfl))
theorem e4(l:ALaw)(k:Int)(byV:ARat)(awa val lon awa1:Bool)(h1:Contract prg 6 [] (vB awa))(h2:awa=true)(h3:Contract prg 16 [l.pv] (vB val))(h4:val=true)(h5:1≤k)(h6:k≤8)(h7:Contract prg 8 [byV.pv] (vB lon))(h8:lon=true)(h9:Contract prg 6 [] (vB awa1)):Contract prg 5 [l.pv,(vI k),byV.pv] (vB awa1) :=
 Contract.ofL Tryz.func5 (by kernel_rfl) (L.done mixed tabOk (n:=84) (ns:=[1,1,1,1,1,1,1,1,1,1,1,1,1,1,1,1,1,1,1,1,1]) (tr:=[.reg [],.reg [(.pv (vB awa)),.none,.none,.none,(.pv (vB val)),.none,(.dec false),.none,.none,.none,(.dec false),.none,.none,.none,(.dec false),.none,.none,(.pv (vB lon)),(.dec false),.none,.skip,.skip,.skip,(.dec true)],.auto,.reg [(.pv (vB awa1))]]) (cj h1 (cj (bnot_f h2) (cj (bnot_f h2) (cj h3 (cj (bnot_f h2) (cj (bnot_f h2) (cj (bnot_f h4) (cj (bnot_f h4) (cj (bnot_f h4) (cj (dlt_f h5) (cj (dlt_f h5) (cj (dlt_f h5) (cj (dlt_f h6) (cj (dlt_f h6) (cj h7 (cj (dlt_f h6) (cj h8 (cj h8 (cj h8 (cj h8 (cj h9 True.intro))))))))))))))))))))) (by kernel_rfl))
theorem e5(l:ALaw)(k:Int)(byV:ARat)(awa val lon val1 awa1:Bool)(h1:Contract prg 6 [] (vB awa))(h2:awa=true)(h3:Contract prg 16 [l.pv] (vB val))(h4:val=true)(h5:1≤k)(h6:k≤8)(h7:Contract prg 8 [byV.pv] (vB lon))(h8:lon=false)(h9:Contract prg 11 [byV.pv] (vB val1))(h10:val1=false)(h11:Contract prg 6 [] (vB awa1)):Contract prg 5 [l.pv,(vI k),byV.pv] (vB awa1) :=
 Contract.ofL Tryz.func5 (by kernel_rfl) (L.done mixed tabOk (n:=84) (ns:=[1,1,1,1,1,1,1,1,1,1,1,1,1,1,1,1,1,1,1,1,1,1,1]) (tr:=[.reg [],.reg [(.pv (vB awa)),.none,.none,.none,(.pv (vB val)),.none,(.dec false),.none,.none,.none,(.dec false),.none,.none,.none,(.dec false),.none,.none,(.pv (vB lon)),(.dec false),.none,.none,(.pv (vB val1)),.none,(.dec false)],.dec true,.reg [(.pv (vB awa1))]]) (cj h1 (cj (bnot_f h2) (cj (bnot_f h2) (cj h3 (cj (bnot_f h2) (cj (bnot_f h2) (cj (bnot_f h4) (cj (bnot_f h4) (cj (bnot_f h4) (cj (dlt_f h5) (cj (dlt_f h5) (cj (dlt_f h5) (cj (dlt_f h6) (cj (dlt_f h6) (cj h7 (cj (dlt_f h6) (cj h8 (cj h8 (cj h9 (cj h8 (cj h8 (cj (bnot_t h10) (cj h11 True.intro))))))))))))))))))))))) (by kernel_rfl))
theorem e6(l:ALaw)(k:Int)(byV:ARat)(awa val lon val1 smo smo2:Bool)(der:ALaw)(smo4:Bool)(shi:ALaw)(smo6:Bool)(h1:Contract prg 6 [] (vB awa))(h2:awa=true)(h3:Contract prg 16 [l.pv] (vB val))(h4:val=true)(h5:1≤k)(h6:k≤8)(h7:Contract prg 8 [byV.pv] (vB lon))(h8:lon=false)(h9:Contract prg 11 [byV.pv] (vB val1))(h10:val1=true)(h11:Contract prg 21 [l.pv,(vI k)] (.tup [(vB smo),.nilI]))(h12:InI64 (k-1))(h13:Contract prg 21 [l.pv,(vI (k-1))] (.tup [(vB smo2),.nilI]))(h14:Contract prg 22 [l.pv] (.tup [der.pv,.nilI]))(h15:Contract prg 21 [der.pv,(vI (k-1))] (.tup [(vB smo4),.nilI]))(h16:smo2=true)(h17:smo=smo4)(h18:Contract prg 9 [l.pv,byV.pv] (.tup [shi.pv,.nilI]))(h19:Contract prg 21 [shi.pv,(vI k)] (.tup [(vB smo6),.nilI])):Contract prg 5 [l.pv,(vI k),byV.pv] (vB (smo6==smo)) :=
 Contract.ofL Tryz.func5 (by kernel_rfl) (L.done mixed tabOk (n:=153) (ns:=[1,1,1,1,1,1,1,1,1,1,1,1,1,1,1,1,1,1,1,1,1,1,1,1,1,1,1,1,1,1,1,1,1,1,1,1,1,1,1,1,1,1,1,1,1,1,1]) (tr:=[.reg [],.reg [(.pv (vB awa)),.none,.none,.none,(.pv (vB val)),.none,(.dec false),.none,.none,.none,(.dec false),.none,.none,.none,(.dec false),.none,.none,(.pv (vB lon)),(.dec false),.none,.none,(.pv (vB val1)),.none,(.dec false)],.dec false,.reg [.none,.none,(.pv (.tup [(vB smo),.nilI]))],.reg [.none,.none,(iI (k-1)),(.pv (.tup [(vB smo2),.nilI]))],.reg [.none,(.pv (.tup [der.pv,.nilI]))],.reg [.none,.none,(iI (k-1)),(.pv (.tup [(vB smo4),.nilI]))],.reg [.none,.none,.none,.none,.none,.none,.none,.none,.none,.none,.none,.none,.none,.none,.none,.none,.none,.none,.none,(.dec true)],.dec false,.reg [.none,.none,(.pv (.tup [shi.pv,.nilI]))],.reg [],.auto,.reg [.none,.none,(.pv (.tup [(vB smo6),.nilI]))],.reg []]) (cj h1 (cj (bnot_f h2) (cj (bnot_f h2) (cj h3 (cj (bnot_f h2) (cj (bnot_f h2) (cj (bnot_f h4) (cj (bnot_f h4) (cj (bnot_f h4) (cj (dlt_f h5) (cj (dlt_f h5) (cj (dlt_f h5) (cj (dlt_f h6) (cj (dlt_f h6) (cj h7 (cj (dlt_f h6) (cj h8 (cj h8 (cj h9 (cj h8 (cj h8 (cj (bnot_f h10) (cj h11 (cj (bs_sub h12) (cj h13 (cj h14 (cj (bs_sub h12) (cj h15 (cj (Eq.refl false) (cj (Eq.refl false) (cj (Eq.refl false) (cj (Eq.refl false) (cj (Eq.refl false) (cj (Eq.refl false) (cj (Eq.refl false) (cj (Eq.refl false) (cj (Eq.refl false) (cj h16 (cj (Eq.refl false) (cj h16 (cj (Eq.refl false) (cj (bnot_f (beq_t h17)) (cj h18 (cj h19 (cj (Eq.refl true) (cj (Eq.refl true) (cj (Eq.refl true) True.intro))))))))))))))))))))))))))))))))))))))))))))))) (by kernel_rfl))
theorem e7(l:ALaw)(k:Int)(byV:ARat)(awa val lon val1 smo smo2:Bool)(der:ALaw)(smo4:Bool)(shi:ALaw)(shi1:Int)(isV:Bool)(h1:Contract prg 6 [] (vB awa))(h2:awa=true)(h3:Contract prg 16 [l.pv] (vB val))(h4:val=true)(h5:1≤k)(h6:k≤8)(h7:Contract prg 8 [byV.pv] (vB lon))(h8:lon=false)(h9:Contract prg 11 [byV.pv] (vB val1))(h10:val1=true)(h11:Contract prg 21 [l.pv,(vI k)] (.tup [(vB smo),.nilI]))(h12:InI64 (k-1))(h13:Contract prg 21 [l.pv,(vI (k-1))] (.tup [(vB smo2),.nilI]))(h14:Contract prg 22 [l.pv] (.tup [der.pv,.nilI]))(h15:Contract prg 21 [der.pv,(vI (k-1))] (.tup [(vB smo4),.nilI]))(h16:smo2=true)(h17:smo=smo4)(h18:Contract prg 9 [l.pv,byV.pv] (.tup [shi.pv,(.iface 44 (vI shi1))]))(h19:Contract prg 17 [(.iface 44 (vI shi1)),(vI 4)] (vB isV)):Contract prg 5 [l.pv,(vI k),byV.pv] (vB isV) :=
 Contract.ofL Tryz.func5 (by kernel_rfl) (L.done mixed tabOk (n:=144) (ns:=[1,1,1,1,1,1,1,1,1,1,1,1,1,1,1,1,1,1,1,1,1,1,1,1,1,1,1,1,1,1,1,1,1,1,1,1,1,1,1,1,1,1,1,1]) (tr:=[.reg [],.reg [(.pv (vB awa)),.none,.none,.none,(.pv (vB val)),.none,(.dec false),.none,.none,.none,(.dec false),.none,.none,.none,(.dec false),.none,.none,(.pv (vB lon)),(.dec false),.none,.none,(.pv (vB val1)),.none,(.dec false)],.dec false,.reg [.none,.none,(.pv (.tup [(vB smo),.nilI]))],.reg [.none,.none,(iI (k-1)),(.pv (.tup [(vB smo2),.nilI]))],.reg [.none,(.pv (.tup [der.pv,.nilI]))],.reg [.none,.none,(iI (k-1)),(.pv (.tup [(vB smo4),.nilI]))],.reg [.none,.none,.none,.none,.none,.none,.none,.none,.none,.none,.none,.none,.none,.none,.none,.none,.none,.none,.none,(.dec true)],.dec false,.reg [.none,.none,(.pv (.tup [shi.pv,(.iface 44 (vI shi1))]))],.reg [],.auto,.reg [.none,(.pv (vB isV))]]) (cj h1 (cj (bnot_f h2) (cj (bnot_f h2) (cj h3 (cj (bnot_f h2) (cj (bnot_f h2) (cj (bnot_f h4) (cj (bnot_f h4) (cj (bnot_f h4) (cj (dlt_f h5) (cj (dlt_f h5) (cj (dlt_f h5) (cj (dlt_f h6) (cj (dlt_f h6) (cj h7 (cj (dlt_f h6) (cj h8 (cj h8 (cj h9 (cj h8 (cj h8 (cj (bnot_f h10) (cj h11 (cj (bs_sub h12) (cj h13 (cj h14 (cj (bs_sub h12) (cj h15 (cj (Eq.refl false) (cj (Eq.refl false) (cj (Eq.refl false) (cj (Eq.refl false) (cj (Eq.refl false) (cj (Eq.refl false) (cj (Eq.refl false) (cj (Eq.refl false) (cj (Eq.refl false) (cj h16 (cj (Eq.refl false) (cj h16 (cj (Eq.refl false) (cj (bnot_f (beq_t h17)) (cj h18 (cj h19 True.intro)))))))))))))))))))))))))))))))))))))))))))) (by kernel_rfl))
theorem e8(l:ALaw)(k:Int)(byV:ARat)(awa val lon val1 smo smo2:Bool)(der:ALaw)(smo4:Bool)(shi:ALaw)(smo6:Bool)(h1:Contract prg 6 [] (vB awa))(h2:awa=true)(h3:Contract prg 16 [l.pv] (vB val))(h4:val=true)(h5:1≤k)(h6:k≤8)(h7:Contract prg 8 [byV.pv] (vB lon))(h8:lon=false)(h9:Contract prg 11 [byV.pv] (vB val1))(h10:val1=true)(h11:Contract prg 21 [l.pv,(vI k)] (.tup [(vB smo),.nilI]))(h12:InI64 (k-1))(h13:Contract prg 21 [l.pv,(vI (k-1))] (.tup [(vB smo2),.nilI]))(h14:Contract prg 22 [l.pv] (.tup [der.pv,.nilI]))(h15:Contract prg 21 [der.pv,(vI (k-1))] (.tup [(vB smo4),.nilI]))(h16:smo2=false)(h17:smo=false)(h18:Contract prg 9 [l.pv,byV.pv] (.tup [shi.pv,.nilI]))(h19:Contract prg 21 [shi.pv,(vI k)] (.tup [(vB smo6),.nilI])):Contract prg 5 [l.pv,(vI k),byV.pv] (vB (smo6==smo)) :=
 Contract.ofL Tryz.func5 (by kernel_rfl) (L.done mixed tabOk (n:=153) (ns:=[1,1,1,1,1,1,1,1,1,1,1,1,1,1,1,1,1,1,1,1,1,1,1,1,1,1,1,1,1,1,1,1,1,1,1,1,1,1,1,1,1,1,1,1,1,1,1]) (tr:=[.reg [],.reg [(.pv (vB awa)),.none,.none,.none,(.pv (vB val)),.none,(.dec false),.none,.none,.none,(.dec false),.none,.none,.none,(.dec false),.none,.none,(.pv (vB lon)),(.dec false),.none,.none,(.pv (vB val1)),.none,(.dec false)],.dec false,.reg [.none,.none,(.pv (.tup [(vB smo),.nilI]))],.reg [.none,.none,(iI (k-1)),(.pv (.tup [(vB smo2),.nilI]))],.reg [.none,(.pv (.tup [der.pv,.nilI]))],.reg [.none,.none,(iI (k-1)),(.pv (.tup [(vB smo4),.nilI]))],.reg [.none,.none,.none,.none,.none,.none,.none,.none,.none,.none,.none,.none,.none,.none,.none,.none,.none,.none,.skip,(.dec false)],.dec false,.reg [.none,.none,(.pv (.tup [shi.pv,.nilI]))],.reg [],.auto,.reg [.none,.none,(.pv (.tup [(vB smo6),.nilI]))],.reg []]) (cj h1 (cj (bnot_f h2) (cj (bnot_f h2) (cj h3 (cj (bnot_f h2) (cj (bnot_f h2) (cj (bnot_f h4) (cj (bnot_f h4) (cj (bnot_f h4) (cj (dlt_f h5) (cj (dlt_f h5) (cj (dlt_f h5) (cj (dlt_f h6) (cj (dlt_f h6) (cj h7 (cj (dlt_f h6) (cj h8 (cj h8 (cj h9 (cj h8 (cj h8 (cj (bnot_f h10) (cj h11 (cj (bs_sub h12) (cj h13 (cj h14 (cj (bs_sub h12) (cj h15 (cj (Eq.refl false) (cj (Eq.refl false) (cj (Eq.refl false) (cj (Eq.refl false) (cj (Eq.refl false) (cj (Eq.refl false) (cj (Eq.refl false) (cj (Eq.refl false) (cj (Eq.refl false) (cj h16 (cj (Eq.refl false) (cj h16 (cj (Eq.refl false) (cj (bnot_f (beq_t h17)) (cj h18 (cj h19 (cj (Eq.refl true) (cj (Eq.refl true) (cj (Eq.refl true) True.intro))))))))))))))))))))))))))))))))))))))))))))))) (by kernel_rfl))
theorem e9(l:ALaw)(k:Int)(byV:ARat)(awa val lon val1 smo smo2:Bool)(der:ALaw)(smo4:Bool)(shi:ALaw)(shi1:Int)(isV:Bool)(h1:Contract prg 6 [] (vB awa))(h2:awa=true)(h3:Contract prg 16 [l.pv] (vB val))(h4:val=true)(h5:1≤k)(h6:k≤8)(h7:Contract prg 8 [byV.pv] (vB lon))(h8:lon=false)(h9:Contract prg 11 [byV.pv] (vB val1))(h10:val1=true)(h11:Contract prg 21 [l.pv,(vI k)] (.tup [(vB smo),.nilI]))(h12:InI64 (k-1))(h13:Contract prg 21 [l.pv,(vI (k-1))] (.tup [(vB smo2),.nilI]))(h14:Contract prg 22 [l.pv] (.tup [der.pv,.nilI]))(h15:Contract prg 21 [der.pv,(vI (k-1))] (.tup [(vB smo4),.nilI]))(h16:smo2=false)(h17:smo=false)(h18:Contract prg 9 [l.pv,byV.pv] (.tup [shi.pv,(.iface 44 (vI shi1))]))(h19:Contract prg 17 [(.iface 44 (vI shi1)),(vI 4)] (vB isV)):Contract prg 5 [l.pv,(vI k),byV.pv] (vB isV) :=
 Contract.ofL Tryz.func5 (by kernel_rfl) (L.done mixed tabOk (n:=144) (ns:=[1,1,1,1,1,1,1,1,1,1,1,1,1,1,1,1,1,1,1,1,1,1,1,1,1,1,1,1,1,1,1,1,1,1,1,1,1,1,1,1,1,1,1,1]) (tr:=[.reg [],.reg [(.pv (vB awa)),.none,.none,.none,(.pv (vB val)),.none,(.dec false),.none,.none,.none,(.dec false),.none,.none,.none,(.dec false),.none,.none,(.pv (vB lon)),(.dec false),.none,.none,(.pv (vB val1)),.none,(.dec false)],.dec false,.reg [.none,.none,(.pv (.tup [(vB smo),.nilI]))],.reg [.none,.none,(iI (k-1)),(.pv (.tup [(vB smo2),.nilI]))],.reg [.none,(.pv (.tup [der.pv,.nilI]))],.reg [.none,.none,(iI (k-1)),(.pv (.tup [(vB smo4),.nilI]))],.reg [.none,.none,.none,.none,.none,.none,.none,.none,.none,.none,.none,.none,.none,.none,.none,.none,.none,.none,.skip,(.dec false)],.dec false,.reg [.none,.none,(.pv (.tup [shi.pv,(.iface 44 (vI shi1))]))],.reg [],.auto,.reg [.none,(.pv (vB isV))]]) (cj h1 (cj (bnot_f h2) (cj (bnot_f h2) (cj h3 (cj (bnot_f h2) (cj (bnot_f h2) (cj (bnot_f h4) (cj (bnot_f h4) (cj (bnot_f h4) (cj (dlt_f h5) (cj (dlt_f h5) (cj (dlt_f h5) (cj (dlt_f h6) (cj (dlt_f h6) (cj h7 (cj (dlt_f h6) (cj h8 (cj h8 (cj h9 (cj h8 (cj h8 (cj (bnot_f h10) (cj h11 (cj (bs_sub h12) (cj h13 (cj h14 (cj (bs_sub h12) (cj h15 (cj (Eq.refl false) (cj (Eq.refl false) (cj (Eq.refl false) (cj (Eq.refl false) (cj (Eq.refl false) (cj (Eq.refl false) (cj (Eq.refl false) (cj (Eq.refl false) (cj (Eq.refl false) (cj h16 (cj (Eq.refl false) (cj h16 (cj (Eq.refl false) (cj (bnot_f (beq_t h17)) (cj h18 (cj h19 True.intro)))))))))))))))))))))))))))))))))))))))))))) (by kernel_rfl))
end linkworklaw52_LawSmooths
end Go.Proofs.YtegpfcmnjhmhjaaGreat.Sym.Path
namespace Go.Proofs.YtegpfcmnjhmhjaaGreat.Sym
open Go Path CInt
set_option linter.unusedVariables false
namespace C52
theorem fitW_le2{l:ALaw}{k m:Nat}(h:FitW k l)(hk:k≤m):FitW m l :=
 ⟨fun a ha=>⟨by have:=(h.1 a ha).1;omega,by have:=(h.1 a ha).2;omega⟩,fun p hp a ha=>⟨by have:=(h.2 p hp a ha).1;omega,by have:=(h.2 p hp a ha).2;omega⟩⟩
theorem valid(l:ALaw)(hh:Held l):Contract prg 16 [l.pv] (vB false)∨(chkLaw l=0∧Small l∧Contract prg 16 [l.pv] (vB true)):=by
 rcases large l hh with hl|⟨s,hl⟩
 ·exact .inl (linkworklaw52_valid.e1 l _ hl rfl)
 have h:=linkworklaw52_valid.e0 l _ _ hl rfl (CRl.Check l (fitW_le2 s.2.2.1 (by omega)))
 by_cases hc:chkLaw l=0
 ·rw[hc] at h;exact .inr ⟨hc,s,h⟩
 ·rw[show (chkLaw l==0)=false from by simpa using hc] at h
  exact .inl h
theorem LawSmooths(l:ALaw)(k:Int)(byV:ARat)(hh:Held l)(hk:InI64 k)(hb:byV.num.length+byV.den.length<9223372036854775808):Contract prg 5 [l.pv,vI k,byV.pv] (vB true):=by
 rcases valid l hh with hv|⟨hc,⟨s1,s2,s3,s4⟩,hv⟩
 ·exact linkworklaw52_LawSmooths.e1 l k byV _ _ _ awake rfl hv rfl awake
 by_cases k1:k<1
 ·exact linkworklaw52_LawSmooths.e2 l k byV _ _ _ awake rfl hv rfl k1 awake
 by_cases k2:8<k
 ·exact linkworklaw52_LawSmooths.e3 l k byV _ _ _ awake rfl hv rfl (by omega) k2 awake
 have l1:=long byV hb
 by_cases g1:4<byV.num.length+byV.den.length
 ·exact linkworklaw52_LawSmooths.e4 l k byV _ _ _ _ awake rfl hv rfl (by omega) (by omega) l1 (decide_eq_true g1) awake
 have v1:=CRb.Valid byV ⟨by omega,by omega⟩
 cases hv1:byV.valid with
 |false =>
  rw[hv1] at v1
  exact linkworklaw52_LawSmooths.e5 l k byV _ _ _ _ _ awake rfl hv rfl (by omega) (by omega) l1 (decide_eq_false g1) v1 rfl awake
 |true =>
  rw[hv1] at v1
  have g:=good_of hc
  obtain⟨m,rfl⟩:∃m:Nat,k=((m+1:Nat):Int):=⟨(k-1).toNat,by omega⟩
  have hm:m+1≤8:=by omega
  have e1:((m+1:Nat):Int)-1=(m:Int):=by omega
  have a1:=CLw.Smooth l (m+1) hc (fitW_le2 s3 (by omega)) hm
  have a2:=CLw.Smooth l m hc (fitW_le2 s3 (by omega)) (by omega)
  have hd:=CLw.Derive l hc (fitW_le2 s3 (by omega))
  have fd:=fitW_derive g (by omega) s3
  have a3:=CLw.Smooth (deriveW l) m (chk_derive hc) (fitW_le2 fd (by omega)) (by omega)
  have hsp:=smooth_split m l
  rw[←e1] at a2 a3
  have hs:=CLw.Shift l byV hc (fitW_le2 s3 (by omega)) hv1 ⟨by omega,by omega⟩
  have hbh:ht byV.val≤4:=ht_fit (by omega) (by omega) (by omega)
  have hi:InI64 (((m+1:Nat):Int)-1):=by unfold InI64 at hk ⊢;omega
  unfold CLw.shiftPV at hs
  by_cases h16:16<(shB (vals l.breaks) byV.val).length
  ·rw[if_pos h16] at hs
   cases h2:smoothF (m+1) l with
   |true =>
    exact linkworklaw52_LawSmooths.e7 l _ byV _ _ _ _ _ _ _ _ _ 4 _ awake rfl hv rfl (by omega) (by omega) l1 (decide_eq_false g1) v1 rfl a1 hi a2 hd a3 h2 (by rw[hsp,h2,Bool.true_and]) hs (CBa.Is (some 4) 4)
   |false =>
    exact linkworklaw52_LawSmooths.e9 l _ byV _ _ _ _ _ _ _ _ _ 4 _ awake rfl hv rfl (by omega) (by omega) l1 (decide_eq_false g1) v1 rfl a1 hi a2 hd a3 h2 (by rw[hsp,h2,Bool.false_and]) hs (CBa.Is (some 4) 4)
  ·rw[if_neg h16] at hs
   have fs:=CLw.fitW_shift (byV:=byV.val) g (fitW_le2 s3 (by omega)) (by omega)
   have a4:=CLw.Smooth (shW l byV.val) (m+1) (chk_shift g (by omega)) (fitW_le2 fs (by omega)) hm
   rw[sh_smooth _ hc (by omega)] at a4
   have ee:(smoothF (m+1+1) l==smoothF (m+1+1) l)=true:=by simp
   cases h2:smoothF (m+1) l with
   |true =>
    have:=linkworklaw52_LawSmooths.e6 l _ byV _ _ _ _ _ _ _ _ _ _ awake rfl hv rfl (by omega) (by omega) l1 (decide_eq_false g1) v1 rfl a1 hi a2 hd a3 h2 (by rw[hsp,h2,Bool.true_and]) hs a4
    rwa[ee] at this
   |false =>
    have:=linkworklaw52_LawSmooths.e8 l _ byV _ _ _ _ _ _ _ _ _ _ awake rfl hv rfl (by omega) (by omega) l1 (decide_eq_false g1) v1 rfl a1 hi a2 hd a3 h2 (by rw[hsp,h2,Bool.false_and]) hs a4
    rwa[ee] at this
end C52
end Go.Proofs.YtegpfcmnjhmhjaaGreat.Sym
namespace Go.Proofs.YtegpfcmnjhmhjaaGreat.Sym
open Go Go.RowKit Go.ChangeShapes Go.WideShapes Go.ChangeAt
set_option linter.unusedVariables false
namespace RowLawSmooths
theorem own:ownKnob Tryz.prog.godebug=none:=by kernel_rfl
theorem laid:laidOutB prg=true:=by kernel_rfl
theorem okArg{P:Program}{W:World}{base:Nat}{ps:Array TypeId}{args:Array Value}(hval:∀(j:Nat) t v,ps[j]? = some t→args[j]? = some v→Value.okWide P W .any base t v)(j:Nat){t:TypeId}{v:Value}(h1:ps[j]? = some t)(h2:args[j]? = some v):Value.okWide P W .any base t v:=hval j t v h1 h2
set_option maxRecDepth 100000 in
theorem contract(H:Type)(enc:TypeId×Value→H)(W:World)(base:Nat)(args:Array Value)(ds gs:List (DataW H))(before:List MemPlace)
  (hval:∀(j:Nat) t v,Tryz.f5.params[j]? = some t→args[j]? = some v→Value.okWide Tryz.prog W .any base t v)
  (hW:DataW.Whole enc Tryz.prog Tryz.f5.params.toList Rows.lawSmoothsSpec.vars false W args.toList ds gs before)
  (hz:(DataW.weightsEach Tryz.prog (Tryz.f5.params.toList++Rows.lawSmoothsSpec.plain.varTypes Tryz.prog) (ds++gs)).all (·≤reachBytes)=true) :
  Calls Tryz.prog 5 args W fun e W'=>∃v,e = .returned v∧Rows.lawSmoothsSpec.post enc Tryz.prog Tryz.f5 false true false false W args v W':=by
 have hW':=hW
 obtain⟨p,q,hA,hV,rfl,hfz,hnd⟩:=hW
 have hp:Tryz.f5.params = #[25,3,28]:=by kernel_rfl
 rw[hp] at hA hval hz
 obtain⟨v0,vs0,d0,ds0,p0,q0,hargs,rfl,rfl,h0,r0⟩:=trodAll_cons hA
 obtain⟨v1,vs1,d1,ds1,p1,q1,rfl,rfl,rfl,h1,r1⟩:=trodAll_cons r0
 obtain⟨v2,vs2,d2,ds2,p2,q2,rfl,rfl,rfl,h2,r2⟩:=trodAll_cons r1
 obtain⟨rfl,rfl,rfl⟩:=trodAll_nil r2
 obtain rfl:args = #[v0,v1,v2]:=by cases args;simp_all
 obtain⟨rfl,rfl⟩:=trodVars_none hV
 obtain⟨n0,hn0⟩:=h0
 have hw0:∀k∈d0.weights prg 25,k≤reachBytes:=by
  intro k hk
  have:=List.all_eq_true.1 hz k (DataW.weights_mem_each (j:=0) rfl rfl k hk)
  simpa using this
 obtain⟨x0,hx0,b0⟩:=opens_ALaw enc W 0 (fun _=>true) true n0 _ _ hn0 hw0
 obtain⟨fs0,hu0,_⟩:=flds_spec (show fldsOf (prg.underlying 25)=some [(22,0),(23,1)] by kernel_rfl)
 have hv0:Value.okWide Tryz.prog W .any base 25 v0:=okArg hval 0 (by simp) (by simp)
 have hrd0:Rd (Old W) W x0.pv v0:=rd_struct (P:=Tryz.prog) (cs:=x0.cells) hu0 hv0 hx0
 obtain⟨n1,hn1⟩:=h1
 have hw1:∀k∈d1.weights prg 3,k≤reachBytes:=by
  intro k hk
  have:=List.all_eq_true.1 hz k (DataW.weights_mem_each (j:=1) rfl rfl k hk)
  simpa using this
 obtain⟨x1,hx1,b1⟩:=(opens_int (k := .i64) (show prg.underlying 3=some (.int .i64) by kernel_rfl)) enc W 0 (fun _=>true) true n1 _ _ hn1 hw1
 obtain⟨m1,rfl,_,_,_⟩:=open_int (show Tryz.prog.underlying 3=some (.int .i64) by kernel_rfl) (okArg hval 1 (t:=3) (v:=v1) (by simp) (by simp)) (⟨n1,hn1⟩:DataW.Trod enc Tryz.prog W 0 (fun _=>true) true 3 v1 d1 p1)
 have hrd1:Rd (Old W) W (.int .i64 x1) (.int .i64 m1):=by
  have:=(hx1.2 0 _ _ rfl rfl).2
  exact this
 obtain⟨n2,hn2⟩:=h2
 have hw2:∀k∈d2.weights prg 28,k≤reachBytes:=by
  intro k hk
  have:=List.all_eq_true.1 hz k (DataW.weights_mem_each (j:=2) rfl rfl k hk)
  simpa using this
 obtain⟨x2,hx2,b2⟩:=opens_ARat enc W 0 (fun _=>true) true n2 _ _ hn2 hw2
 obtain⟨fs2,hu2,_⟩:=flds_spec (show fldsOf (prg.underlying 28)=some [(4,0),(26,1),(26,2)] by kernel_rfl)
 have hv2:Value.okWide Tryz.prog W .any base 28 v2:=okArg hval 2 (by simp) (by simp)
 have hrd2:Rd (Old W) W x2.pv v2:=rd_struct (P:=Tryz.prog) (cs:=x2.cells) hu2 hv2 hx2
 have hc:=C52.LawSmooths x0 x1 x2 b0 (i64_val b1) (lenR_sum b2)
 refine(hc.2 (Old W) W (fun _=>none) #[v0,.int .i64 m1,v2] (fun b hb=>hb) ⟨(fun r sc h=>by cases h),(fun r r' b h=>by obtain⟨_,h⟩:=h)⟩ rfl ?_).mono ?_
 ·intro j e v he hv
  cases j with
  |zero=>simp at he hv;subst he hv;exact hrd0
  |succ j =>
   cases j with
   |zero=>simp at he hv;subst he hv;exact hrd1
   |succ j =>
    cases j with
    |zero=>simp at he hv;subst he hv;exact hrd2
    |succ j=>simp at he
 ·intro e W' ⟨v,β',he,_,hk,_,hv,_⟩
  subst he
  have hv:Rd _ W' (vB true) v:=hv
  cases hv
  have hk':Keeps (fun _=>False) W W':=⟨hk.os,hk.tape,hk.output,hk.size,fun k h1 _=>hk.block k h1 (fun ⟨y,hy,_⟩=>by obtain⟨_,hy⟩:=hy),hk.shape,hk.drawn⟩
  refine⟨_,rfl,post_true (tb:=4) hW' hk' rfl (by kernel_rfl) (by kernel_rfl) rfl rfl rfl laid ?_⟩
  rw[hp]
  intro t ht
  have:t=25∨t=3∨t=28:=by simpa using ht
  rcases this with rfl|rfl|rfl
  all_goals exact⟨by kernel_rfl,of_decide_eq_true (by kernel_rfl)⟩
set_option maxRecDepth 100000 in
theorem lifted(os:Os)(started:os.Started)(H:Type)(enc:TypeId×Value→H) :
  ReturnsInHanded {} Tryz.checked os 5 .any (Rows.lawSmoothsSpec.pre6 enc Tryz.prog Tryz.f5 Rows.lawSmoothsRow.domain false) (Rows.lawSmoothsSpec.post enc Tryz.prog Tryz.f5 false true false false):=by
 refine returnsInHanded_of_change_sized (C:=Tryz.checked) own started (by kernel_rfl) Tryz.func5
  (ChangeSpec.witness6 (enc:=enc) (C:=Tryz.checked) false ⟨#[],#[.agg #[.slice none 0 0,.slice none 0 0],.int .i64 0,.agg #[.bool false,.slice none 0 0,.slice none 0 0]],[]⟩ 8 (by kernel_rfl) (by kernel_rfl) (by kernel_rfl) (by kernel_rfl)) ?_
 intro W base args ds gs before hval hW _ hz _
 exact contract H enc W base args ds gs before hval hW hz
theorem j1:(Rows.lawSmoothsRow.inPlace==Tryz.prog.inPlace 5)=true:=by kernel_rfl
theorem j2:(Rows.lawSmoothsRow.unfollowed==Tryz.prog.unfollowed 5)=true:=by kernel_rfl
theorem j3:(Rows.lawSmoothsRow.recurses==Tryz.prog.recurses 5)=true:=by kernel_rfl
theorem j4:(Rows.lawSmoothsRow.named==Tryz.prog.varsNamed 5)=true:=by kernel_rfl
theorem closed:joinedFacts Tryz.prog 5 Tryz.f5 Rows.lawSmoothsSpec Rows.lawSmoothsRow=true:=by
 unfold joinedFacts
 rw[j1,j2,j3,j4]
 kernel_rfl
theorem proved:Rows.LawSmoothsSaid :=
 OpenClaim.holds_of_wide 5 Tryz.f5 rfl rfl rfl rfl rfl rfl rfl ⟨rfl,rfl,rfl,rfl,rfl⟩ rfl rfl rfl rfl rfl (by kernel_rfl) Tryz.func5 closed
  (of_decide_eq_true (by kernel_rfl)) (by unfold Func.isWrapper;first|(rw [if_pos (by decide +kernel)];kernel_rfl)|(rw [if_neg (by decide +kernel)];exact⟨rfl,rfl⟩))
  (fun os started H enc _=>lifted os started H enc)
end RowLawSmooths
end Go.Proofs.YtegpfcmnjhmhjaaGreat.Sym
