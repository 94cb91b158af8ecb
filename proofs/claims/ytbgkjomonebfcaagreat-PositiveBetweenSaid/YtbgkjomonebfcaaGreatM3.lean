/- The statement PositiveBetween is proved: the values of a polynomial lie between its Bernstein coefficients; no condition. -/
import Derived.Test.YtbgkjomonebfcaaGreatM2
import Derived.Test.YtbgkjomonebfcaaGreatM0
import Derived.Test.YtbgkjomonebfcaaGreatRows
import Derived.JoinedCond
namespace Go.Proofs.YtbgkjomonebfcaaGreat.Sym
open Go Path CInt
set_option linter.unusedVariables false
namespace CPs
theorem choose(n k:Nat)(hn:n≤64)(hk:k≤64):Contract prg 158 [vI (n:Int),vI (k:Int)] (.tup [(mkR (choQ (n:Int) k)).pv,.nilI]):=by
 have loop:∀d t:Nat,k-t=d→t≤k→positive_choose.Loop1 (n:Int) (k:Int) t (mkR (choQ (n:Int) t)) (.tup [(mkR (choQ (n:Int) k)).pv,.nilI]):=by
  intro d
  induction d with
  |zero =>
   intro t hd ht
   have:t=k:=by omega
   subst this
   exact positive_choose.l12 _ _ t _ (by omega)
  |succ d ih =>
   intro t hd htk
   have h1:=ht_choQ (n:=(n:Int)) (by omega) t (by omega)
   have h2:=ht_divInt ((n:Int)-(t:Int)) ((t+1:Nat):Int)
   have h3:wl ((n:Int)-(t:Int))≤2:=wl_le (by omega)
   have h4:wl ((t+1:Nat):Int)≤2:=wl_le (by omega)
   have hm:=QF.Mul (choQ (n:Int) t) (Rat.divInt ((n:Int)-(t:Int)) ((t+1:Nat):Int)) (by omega) (by omega)
   exact positive_choose.l10 _ _ t _ _ _ (by omega) (by unfold InI64;omega) (by omega) (QF.Make _ _ (by unfold InI64;omega) (by unfold InI64;omega) (by omega)) hm (ih (t+1) (by omega) (by omega))
 exact positive_choose.e0 _ _ _ (CFr.Of 1 (by unfold InI64;omega)) (loop k 0 rfl (by omega))
theorem Width(lo hi:Rat)(h1:ht lo≤68719476736)(h2:ht hi≤68719476736)(hle:lo≤hi):Contract prg 156 [(mkG lo hi).pv] (mkR (hi-lo)).pv:=by
 have hc:=CIv.clean (mkG lo hi) (fit_mkG h1 h2)
 rw[loG_mk hle,hiG_mk hle] at hc
 exact interval_Width.e0 _ (mkG lo hi) _ hc (QF.Sub hi lo h2 h1)
theorem bernstein{p:List Rat}{lo hi:Rat}(pc:Piece p lo hi):Contract prg 76 [pq p,(mkG lo hi).pv] (.tup [pq (bernQ p lo (hi-lo)),.nilI]):=by
 have hl:=pc.len
 by_cases h0:p.length=0
 ·have:p=[]:=List.eq_nil_of_length_eq_zero h0
  subst this
  exact positive_bernstein.e0 _ _ rfl
 have g1:=pc.hlo
 have g2:=pc.hhi
 have g3:=ht_sub hi lo
 have f1:Fl 81 [lo,hi-lo]:=fun x hx=>by
  rcases List.mem_cons.1 hx with rfl|hx
  ·omega
  ·rw[List.mem_singleton.1 hx];omega
 have l1:=len_trimL [lo,hi-lo]
 have l1:(trimL [lo,hi-lo]).length≤2:=l1
 have hw:=Width lo hi (by omega) (by omega) pc.le
 have ht:=CPl.Trim [lo,hi-lo] (by simp) f1 (by omega)
 have h5:=cB_le 2 40 81 (by omega) (9-p.length) p.length
 have h6:=cB_40
 rw[show p.length+(9-p.length)=9 from by omega] at h5
 have hc:=CPl.Compose (a:=40) (b:=81) 2 p (trimL [lo,hi-lo]) (chk2_zero (chk_map pc.zp (by omega)) (chk_trimL (by simp))) (by
  intro⟨_,h2,h3⟩
  have:(trimL [lo,hi-lo]).length-1=1:=by omega
  rw[this] at h3;omega) pc.fl (fl_trimL f1) (by omega) (by omega) l1 (by omega) (by omega)
 have hd:=poly_Degree.e0 (p.map mkR) (by rw[lenM];unfold InI64;omega)
 rw[lenM] at hd
 have hq:=sub_coef pc
 have ln:((subL p lo (hi-lo)).map mkR).length=(subL p lo (hi-lo)).length:=lenM _
 have inner:∀(j:Nat) (site:List ARat) (r:PV),j<p.length→site.length≤20→positive_bernstein.Loop1 ((subL p lo (hi-lo)).map mkR) ((p.length:Int)-1) (site++[mkR (berS (subL p lo (hi-lo)) ((p.length:Int)-1) j (j+1))]) (j+1) r →
   ∀d t:Nat,min (j+1) (subL p lo (hi-lo)).length-t=d→t≤min (j+1) (subL p lo (hi-lo)).length→positive_bernstein.Loop2 ((subL p lo (hi-lo)).map mkR) ((p.length:Int)-1) site j j (min (j+1) ((subL p lo (hi-lo)).map mkR).length) t (mkR (berS (subL p lo (hi-lo)) ((p.length:Int)-1) j t)) r:=by
  intro j site r hj hs hL d
  induction d with
  |zero =>
   intro t hd1 ht1
   have e:berS (subL p lo (hi-lo)) ((p.length:Int)-1) j t=berS (subL p lo (hi-lo)) ((p.length:Int)-1) j (j+1):=by
    by_cases hc:j+1≤(subL p lo (hi-lo)).length
    ·rw[show t=j+1 from by omega]
    ·have:=berS_ge (q:=subL p lo (hi-lo)) (n:=(p.length:Int)-1) (j:=j) (m:=t) (by omega) (j+1-t)
     rw[show t+(j+1-t)=j+1 from by omega] at this
     exact this.symm
   rw[e]
   exact positive_bernstein.l24 _ _ site j j _ t _ (by rw[ln];omega) (by rw[List.length_append,List.length_singleton];omega) (by omega) hL
  |succ d ih =>
   intro t hd1 ht1
   have c1:=choose j t (by omega) (by omega)
   have c2:=choose (p.length-1) t (by omega) (by omega)
   rw[show ((p.length-1:Nat):Int)=(p.length:Int)-1 from by omega] at c2
   have b1:=ht_choQ (n:=(j:Int)) (by omega) t (by omega)
   have b2:=ht_choQ (n:=(p.length:Int)-1) (by omega) t (by omega)
   obtain⟨b3,b4⟩:=ht_term (q:=subL p lo (hi-lo)) (n:=(p.length:Int)-1) (H:=110000) (by omega) hq j t (by omega) (by omega)
   have b5:=ht_berS (q:=subL p lo (hi-lo)) (n:=(p.length:Int)-1) (H:=110000) (by omega) hq j (by omega) t (by omega)
   have b6:t*(110000+271)≤65*(110000+271):=Nat.mul_le_mul_right _ (by omega)
   have b7:=hq t
   have hpos:=choQ_pos (n:=(p.length:Int)-1) t (by omega)
   have hdv:=QF.Div (choQ (j:Int) t) (choQ ((p.length:Int)-1) t) (by omega) (by omega) (by grind)
   have hml:=QF.Mul (choQ (j:Int) t/choQ ((p.length:Int)-1) t) (coef (subL p lo (hi-lo)) t) (by omega) (by omega)
   have had:=QF.Add (berS (subL p lo (hi-lo)) ((p.length:Int)-1) j t) _ (by omega) (Nat.le_trans b4 (by omega))
   exact positive_bernstein.l20 _ _ site j j _ t _ _ _ _ _ _ _ (by rw[ln];omega) c1 c2 hdv (getM (coef_get (by omega))) hml had (by omega) (ih (t+1) (by omega) (by omega))
 have outer:∀d j:Nat,p.length-j=d→j≤p.length→positive_bernstein.Loop1 ((subL p lo (hi-lo)).map mkR) ((p.length:Int)-1) ((tabL j (fun j=>berS (subL p lo (hi-lo)) ((p.length:Int)-1) j (j+1))).map mkR) j (.tup [pq (bernQ p lo (hi-lo)),.nilI]):=by
  intro d
  induction d with
  |zero =>
   intro j hd1 hj
   have:j=p.length:=by omega
   subst this
   exact positive_bernstein.l11 _ _ _ _ (by omega)
  |succ d ih =>
   intro j hd1 hj
   have:=ih (j+1) (by omega) (by omega)
   rw[tabL_succ,List.map_append] at this
   exact positive_bernstein.l10 _ _ _ j (by omega) (by omega) (inner j _ _ (by omega) (by rw[lenM,tabL_len];omega) this _ 0 rfl (by omega))
 exact positive_bernstein.e1 _ (mkG lo hi) _ _ _ _ (by rw[lenM];exact h0) hw ht hc hd (by unfold InI64;omega) (outer _ 0 rfl (by omega))
theorem clear{p:List Rat}{lo hi:Rat}(pc:Piece p lo hi):Contract prg 98 [pq p,(mkG lo hi).pv] (.tup [vB (clearB (bernQ p lo (hi-lo))),.nilI]):=by
 have hb:=bernstein pc
 have hf:=fl_bern pc
 have hl:=bern_len p lo (hi-lo)
 have hpl:=pc.len
 generalize bernQ p lo (hi-lo)=b at hb hf hl
 by_cases h0:b.length=0
 ·have:b=[]:=List.eq_nil_of_length_eq_zero h0
  subst this
  exact positive_clear.e0 _ _ _ hb rfl
 have ht:∀i,ht (coef b i)≤1000000:=fun i=>fl_coef hf (by omega) i
 have loop:∀d t:Nat,b.length-t=d→t≤b.length→positive_clear.Loop1 (b.map mkR) t (.tup [vB ((b.drop t).all (fun x=>decide (0≤x))&&(decide (0<coef b 0)&&decide (0<coef b (b.length-1)))),.nilI]):=by
  intro d
  induction d with
  |zero =>
   intro t hd1 ht1
   rw[List.drop_of_length_le (by omega),List.all_nil,Bool.true_and]
   have s1:=QF.Sign (coef b 0) (Nat.le_trans (ht 0) (by omega))
   have s2:=QF.Sign (coef b (b.length-1)) (Nat.le_trans (ht _) (by omega))
   by_cases hp:0<coef b 0
   ·rw[decide_eq_true hp,Bool.true_and]
    have:=positive_clear.l12 (b.map mkR) t _ _ (b.length-1) _ _ (by rw[lenM];omega) (getM (coef_get (by omega))) s1 (cmpR_gt.2 hp) (by rw[lenM];unfold InI64;omega) (by rw[lenM];omega) (getM (coef_get (by omega))) s2
    rwa[show decide (cmpR (coef b (b.length-1)) 0>0)=decide (0<coef b (b.length-1)) from by congr 1;exact propext cmpR_gt] at this
   ·rw[decide_eq_false hp,Bool.false_and]
    exact positive_clear.l13 (b.map mkR) t _ _ (by rw[lenM];omega) (getM (coef_get (by omega))) s1 (cmpR_le.2 (by grind))
  |succ d ih =>
   intro t hd1 ht1
   have hg:=coef_get (p:=b) (i:=t) (by omega)
   have s1:=QF.Sign (coef b t) (Nat.le_trans (ht t) (by omega))
   rw[drop_cons hg,List.all_cons]
   by_cases hp:0≤coef b t
   ·rw[decide_eq_true hp,Bool.true_and]
    exact positive_clear.l11 (b.map mkR) t _ _ (by rw[lenM];omega) (getM hg) s1 (cmpR_ge.2 hp) (by omega) (ih (t+1) (by omega) (by omega))
   ·rw[decide_eq_false hp,Bool.false_and,Bool.false_and]
    exact positive_clear.l10 (b.map mkR) t _ _ (by rw[lenM];omega) (getM hg) s1 (cmpR_lt.2 (by grind))
 have:=positive_clear.e1 _ _ _ hb (by rw[lenM];exact h0) (loop _ 0 rfl (by omega))
 rwa[List.drop_zero] at this
theorem check(p:List ARat)(r:ARange)(hp:FitP 274877906944 p)(hr:FitG 68719476736 r):Contract prg 75 [polyPV p,r.pv] (errPV (errOf (err31 p r))):=by
 have hk:=CPo.Check p hp
 have hv:=CIv.Valid r hr
 unfold err31
 by_cases h:chk p=0
 ·rw[if_pos h]
  rw[h] at hk
  by_cases h0:r.ok=true
  ·rw[if_pos h0];exact positive_check.e1 p r _ hk hv h0
  ·rw[if_neg h0];exact positive_check.e0 p r _ hk hv (by simpa using h0)
 ·rw[if_neg h]
  rw[errOf_ne h] at hk ⊢
  exact positive_check.e2 p r _ hk
theorem EvalQ(p:List Rat)(x:Rat)(hz:lastZ p=false)(hl:p.length≤65){k:Nat}(hf:Fl k p)(hx:ht x≤k)(hk:k≤1073741824):Contract prg 27 [pq p,(mkR x).pv] (.tup [(mkR (evalL p x)).pv,.nilI]):=by
 have:=CPo.Eval (p.map mkR) (mkR x) (chk_map hz hl) (fit_mapk (fl_mono hf hk)) (fit_mkRk (Nat.le_trans hx hk))
 rwa[vals_mkR,mkR_val] at this
theorem decide'{h L:Nat}{p:List Rat}(f:p=[]∨Fine h L p){lo hi:Rat}{k:Nat}(hf:Fl k p)(hk:k≤1048576)(hk1:1≤k)(hlh:lo≤hi)(h1:ht lo≤k)(h2:ht hi≤k):Contract prg 77 [pq p,(mkG lo hi).pv] (.tup [vB (posR p lo hi),.nilI]):=by
 have hl:p.length≤10:=by
  rcases f with rfl|f
  ·simp
  ·have:=f.len;have:=f.hL;omega
 have hz:lastZ p=false:=by
  rcases f with rfl|f
  ·rfl
  ·exact f.zp
 have he:=EvalQ p lo hz (by omega) hf h1 (by omega)
 have hv:=ht_eval p lo k hf h1
 have h4:p.length*(2*k+1)≤10*(2*k+1):=Nat.mul_le_mul_right _ hl
 have hs:=QF.Sign (evalL p lo) (by omega)
 unfold posR
 by_cases h0:0<evalL p lo
 ·rw[decide_eq_true h0,Bool.true_and]
  rcases f with rfl|f
  ·exact absurd h0 Rat.lt_irrefl
  ·exact positive_decide.e1 _ (mkG lo hi) _ _ _ none he hs (cmpR_gt.2 h0) (CSt.Count f lo hi hlh (by omega) (by omega))
 ·rw[decide_eq_false h0,Bool.false_and]
  exact positive_decide.e0 _ (mkG lo hi) _ _ he hs (cmpR_le.2 (by grind))
theorem Bound{k:Nat}{p:List Rat}(hz:lastZ p=false)(h0:p≠[])(hl:p.length≤65)(hf:Fl k p)(hk:k≤1048576):Contract prg 160 [pq p] (.tup [(mkR (bndQ k p)).pv,.nilI]):=by
 have hpos:=List.length_pos_iff.2 h0
 have hck:=CSt.check (p.map mkR) (fitQ hf (by omega))
 rw[chk_map hz hl,if_pos rfl,if_neg (by rw[lenM];omega)] at hck
 have htop:ht (topL p)≤k:=hf _ (List.mem_of_getElem? (coef_get (by omega)))
 have htn:=top_ne hz h0
 have inner:∀(t:Nat) (c:Rat) (r:PV) (out':Rat),p[t]? = some c→∀(f j:Nat),fuelB k≤j+f→j≤fuelB k→out'=dblF f (pow2 j) (1+absR (c/topL p))→sturm_Bound.Loop1 (p.map mkR) (t+1) (mkR out') r→sturm_Bound.Loop2 (p.map mkR) t (mkR (pow2 j)) (mkR (c/topL p)) r:=by
  intro t c r out' hc f
  have htl:=(List.getElem?_eq_some_iff.1 hc).1
  obtain⟨b1,b2,b3⟩:=bnd_term (hf c (List.mem_of_getElem? hc)) htop
  have ho:=CFr.Of 1 (by unfold InI64;omega)
  have ha:=QF.Abs (c/topL p) (by omega)
  have hd:=QF.Add ((1:Int):Rat) (absR (c/topL p)) (by decide) (by rw[ht_abs];omega)
  induction f with
  |zero =>
   intro j h1 h2 h3 hL
   have hp2:=ht_pow2 (k:=j) (n:=2*k+4) (by unfold fuelB at h2;omega)
   have hcmp:=QF.Cmp (pow2 j) (1+absR (c/topL p)) (by omega) (by omega)
   rw[h3] at hL
   exact sturm_Bound.l21 _ t _ _ _ _ _ _ ho ha hd hcmp (cmpR_ge.2 (Rat.le_trans b1 (pow2_mono (by omega)))) (by omega) hL
  |succ f ih =>
   intro j h1 h2 h3 hL
   have hp2:=ht_pow2 (k:=j) (n:=2*k+4) (by unfold fuelB at h2;omega)
   have hcmp:=QF.Cmp (pow2 j) (1+absR (c/topL p)) (by omega) (by omega)
   rw[dblF] at h3
   by_cases hlt:pow2 j<1+absR (c/topL p)
   ·rw[decide_eq_true hlt,cond_true,pow2_add] at h3
    have had:=QF.Add (pow2 j) (pow2 j) (by omega) (by omega)
    rw[pow2_add] at had
    have hj:j<fuelB k:=by
     rcases Nat.lt_or_ge j (fuelB k) with h|h
     ·exact h
     ·have:=pow2_mono h;grind
    exact sturm_Bound.l20 _ t _ _ _ _ _ _ _ ho ha hd hcmp (cmpR_lt.2 hlt) had (ih (j+1) (by omega) (by omega) h3 hL)
   ·rw[decide_eq_false hlt,cond_false] at h3
    rw[h3] at hL
    exact sturm_Bound.l21 _ t _ _ _ _ _ _ ho ha hd hcmp (cmpR_ge.2 (by grind)) (by omega) hL
 have outer:∀d t j:Nat,p.length-t=d→t≤p.length→j≤fuelB k→sturm_Bound.Loop1 (p.map mkR) t (mkR (pow2 j)) (.tup [(mkR (bndF (fuelB k) (topL p) (p.drop t) (pow2 j))).pv,.nilI]):=by
  intro d
  induction d with
  |zero =>
   intro t j h1 h2 h3
   rw[List.drop_of_length_le (by omega)]
   exact sturm_Bound.l12 _ t _ (by rw[lenM];omega)
  |succ d ih =>
   intro t j h1 h2 h3
   have hg:=coef_get (p:=p) (i:=t) (by omega)
   obtain⟨b1,b2,b3⟩:=bnd_term (hf _ (List.mem_of_getElem? hg)) htop
   obtain⟨j1,e1,e2,e3,e4⟩:=dblF_spec b1 (fuelB k) j (by omega)
   rw[drop_cons hg,bndF]
   have hdv:=QF.Div (coef p t) (topL p) (Nat.le_trans (hf _ (List.mem_of_getElem? hg)) (by omega)) (by omega) htn
   refine sturm_Bound.l10 _ t _ _ (p.length-1) _ _ (by rw[lenM];omega) (getM hg) (by rw[lenM];unfold InI64;omega) (by rw[lenM];omega) (getM (coef_get (by omega))) hdv ?_
   refine inner t _ _ _ hg (fuelB k) j (by omega) h3 rfl ?_
   rw[e1]
   exact ih (t+1) j1 (by omega) (by omega) (by omega)
 have:=outer _ 0 0 rfl (by omega) (by omega)
 rw[List.drop_zero] at this
 exact sturm_Bound.e0 _ _ hck (CFr.Of 1 (by unfold InI64;omega)) this
theorem bnd_ht{k:Nat}{p:List Rat}(h0:p≠[])(hf:Fl k p):0≤bndQ k p∧ht (bndQ k p)≤2*k+4:=by
 have hpos:=List.length_pos_iff.2 h0
 have htop:ht (topL p)≤k:=hf _ (List.mem_of_getElem? (coef_get (by omega)))
 obtain⟨j,e1,e2,e3,e4⟩:=bndF_spec htop p 0 hf (Nat.zero_le _)
 unfold bndQ
 rw[e1]
 refine⟨?_,ht_pow2 (by unfold fuelB at e3;omega)⟩
 exact Rat.le_trans (b:=pow2 0) (by decide) (pow2_mono (Nat.zero_le _))
theorem All{h L k:Nat}{p:List Rat}(f:Fine h L p)(hf:Fl k p)(hk:k≤1048576):Contract prg 79 [pq p] (.tup [vI (allR p (bndQ k p)),.nilI]):=by
 have hl:=f.len
 have hL:=f.hL
 obtain⟨b1,b2⟩:=bnd_ht f.ne hf
 have hb:=Bound f.zp f.ne (by omega) hf hk
 have hn:=QF.Neg (bndQ k p) (by omega)
 have hng:=ht_neg (bndQ k p)
 exact sturm_All.e0 _ _ _ _ none hb hn (CSt.Count f (-bndQ k p) (bndQ k p) (by grind) (by omega) (by omega))
theorem Everywhere{h L k:Nat}{p:List Rat}(f:p=[]∨Fine h L p)(hf:Fl k p)(hk:k≤1048576)(hk1:1≤k):Contract prg 20 [pq p] (.tup [vB (everyB k p),.nilI]):=by
 have hl:p.length≤10:=by
  rcases f with rfl|f
  ·simp
  ·have:=f.len;have:=f.hL;omega
 have hz:lastZ p=false:=by
  rcases f with rfl|f
  ·rfl
  ·exact f.zp
 have hck:=CPo.Check (p.map mkR) (fitQ hf (by omega))
 rw[chk_map hz (by omega)] at hck
 have h0':ht (0:Rat)≤k:=by rw[ht_zero];exact hk1
 have he:=EvalQ p 0 hz (by omega) hf h0' (by omega)
 have hv:=ht_eval p 0 k hf h0'
 have h4:p.length*(2*k+1)≤10*(2*k+1):=Nat.mul_le_mul_right _ hl
 have hs:=QF.Sign (evalL p 0) (by omega)
 unfold everyB
 by_cases h0:0<evalL p 0
 ·rw[decide_eq_true h0,Bool.true_and]
  rcases f with rfl|f
  ·exact absurd h0 Rat.lt_irrefl
  ·exact positive_Everywhere.e1 _ _ _ _ none hck he hs (cmpR_gt.2 h0) (All f hf hk)
 ·rw[decide_eq_false h0,Bool.false_and]
  exact positive_Everywhere.e0 _ _ _ hck he hs (cmpR_le.2 (by grind))
end CPs
end Go.Proofs.YtbgkjomonebfcaaGreat.Sym
namespace Go.Proofs.YtbgkjomonebfcaaGreat.Sym
open Go Path CInt
set_option linter.unusedVariables false
def ptQ(a w:Rat)(k j:Nat):Rat:=a+w*Rat.divInt (j:Int) ((2^k:Nat):Int)
def cutQ(p:List Rat)(a w:Rat):Nat→Nat→Nat→Option (List Rat)
 |d,k,j=>bif clearB (bernQ p (ptQ a w k j) (ptQ a w k (j+1)-ptQ a w k j)) then some [] else match d with
  |0=>none
  |d+1=>match cutQ p a w d (k+1) (2*j) with
   |none=>none
   |some l=>match cutQ p a w d (k+1) (2*j+1) with
    |none=>none
    |some m=>some (l++ptQ a w (k+1) (2*j+1)::m)
theorem two_ne(k:Nat):(((2^k:Nat):Int):Rat)≠0:=fun e=>by
 have:=Rat.intCast_inj.1 (show (((2^k:Nat):Int):Rat)=((0:Int):Rat) from e)
 have:=Nat.pow_pos (n:=k) (show 0<2 by omega)
 omega
theorem pt_even(a w:Rat)(k j:Nat):ptQ a w (k+1) (2*j)=ptQ a w k j:=by
 unfold ptQ
 congr 2
 have h:=two_ne k
 have h2:=two_ne (k+1)
 rw[Rat.divInt_eq_div,Rat.divInt_eq_div,Rat.div_def,Rat.div_def]
 have e:(((2^(k+1):Nat):Int):Rat)=(((2^k:Nat):Int):Rat)*2:=by
  rw[show (2:Rat)=((2:Int):Rat) from rfl,←Rat.intCast_mul];congr 1
 have e2:((2*j:Nat):Int)=(j:Int)*2:=by omega
 rw[e,e2,Rat.intCast_mul,show(((2:Int)):Rat)=2 from rfl,Rat.inv_mul_rev]
 have i2:(2:Rat)*2⁻¹=1:=by decide +kernel
 generalize ((((2^k:Nat):Int):Rat))⁻¹=u
 generalize ((j:Int):Rat)=v
 have:v*2*(2⁻¹*u)=v*(2*2⁻¹)*u:=by grind
 rw[this,i2];grind
theorem pt_odd(a w:Rat)(k j:Nat):Rat.divInt 1 2*(ptQ a w k j+ptQ a w k (j+1))=ptQ a w (k+1) (2*j+1):=by
 rw[←pt_even a w k j,←pt_even a w k (j+1)]
 unfold ptQ
 rw[Rat.divInt_eq_div,Rat.divInt_eq_div,Rat.divInt_eq_div,Rat.divInt_eq_div,Rat.div_def,Rat.div_def,Rat.div_def,Rat.div_def]
 generalize ((((2^(k+1):Nat):Int):Rat))⁻¹=u
 have e1:((2*j:Nat):Int)=2*(j:Int):=by omega
 have e2:((2*(j+1):Nat):Int)=2*(j:Int)+2:=by omega
 have e3:((2*j+1:Nat):Int)=2*(j:Int)+1:=by omega
 rw[e1,e2,e3,Rat.intCast_add,Rat.intCast_add,Rat.intCast_mul]
 generalize ((j:Int):Rat)=v
 have i2:((1:Int):Rat)*(((2:Int):Rat))⁻¹=1/2:=by decide +kernel
 rw[i2,show((2:Int):Rat)=2 from rfl,show((1:Int):Rat)=1 from rfl]
 grind
structure Base (p:List Rat) (a w:Rat):Prop where
 zp:lastZ p=false
 len:p.length≤9
 fl:Fl 40 p
 ha:ht a≤10
 hw:ht w≤20
 w0:0≤w
theorem pt_ht{p:List Rat}{a w:Rat}(b:Base p a w){k j:Nat}(hk:k≤10)(hj:j≤2^k):ht (ptQ a w k j)≤33:=by
 have h1:=b.ha
 have h2:=b.hw
 have h3:=ht_divInt (j:Int) ((2^k:Nat):Int)
 have h5:2^k≤2^10:=Nat.pow_le_pow_right (by omega) hk
 have h6:wl (j:Int)≤1:=wl_le (by omega)
 have h7:wl ((2^k:Nat):Int)≤1:=wl_le (by omega)
 have h8:=ht_mul w (Rat.divInt (j:Int) ((2^k:Nat):Int))
 have h9:=ht_add a (w*Rat.divInt (j:Int) ((2^k:Nat):Int))
 unfold ptQ
 omega
theorem pt_le{w:Rat}(a:Rat)(h:0≤w)(k j:Nat):ptQ a w k j≤ptQ a w k (j+1):=by
 unfold ptQ
 have h2:Rat.divInt (j:Int) ((2^k:Nat):Int)≤Rat.divInt ((j+1:Nat):Int) ((2^k:Nat):Int):=by
  rw[Rat.divInt_eq_div,Rat.divInt_eq_div,Rat.div_def,Rat.div_def]
  refine Rat.mul_le_mul_of_nonneg_right (Rat.intCast_le_intCast.2 (by omega)) (Rat.le_of_lt (Rat.inv_pos.2 ?_))
  have:=Nat.pow_pos (n:=k) (show 0<2 by omega)
  exact Rat.intCast_lt_intCast.2 (show (0:Int)<_ by omega)
 have:=Rat.mul_le_mul_of_nonneg_left h2 h
 grind
theorem pt_piece{p:List Rat}{a w:Rat}(b:Base p a w){k j:Nat}(hk:k≤10)(hj:j<2^k):Piece p (ptQ a w k j) (ptQ a w k (j+1)):=by
 have h1:=pt_ht b hk (show j≤2^k by omega)
 have h2:=pt_ht b hk (show j+1≤2^k by omega)
 exact⟨b.zp,b.len,b.fl,by omega,by omega,pt_le a b.w0 k j⟩
theorem cutQ_len{p:List Rat}{a w:Rat} : ∀(d k j:Nat) (l:List Rat),cutQ p a w d k j=some l→l.length+1≤2^d
 |d,k,j,l,h=>by
  unfold cutQ at h
  cases hc:clearB (bernQ p (ptQ a w k j) (ptQ a w k (j+1)-ptQ a w k j)) with
  |true =>
   rw[hc,cond_true] at h
   injection h with h;subst h
   exact Nat.pow_pos (by omega)
  |false =>
   rw[hc,cond_false] at h
   match d,h with
   |d+1,h =>
    simp only at h
    cases h1:cutQ p a w d (k+1) (2*j) with
    |none=>rw[h1] at h;cases h
    |some l1 =>
     cases h2:cutQ p a w d (k+1) (2*j+1) with
     |none=>rw[h1,h2] at h;cases h
     |some l2 =>
      rw[h1,h2] at h
      injection h with h;subst h
      have:=cutQ_len d _ _ _ h1
      have:=cutQ_len d _ _ _ h2
      rw[List.length_append,List.length_cons,Nat.pow_succ]
      omega
namespace CPc
theorem Mid(lo hi:Rat)(h1:ht lo≤1000)(h2:ht hi≤1000)(hle:lo≤hi):Contract prg 183 [(mkG lo hi).pv] (mkR (Rat.divInt 1 2*(lo+hi))).pv:=by
 have hc:=CIv.clean (mkG lo hi) (fit_mkG (Nat.le_trans h1 (by omega)) (Nat.le_trans h2 (by omega)))
 rw[loG_mk hle,hiG_mk hle] at hc
 have hh:=interval_half.e0 _ none (QF.Make 1 2 (by unfold InI64;omega) (by unfold InI64;omega) (by omega))
 have h3:=ht_add lo hi
 have h4:ht (Rat.divInt 1 2)≤1:=by decide
 exact interval_Mid.e0 _ (mkG lo hi) _ _ _ hc hh (QF.Add lo hi (by omega) (by omega)) (QF.Mul _ _ (by omega) (by omega))
def cutZ(out:List ARat):Option (List Rat)→List ARat
 |some l=>out++l.map mkR
 |none=>[]
def cutE:Option (List Rat)→Option Int
 |some _=>none
 |none=>some 15
theorem cutG{p:List Rat}{a w:Rat}(b:Base p a w):∀(d k j:Nat) (out:List ARat),k+d≤9→j<2^k→out.length+2^d≤1000000 →
  ContractX prg 101 [(.row 200000 0 out.length 3),(.pv (pq p)),(.pv (mkG (ptQ a w k j) (ptQ a w k (j+1))).pv),(eI (d:Int))] [(200000,(.pure ((out:List ARat).map ARat.cells).flatten))] (.rowT 0 0 (cutZ out (cutQ p a w d k j)).length 3 [errPV (cutE (cutQ p a w d k j))]) [(0,(.pure ((cutZ out (cutQ p a w d k j):List ARat).map ARat.cells).flatten))]
 |d,k,j,out,hkd,hj,hlen=>by
  have pc:=pt_piece b (k:=k) (by omega) hj
  have hcl:=CPs.clear pc
  unfold cutQ
  cases hc:clearB (bernQ p (ptQ a w k j) (ptQ a w k (j+1)-ptQ a w k j)) with
  |true =>
   rw[hc] at hcl
   have:=positive_cutG.e0 out _ (mkG (ptQ a w k j) (ptQ a w k (j+1))) (d:Int) _ hcl rfl
   rw[cond_true]
   show ContractX prg _ _ _ (.rowT 0 0 (out++[].map mkR).length 3 [errPV none]) [(0,.pure (((out++[].map mkR:List ARat)).map ARat.cells).flatten)]
   rw[List.map_nil,List.append_nil]
   exact this
  |false =>
   rw[hc] at hcl
   rw[cond_false]
   match d with
   |0=>exact positive_cutG.e1 out _ (mkG (ptQ a w k j) (ptQ a w k (j+1))) _ _ hcl rfl rfl
   |d+1 =>
    have hj1:2*j<2^(k+1):=by rw[Nat.pow_succ];omega
    have hj2:2*j+1<2^(k+1):=by rw[Nat.pow_succ];omega
    have hp2:2^(d+1)=2^d+2^d:=by rw[Nat.pow_succ];omega
    have hpd:=Nat.pow_pos (n:=d) (show 0<2 by omega)
    have hm:=Mid (ptQ a w k j) (ptQ a w k (j+1)) (by have:=pc.hlo;omega) (by have:=pc.hhi;omega) pc.le
    rw[pt_odd] at hm
    have i1:=cutG b d (k+1) (2*j) out (by omega) hj1 (by omega)
    rw[pt_even] at i1
    have hd:((d+1:Nat):Int)≠0:=by omega
    have hI:InI64 (((d+1:Nat):Int)-1):=by
     have:d≤9:=by omega
     unfold InI64;omega
    have e1:((d+1:Nat):Int)-1=(d:Int):=by omega
    simp only
    cases h1:cutQ p a w d (k+1) (2*j) with
    |none =>
     rw[h1] at i1
     exact positive_cutG.e3 out _ (mkG (ptQ a w k j) (ptQ a w k (j+1))) _ _ _ [] 15 hcl rfl hd hm hI (by rw[e1];exact i1)
    |some l =>
     rw[h1] at i1
     have hl:=cutQ_len _ _ _ _ h1
     have i2:=cutG b d (k+1) (2*j+1) (out++l.map mkR++[mkR (ptQ a w (k+1) (2*j+1))]) (by omega) hj2 (by
      rw[List.length_append,List.length_append,lenM,List.length_singleton];omega)
     rw[show 2*j+1+1=2*(j+1) from by omega,pt_even] at i2
     have:=positive_cutG.e2 out _ (mkG (ptQ a w k j) (ptQ a w k (j+1))) _ _ _ (out++l.map mkR) _ _ hcl rfl hd hm hI (by rw[e1];exact i1) (by rw[List.length_append,List.length_append,lenM,List.length_singleton];omega) (by rw[e1];exact i2)
     cases h2:cutQ p a w d (k+1) (2*j+1) with
     |none=>rw[h2] at this;exact this
     |some m =>
      rw[h2] at this
      have e:cutZ (out++l.map mkR++[mkR (ptQ a w (k+1) (2*j+1))]) (some m)=cutZ out (some (l++ptQ a w (k+1) (2*j+1)::m)):=by
       show out++l.map mkR++[mkR _]++m.map mkR=out++(l++_::m).map mkR
       simp
      rw[e] at this
      exact this
theorem cutN{p:List Rat}{a w:Rat}(b:Base p a w)(d k j:Nat)(hkd:k+d≤9)(hj:j<2^k) :
  ContractX prg 101 [(.pv .nilS),(.pv (pq p)),(.pv (mkG (ptQ a w k j) (ptQ a w k (j+1))).pv),(eI (d:Int))] [] (.rowT 0 0 (cutZ [] (cutQ p a w d k j)).length 3 [errPV (cutE (cutQ p a w d k j))]) [(0,(.pure ((cutZ [] (cutQ p a w d k j):List ARat).map ARat.cells).flatten))]:=by
 have pc:=pt_piece b (k:=k) (by omega) hj
 have hcl:=CPs.clear pc
 unfold cutQ
 cases hc:clearB (bernQ p (ptQ a w k j) (ptQ a w k (j+1)-ptQ a w k j)) with
 |true =>
  rw[hc] at hcl
  exact positive_cutN.e0 _ (mkG (ptQ a w k j) (ptQ a w k (j+1))) (d:Int) _ hcl rfl
 |false =>
  rw[hc] at hcl
  rw[cond_false]
  match d,hkd with
  |0,_=>exact positive_cutN.e1 _ (mkG (ptQ a w k j) (ptQ a w k (j+1))) _ _ hcl rfl rfl
  |d+1,hkd =>
   have hj1:2*j<2^(k+1):=by rw[Nat.pow_succ];omega
   have hj2:2*j+1<2^(k+1):=by rw[Nat.pow_succ];omega
   have hp9:2^d≤2^9:=Nat.pow_le_pow_right (by omega) (by omega)
   have hm:=Mid (ptQ a w k j) (ptQ a w k (j+1)) (by have:=pc.hlo;omega) (by have:=pc.hhi;omega) pc.le
   rw[pt_odd] at hm
   have i1:=cutG b d (k+1) (2*j) [] (by omega) hj1 (by simp;omega)
   rw[pt_even] at i1
   have hd:((d+1:Nat):Int)≠0:=by omega
   have hI:InI64 (((d+1:Nat):Int)-1):=by
    have:d≤9:=by omega
    unfold InI64;omega
   have e1:((d+1:Nat):Int)-1=(d:Int):=by omega
   simp only
   cases h1:cutQ p a w d (k+1) (2*j) with
   |none =>
    rw[h1] at i1
    exact positive_cutN.e3 _ (mkG (ptQ a w k j) (ptQ a w k (j+1))) _ _ _ [] 15 hcl rfl hd hm hI (by rw[e1];exact i1)
   |some l =>
    rw[h1] at i1
    have hl:=cutQ_len _ _ _ _ h1
    have i2:=cutG b d (k+1) (2*j+1) (l.map mkR++[mkR (ptQ a w (k+1) (2*j+1))]) (by omega) hj2 (by
     rw[List.length_append,lenM,List.length_singleton];omega)
    rw[show 2*j+1+1=2*(j+1) from by omega,pt_even] at i2
    have:=positive_cutN.e2 _ (mkG (ptQ a w k j) (ptQ a w k (j+1))) _ _ _ (l.map mkR) _ _ hcl rfl hd hm hI (by rw[e1];exact i1) (by rw[List.length_append,lenM,List.length_singleton];omega) (by rw[e1];exact i2)
    cases h2:cutQ p a w d (k+1) (2*j+1) with
    |none=>rw[h2] at this;exact this
    |some m =>
     rw[h2] at this
     have e:cutZ (l.map mkR++[mkR (ptQ a w (k+1) (2*j+1))]) (some m)=cutZ [] (some (l++ptQ a w (k+1) (2*j+1)::m)):=by
      show l.map mkR++[mkR _]++m.map mkR=[]++(l++_::m).map mkR
      simp
     rw[e] at this
     exact this
end CPc
end Go.Proofs.YtbgkjomonebfcaaGreat.Sym
namespace Go.Proofs.YtbgkjomonebfcaaGreat.Sym
open Go Path CInt
set_option linter.unusedVariables false
namespace CPt
theorem Width(lo hi:Rat)(h1:ht lo≤68719476736)(h2:ht hi≤68719476736)(hle:lo≤hi):Contract prg 89 [(mkG lo hi).pv] (mkR (hi-lo)).pv:=by
 have hc:=CJv.given (mkG lo hi) (fit_mkG h1 h2)
 rw[loG_mk hle,hiG_mk hle] at hc
 exact linkworkref03_Width.e0 _ (mkG lo hi) _ hc (QR.Sub hi lo h2 h1)
theorem Error(p:List ARat)(r:ARange)(hp:FitP 274877906944 p)(hr:FitG 68719476736 r):Contract prg 80 [polyPV p,r.pv] (vI (err31 p r)):=by
 have hk:=CRe.Check p hp
 have hv:=CJv.Valid r hr
 unfold err31
 by_cases h:chk p=0
 ·rw[if_pos h]
  by_cases h0:r.ok=true
  ·rw[if_pos h0];exact linkworkref31_Error.e2 p r _ _ hk h hv h0
  ·rw[if_neg h0];exact linkworkref31_Error.e1 p r _ _ hk h hv (by simpa using h0)
 ·rw[if_neg h];exact linkworkref31_Error.e0 p r _ hk h
end CPt
end Go.Proofs.YtbgkjomonebfcaaGreat.Sym










namespace Go.Proofs.YtbgkjomonebfcaaGreat.Sym
open Go Path CInt
set_option linter.unusedVariables false
namespace CCa
theorem ScaleQ{a d:Nat}(p:List Rat)(c:Rat)(zp:lastZ p=false)(lp:p.length≤65)(hp:Fl a p)(hc:ht c≤d)(ha:1≤a)(hk:a+d+2≤68719476736):Contract prg 72 [pq p,(mkR c).pv] (.tup [pq (trimL (smulL c p)),.nilI]):=by
 have hck:=CPo.Check (p.map mkR) (fitQ hp (by omega))
 rw[chk_map zp lp] at hck
 exact poly_Scale.e0 _ _ _ hck (CPl.plus (a:=1) (d:=d) [] p c (by simp) (by omega) (fun x hx=>by cases hx) hp hc (by omega) ha (by omega))
end CCa
end Go.Proofs.YtbgkjomonebfcaaGreat.Sym
namespace Go.Proofs.YtbgkjomonebfcaaGreat.Sym.Path
open Go
set_option maxRecDepth 20000
set_option linter.unusedVariables false
namespace linkworklaw31_PositiveBetween
@[reducible] noncomputable def fn:Func:=Tryz.f4
noncomputable def atK1:List Itm:=focus [0,2,0,0,2,1,2,0,2,0,2,0,2,0,2,0,0,2,1,2,0,2,0,0,2,0,0] [.code (bodyOf fn)]
def inv1(ber:List ARat)(t_109:Nat)(eva site_15 site_16:ARat):St:=⟨[(9,(.ptr 9 0)),(15,(.ptr 15 0)),(16,(.ptr 16 0)),(107,(.pv (polyPV ber))),(108,(eI (ber.length:Int))),(109,(eI (t_109:Int)))],[(9,(.lit [(eB eva.neg),(.pv (wordsPV eva.num)),(.pv (wordsPV eva.den))])),(15,(.lit [(eB site_15.neg),(.pv (wordsPV site_15.num)),(.pv (wordsPV site_15.den))])),(16,(.lit [(eB site_16.neg),(.pv (wordsPV site_16.num)),(.pv (wordsPV site_16.den))]))]⟩
@[reducible] noncomputable def Loop1(ber:List ARat)(t_109:Nat)(eva site_15 site_16:ARat)(r:PV):Prop:=L prg fn atK1 (inv1 ber t_109 eva site_15 site_16) r
theorem e0(p:List ARat)(rV:ARange)(part:Nat)(val awa:Bool)(h1:Contract prg 26 [(polyPV p),rV.pv] (vB val))(h2:val=false)(h3:Contract prg 17 [] (vB awa)):Contract prg 4 [(polyPV p),rV.pv,(.int .u8 (part:Int))] (vB awa) :=
 Contract.ofL Tryz.func4 (by kernel_rfl) (L.done mixed tabOk (n:=84) (ns:=[1,1,1,1,1,1,1,1]) (tr:=[.reg [],.reg [.none,.none,(.pv (vB val)),.none,.none,.skip,.skip,.skip,(.dec true),.none,.skip,.skip],.auto,.reg [(.pv (vB awa))]]) (cj h1 (cj (bnot_t h2) (cj (bnot_t h2) (cj (bnot_t h2) (cj (bnot_t h2) (cj (Eq.refl true) (cj (Eq.refl true) (cj h3 True.intro)))))))) (by kernel_rfl))
theorem e1(p:List ARat)(rV:ARange)(part:Nat)(val awa:Bool)(h1:Contract prg 26 [(polyPV p),rV.pv] (vB val))(h2:val=true)(h3:p.length=0)(h4:Contract prg 17 [] (vB awa)):Contract prg 4 [(polyPV p),rV.pv,(.int .u8 (part:Int))] (vB awa) :=
 Contract.ofL Tryz.func4 (by kernel_rfl) (L.done mixed tabOk (n:=84) (ns:=[1,1,1,1,1,1,1,1,1,1]) (tr:=[.reg [],.reg [.none,.none,(.pv (vB val)),.none,.none,.none,(iI (p.length:Int)),.none,(.dec false),.none,.skip,.skip,(.dec true)],.auto,.reg [(.pv (vB awa))]]) (cj h1 (cj (bnot_f h2) (cj (bnot_f h2) (cj (o_len ARat.cells p) (cj (bnot_f h2) (cj (bnot_f h2) (cj (deqN_t h3) (cj (deqN_t h3) (cj (deqN_t h3) (cj h4 True.intro)))))))))) (by kernel_rfl))
theorem e3(p:List ARat)(rV:ARange)(part:Nat)(val awa:Bool)(ber:List ARat)(ins eva eva2 eva4 v:ARat)(cmp:Int)(k:Nat)(v1:ARat)(cmp1:Int){r:PV}(h1:Contract prg 26 [(polyPV p),rV.pv] (vB val))(h2:val=true)(h3:p.length≠0)(h4:Contract prg 17 [] (vB awa))(h5:awa=true)(h6:Contract prg 18 [(polyPV p),rV.pv] (.tup [(polyPV ber),.nilI]))(h7:Contract prg 28 [rV.pv,(.int .u8 (part:Int))] ins.pv)(h8:Contract prg 27 [(polyPV p),ins.pv] (.tup [eva.pv,.nilI]))(h9:Contract prg 27 [(polyPV p),rV.lo.pv] (.tup [eva2.pv,.nilI]))(h10:Contract prg 27 [(polyPV p),rV.hi.pv] (.tup [eva4.pv,.nilI]))(h11:ber.length=p.length)(h12:ber[0]? = some v)(h13:Contract prg 29 [v.pv,eva2.pv] (vI cmp))(h14:cmp=0)(h15:InI64 ((ber.length:Int)-1))(h16:((ber.length:Int)-1)=(k:Int))(h17:ber[k]? = some v1)(h18:Contract prg 29 [v1.pv,eva4.pv] (vI cmp1))(h19:cmp1=0)(hL:Loop1 ber 0 eva v v r):Contract prg 4 [(polyPV p),rV.pv,(.int .u8 (part:Int))] r :=
 Contract.ofL Tryz.func4 (by kernel_rfl) (L.go mixed tabOk (n:=141) (ns:=[1,1,1,1,1,1,1,1,1,1,1,1,1,1,1,1,1,1,1,1,1,1,1,1,1,1,1,1,1,1,1,3,1,1,1,1,1,1,1,1,1,1,1,1,1,3,1,1,1,1,1,1,1,3,3,1]) (tr:=[.reg [],.reg [.none,.none,(.pv (vB val)),.none,.none,.none,(iI (p.length:Int)),.none,(.dec false),.none,(.pv (vB awa)),.none,(.dec false)],.dec false,.reg [.none,.none,(.pv (.tup [(polyPV ber),.nilI]))],.reg [.none,.none,.none,(.pv ins.pv),(.pv (.tup [eva.pv,.nilI]))],.reg [.none,.none,.none,(.pv (.tup [eva2.pv,.nilI]))],.reg [.none,.none,.none,(.pv (.tup [eva4.pv,.nilI]))],dr 40 0 [.none,.none,.none,.none,.none,.none,.none,.none,.none,.none,.none,.none,.none,.none,.none,.none,(iI (ber.length:Int)),.none,(iI (p.length:Int)),.none,.none,.none,.none,(.row 0 (ARat.cells v)),.none,.none,(.pv (vI cmp)),.none,(.dec false),.none,.none,.none,(iI (ber.length:Int)),(iI ((ber.length:Int)-1)),(.row k (ARat.cells v1)),.none,.none,(.pv (vI cmp1)),.none,(.dec false)],.dec false,dr 9 1 [.none,(.row 0 (ARat.cells v)),.none,.none,(.row 0 (ARat.cells v))],.reg [.none,(iI (ber.length:Int))],.keep [9,15,16,107,108,109],.drop [13,11,4],.ord [9,15,16]]) (cj h1 (cj (bnot_f h2) (cj (bnot_f h2) (cj (o_len ARat.cells p) (cj (bnot_f h2) (cj (bnot_f h2) (cj (deqN_f h3) (cj h4 (cj (deqN_f h3) (cj (deqN_f h3) (cj (bnot_f h5) (cj h6 (cj h7 (cj h8 (cj h9 (cj h10 (cj (Eq.refl false) (cj (Eq.refl false) (cj (Eq.refl false) (cj (Eq.refl false) (cj (Eq.refl false) (cj (Eq.refl false) (cj (Eq.refl false) (cj (Eq.refl false) (cj (o_len ARat.cells ber) (cj (Eq.refl false) (cj (Eq.refl false) (cj (o_len ARat.cells p) (cj (Eq.refl false) (cj (dneN_f h11) (cj (dneN_f h11) (cj (o_at ARat.cells (Eq.refl (0:Int)) h12) (cj (dneN_f h11) (cj (dneN_f h11) (cj (dneN_f h11) (cj h13 (cj (dneN_f h11) (cj (dneN_f h11) (cj (dne_f h14) (cj (dne_f h14) (cj (dne_f h14) (cj (o_len ARat.cells ber) (cj (dne_f h14) (cj (bs_sub h15) (cj (dne_f h14) (cj (o_at ARat.cells h16 h17) (cj (dne_f h14) (cj (dne_f h14) (cj (dne_f h14) (cj h18 (cj (dne_f h14) (cj (dne_f h14) (cj (dne_f h19) (cj (o_at ARat.cells (Eq.refl (0:Int)) h12) (cj (o_at ARat.cells (Eq.refl (0:Int)) h12) (cj (o_len ARat.cells ber) True.intro)))))))))))))))))))))))))))))))))))))))))))))))))))))))) (by kernel_rfl) hL)
theorem l10(ber:List ARat)(t_109:Nat)(eva site_15 site_16 v minV maxV:ARat){r:PV}(h1:t_109<ber.length)(h2:ber[t_109]? = some v)(h3:Contract prg 30 [site_15.pv,v.pv] minV.pv)(h4:Contract prg 31 [site_16.pv,v.pv] maxV.pv)(h5:(t_109+1)<9223372036854775808)(hL:Loop1 ber (t_109+1) eva minV maxV r):Loop1 ber t_109 eva site_15 site_16 r :=
 L.go mixed tabOk (n:=180) (ns:=[1,3,1,1,1]) (tr:=[.auto,.reg [],.dec true,.reg [(.row t_109 (ARat.cells v))],dr 6 2 [.none,.none,(.pv minV.pv),.none,.none,(.pv maxV.pv)],.reg [(iI (((t_109+1):Nat):Int))],.keep [9,15,16,107,108,109],.drop [18]]) (cj (dltN_t h1) (cj (o_at ARat.cells (Eq.refl (((t_109:Nat):Int):Int)) h2) (cj h3 (cj h4 (cj (bs_addN h5) True.intro))))) (by kernel_rfl) hL
theorem l11(ber:List ARat)(t_109:Nat)(eva site_15 site_16:ARat)(cmp cmp1:Int)(h1:ber.length≤t_109)(h2:Contract prg 29 [site_15.pv,eva.pv] (vI cmp))(h3:cmp≤0)(h4:Contract prg 29 [eva.pv,site_16.pv] (vI cmp1)):Loop1 ber t_109 eva site_15 site_16 (vB (decide (cmp1≤0))) :=
 L.done mixed tabOk (n:=174) (ns:=[1,1,1,1,1,1,1,1]) (tr:=[.auto,.reg [],.dec false,.reg [.none,.none,(.pv (vI cmp)),.none,.none,.none,.none,(.pv (vI cmp1)),.none,(.dec true)]]) (cj (dltN_f h1) (cj h2 (cj (dle_t h3) (cj (dle_t h3) (cj (dle_t h3) (cj h4 (cj (dle_t h3) (cj (dle_t h3) True.intro)))))))) (by kernel_rfl)
end linkworklaw31_PositiveBetween
namespace linkworklaw31_short
@[reducible] noncomputable def fn:Func:=Tryz.f15
noncomputable def atK1:List Itm:=focus [0,2,0,0,2,0,0] [.code (bodyOf fn)]
def inv1(l:List (List ARat))(t_9:Nat):St:=⟨[(7,(.pv (lpv (lcell ARat.cells) l))),(8,(eI (l.length:Int))),(9,(eI (t_9:Int)))],[]⟩
@[reducible] noncomputable def Loop1(l:List (List ARat))(t_9:Nat)(r:PV):Prop:=L prg fn atK1 (inv1 l t_9) r
noncomputable def atK2:List Itm:=focus [0,2,0,0,2,0,0,0,0,2,0,0,2,0,0,0,2,0,0,2,1,2,0,2,0,0] [.code (bodyOf fn)]
def inv2(l:List (List ARat))(t_9:Nat)(v:List ARat)(t_18:Nat):St:=⟨[(7,(.pv (lpv (lcell ARat.cells) l))),(8,(eI (l.length:Int))),(9,(eI (t_9:Int))),(16,(.pv (polyPV v))),(17,(eI (v.length:Int))),(18,(eI (t_18:Int)))],[]⟩
@[reducible] noncomputable def Loop2(l:List (List ARat))(t_9:Nat)(v:List ARat)(t_18:Nat)(r:PV):Prop:=L prg fn atK2 (inv2 l t_9 v t_18) r
theorem e0 (l : List (List ARat)) {r : PV}  (hL : Loop1 l 0 r) : Contract prg 15 [(lpv (lcell ARat.cells) l)] r :=
 Contract.ofL Tryz.func15 (by kernel_rfl) (L.go mixed tabOk (n:=81) (ns:=[1]) (tr:=[.reg [],.reg [.none,(iI (l.length:Int))],.keep [7,8,9]]) (cj (o_len (lcell ARat.cells) l) True.intro) (by kernel_rfl) hL)
theorem l10(l:List (List ARat))(t_9:Nat)(v:List ARat)(h1:t_9<l.length)(h2:l[t_9]? = some v)(h3:6<v.length):Loop1 l t_9 (vB false) :=
 L.done mixed tabOk (n:=129) (ns:=[1,3,1,1]) (tr:=[.auto,.reg [],.dec true,.reg [(.row t_9 ((lcell ARat.cells) v))],.reg [.none,(iI (v.length:Int))],.dec true,.reg []]) (cj (dltN_t h1) (cj (o_at (lcell ARat.cells) (Eq.refl (((t_9:Nat):Int):Int)) h2) (cj (o_len ARat.cells v) (cj (dltN_t h3) True.intro)))) (by kernel_rfl)
theorem l11(l:List (List ARat))(t_9:Nat)(v:List ARat){r:PV}(h1:t_9<l.length)(h2:l[t_9]? = some v)(h3:v.length≤6)(hL:Loop2 l t_9 v 0 r):Loop1 l t_9 r :=
 L.go mixed tabOk (n:=138) (ns:=[1,3,1,1,1]) (tr:=[.auto,.reg [],.dec true,.reg [(.row t_9 ((lcell ARat.cells) v))],.reg [.none,(iI (v.length:Int))],.dec false,.reg [.none,(iI (v.length:Int))],.keep [7,8,9,16,17,18]]) (cj (dltN_t h1) (cj (o_at (lcell ARat.cells) (Eq.refl (((t_9:Nat):Int):Int)) h2) (cj (o_len ARat.cells v) (cj (dltN_f h3) (cj (o_len ARat.cells v) True.intro))))) (by kernel_rfl) hL
theorem l12(l:List (List ARat))(t_9:Nat)(h1:l.length≤t_9):Loop1 l t_9 (vB true) :=
 L.done mixed tabOk (n:=114) (ns:=[1]) (tr:=[.auto,.reg [],.dec false,.reg []]) (cj (dltN_f h1) True.intro) (by kernel_rfl)
theorem l20(l:List (List ARat))(t_9:Nat)(v:List ARat)(t_18:Nat)(v1:ARat)(low:Bool)(h1:t_18<v.length)(h2:v[t_18]? = some v1)(h3:Contract prg 69 [v1.pv,(vW (1000:UInt32)),(vW (1000:UInt32))] (vB low))(h4:low=false):Loop2 l t_9 v t_18 (vB false) :=
 L.done mixed tabOk (n:=183) (ns:=[1,3,1,1]) (tr:=[.auto,.reg [],.dec true,.reg [(.row t_18 (ARat.cells v1))],.reg [.none,(.pv (vB low))],.dec true,.reg []]) (cj (dltN_t h1) (cj (o_at ARat.cells (Eq.refl (((t_18:Nat):Int):Int)) h2) (cj h3 (cj (bnot_t h4) True.intro)))) (by kernel_rfl)
theorem l21(l:List (List ARat))(t_9:Nat)(v:List ARat)(t_18:Nat)(v1:ARat)(low:Bool){r:PV}(h1:t_18<v.length)(h2:v[t_18]? = some v1)(h3:Contract prg 69 [v1.pv,(vW (1000:UInt32)),(vW (1000:UInt32))] (vB low))(h4:low=true)(h5:(t_18+1)<9223372036854775808)(hL:Loop2 l t_9 v (t_18+1) r):Loop2 l t_9 v t_18 r :=
 L.go mixed tabOk (n:=186) (ns:=[1,3,1,1,1]) (tr:=[.auto,.reg [],.dec true,.reg [(.row t_18 (ARat.cells v1))],.reg [.none,(.pv (vB low))],.dec false,.reg [(iI (((t_18+1):Nat):Int))],.keep [7,8,9,16,17,18],.drop [6]]) (cj (dltN_t h1) (cj (o_at ARat.cells (Eq.refl (((t_18:Nat):Int):Int)) h2) (cj h3 (cj (bnot_f h4) (cj (bs_addN h5) True.intro))))) (by kernel_rfl) hL
theorem l22(l:List (List ARat))(t_9:Nat)(v:List ARat)(t_18:Nat){r:PV}(h1:v.length≤t_18)(h2:(t_9+1)<9223372036854775808)(hL:Loop1 l (t_9+1) r):Loop2 l t_9 v t_18 r :=
 L.go mixed tabOk (n:=171) (ns:=[1,1]) (tr:=[.auto,.reg [],.dec false,.reg [(iI (((t_9+1):Nat):Int))],.keep [7,8,9]]) (cj (dltN_f h1) (cj (bs_addN h2) True.intro)) (by kernel_rfl) hL
end linkworklaw31_short
namespace linkworklaw31_brief
theorem e0(rV:ARange)(sho:Bool)(h1:Contract prg 15 [(lpv (lcell ARat.cells) [[rV.lo,rV.hi]])] (vB sho)):Contract prg 16 [rV.pv] (vB sho) :=
 Contract.ofL Tryz.func16 (by kernel_rfl) (L.done mixed tabOk (n:=72) (ns:=[3,3,1]) (tr:=[.reg [],.reg [.none,.none,.none,.none,(.slc 0 0 (([rV.lo,rV.hi]:List ARat).map ARat.cells)),(.slc 0 0 (([[rV.lo,rV.hi]]:List (List ARat)).map (lcell ARat.cells))),(.pv (vB sho))]]) (cj (o_bs sz_ARat ([rV.lo,rV.hi]:List ARat)) (cj (o_bs (sz_l ARat.cells) ([[rV.lo,rV.hi]]:List (List ARat))) (cj h1 True.intro))) (by kernel_rfl))
end linkworklaw31_brief
namespace linkworklaw31_awake
theorem e0(of:ARat)(of1 ber of2:List ARat)(of3:ARat)(sca:List ARat)(mak:APosCert)(eve:Bool)(of4:List ARat)(dec:Bool)(of5:List ARat)(sam:Bool)(of6:List ARat)(sam1:Bool)(h1:Contract prg 70 [(vI 2)] of.pv)(h2:Contract prg 71 [(lpv intCell [2,(-2),1])] (polyPV of1))(h3:Contract prg 18 [(polyPV of1),(⟨(⟨false,[],[]⟩:ARat),of⟩:ARange).pv] (.tup [(polyPV ber),.nilI]))(h4:Contract prg 71 [(lpv intCell [5,(-8),4])] (polyPV of2))(h5:Contract prg 73 [(vI 1)] of3.pv)(h6:Contract prg 72 [(polyPV of2),of3.pv] (.tup [(polyPV sca),.nilI]))(h7:Contract prg 37 [(polyPV sca),(⟨(⟨false,[],[]⟩:ARat),of⟩:ARange).pv,(vI 3)] (.tup [mak.pv,.nilI]))(h8:Contract prg 20 [(polyPV sca)] (.tup [(vB eve),.nilI]))(h9:Contract prg 71 [(lpv intCell [(-1),1])] (polyPV of4))(h10:Contract prg 19 [(polyPV of4),(⟨(⟨false,[],[]⟩:ARat),of⟩:ARange).pv] (.tup [(vB dec),.nilI]))(h11:Contract prg 71 [(lpv intCell [2,0,2])] (polyPV of5))(h12:Contract prg 74 [(polyPV ber),(polyPV of5)] (vB sam))(h13:sam=true)(h14:Contract prg 71 [(lpv intCell [1])] (polyPV of6))(h15:Contract prg 74 [(polyPV mak.cuts),(polyPV of6)] (vB sam1))(h16:sam1=true)(h17:eve=true):Contract prg 17 [] (vB (!dec)) :=
 Contract.ofL Tryz.func17 (by kernel_rfl) (L.done mixed tabOk (n:=108) (ns:=[1,3,1,1,3,1,1,1,1,1,3,1,1,1,1,1,1,1,1,1,1,1,1,3,1,1,1,1,1,1,1,3,1,1,1,1,1,1,1,1,1,1]) (tr:=[.reg [],.reg [(.pv of.pv)],dr 8 1 [(.slc 0 0 (([2,(-2),1]:List Int).map intCell)),(.pv (polyPV of1)),.none,(.pv (.tup [(polyPV ber),.nilI]))],.reg [(.slc 0 0 (([5,(-8),4]:List Int).map intCell)),(.pv (polyPV of2)),(.pv of3.pv),(.pv (.tup [(polyPV sca),.nilI]))],.reg [.none,.none,(.pv (.tup [mak.pv,.nilI]))],.reg [.none,(.pv (.tup [(vB eve),.nilI]))],dr 8 1 [(.slc 0 0 (([(-1),1]:List Int).map intCell)),(.pv (polyPV of4)),.none,(.pv (.tup [(vB dec),.nilI]))],dr 38 1 [.none,.none,.none,.none,.none,.none,.none,.none,.none,.none,.none,.none,.none,.none,.none,.none,.none,.none,.none,.none,(.slc 0 0 (([2,0,2]:List Int).map intCell)),(.pv (polyPV of5)),(.pv (vB sam)),.none,.none,.none,.none,(.slc 0 0 (([1]:List Int).map intCell)),(.pv (polyPV of6)),(.pv (vB sam1)),(.dec true),.none,.none,(.dec true),.none,.none,.none,(.dec true)]]) (cj h1 (cj (o_bs sz_int ([2,(-2),1]:List Int)) (cj h2 (cj h3 (cj (o_bs sz_int ([5,(-8),4]:List Int)) (cj h4 (cj h5 (cj h6 (cj h7 (cj h8 (cj (o_bs sz_int ([(-1),1]:List Int)) (cj h9 (cj h10 (cj (Eq.refl true) (cj (Eq.refl true) (cj (Eq.refl true) (cj (Eq.refl true) (cj (Eq.refl true) (cj (Eq.refl true) (cj (Eq.refl true) (cj (Eq.refl true) (cj (Eq.refl true) (cj (Eq.refl true) (cj (o_bs sz_int ([2,0,2]:List Int)) (cj (Eq.refl true) (cj h11 (cj (Eq.refl true) (cj h12 (cj h13 (cj h13 (cj h13 (cj (o_bs sz_int ([1]:List Int)) (cj h13 (cj h14 (cj h13 (cj h15 (cj h13 (cj h16 (cj h16 (cj h17 (cj h17 (cj h17 True.intro)))))))))))))))))))))))))))))))))))))))))) (by kernel_rfl))
end linkworklaw31_awake
namespace linkworklaw31_valid
theorem e0(p:List ARat)(rV:ARange)(sho bri:Bool)(err:Int)(h1:Contract prg 15 [(lpv (lcell ARat.cells) [p])] (vB sho))(h2:sho=true)(h3:Contract prg 16 [rV.pv] (vB bri))(h4:bri=true)(h5:Contract prg 80 [(polyPV p),rV.pv] (vI err)):Contract prg 26 [(polyPV p),rV.pv] (vB (err==0)) :=
 Contract.ofL Tryz.func26 (by kernel_rfl) (L.done mixed tabOk (n:=72) (ns:=[3,1,1,1,1,1,1,1,1,1,1,1]) (tr:=[.reg [],.reg [.none,(.slc 0 0 (([p]:List (List ARat)).map (lcell ARat.cells))),(.pv (vB sho)),.none,.none,(.pv (vB bri)),(.dec true),.none,.none,.none,(.pv (vI err)),.none,(.dec true)]]) (cj (o_bs (sz_l ARat.cells) ([p]:List (List ARat))) (cj h1 (cj h2 (cj h2 (cj h3 (cj h2 (cj h4 (cj h4 (cj h4 (cj h5 (cj h4 (cj h4 True.intro)))))))))))) (by kernel_rfl))
theorem e1(p:List ARat)(rV:ARange)(sho bri:Bool)(h1:Contract prg 15 [(lpv (lcell ARat.cells) [p])] (vB sho))(h2:sho=true)(h3:Contract prg 16 [rV.pv] (vB bri))(h4:bri=false):Contract prg 26 [(polyPV p),rV.pv] (vB false) :=
 Contract.ofL Tryz.func26 (by kernel_rfl) (L.done mixed tabOk (n:=72) (ns:=[3,1,1,1,1,1,1,1,1,1,1]) (tr:=[.reg [],.reg [.none,(.slc 0 0 (([p]:List (List ARat)).map (lcell ARat.cells))),(.pv (vB sho)),.none,.none,(.pv (vB bri)),(.dec true),.none,.skip,.skip,.skip,.skip,(.dec false)]]) (cj (o_bs (sz_l ARat.cells) ([p]:List (List ARat))) (cj h1 (cj h2 (cj h2 (cj h3 (cj h2 (cj h4 (cj h4 (cj h4 (cj h4 (cj h4 True.intro))))))))))) (by kernel_rfl))
theorem e2(p:List ARat)(rV:ARange)(sho:Bool)(h1:Contract prg 15 [(lpv (lcell ARat.cells) [p])] (vB sho))(h2:sho=false):Contract prg 26 [(polyPV p),rV.pv] (vB false) :=
 Contract.ofL Tryz.func26 (by kernel_rfl) (L.done mixed tabOk (n:=72) (ns:=[3,1,1,1,1,1,1,1,1]) (tr:=[.reg [],.reg [.none,(.slc 0 0 (([p]:List (List ARat)).map (lcell ARat.cells))),(.pv (vB sho)),.none,.skip,.skip,(.dec false),.none,.skip,.skip,.skip,.skip]]) (cj (o_bs (sz_l ARat.cells) ([p]:List (List ARat))) (cj h1 (cj h2 (cj h2 (cj h2 (cj (Eq.refl false) (cj (Eq.refl false) (cj (Eq.refl false) (cj (Eq.refl false) True.intro))))))))) (by kernel_rfl))
end linkworklaw31_valid
namespace linkworklaw31_inside
theorem e0(rV:ARange)(part:Nat)(mak:ARat)(mak1:Int)(wid mul add:ARat)(h1:part<9223372036854775808)(h2:Contract prg 86 [(vI (part:Int)),(vI 255)] (.tup [mak.pv,(vI mak1)]))(h3:Contract prg 89 [rV.pv] wid.pv)(h4:Contract prg 88 [mak.pv,wid.pv] mul.pv)(h5:Contract prg 87 [rV.lo.pv,mul.pv] add.pv):Contract prg 28 [rV.pv,(.int .u8 (part:Int))] add.pv :=
 Contract.ofL Tryz.func28 (by kernel_rfl) (L.done mixed tabOk (n:=78) (ns:=[1,1,1,1,1]) (tr:=[.reg [],.reg [.none,(iI (part:Int)),(.pv (.tup [mak.pv,(vI mak1)]))],dr 7 1 [.none,.none,.none,.none,(.pv wid.pv),(.pv mul.pv),(.pv add.pv)]]) (cj (cv_i64N h1) (cj h2 (cj h3 (cj h4 (cj h5 True.intro))))) (by kernel_rfl))
end linkworklaw31_inside
namespace linkworklaw31_low
theorem e0(x:ARat)(num den:UInt32)(h1:x.num.length<2)(h2:x.den.length<2)(h3:x.num.length=0)(h4:x.den.length=0):Contract prg 69 [x.pv,(vW num),(vW den)] (vB true) :=
 Contract.ofL Tryz.func69 (by kernel_rfl) (L.done mixed tabOk (n:=72) (ns:=[1,1,1,1,1,1,1,1,1,1,1,1,1,1,1,1,1,1,1,1,1,1,1,1,1,1,1,1,1,1,1,1,1,1,1,1]) (tr:=[.reg [],.reg [.none,.none,(iI (x.num.length:Int)),.none,.none,.none,.none,(iI (x.den.length:Int)),.none,(.dec true),.none,.none,.none,(iI (x.num.length:Int)),.none,.none,.skip,.skip,.skip,.skip,.skip,.skip,(.dec true),(.dec true),.none,.none,.none,(iI (x.den.length:Int)),.none,.none,.skip,.skip,.skip,.skip,.skip,.skip,(.dec true)]]) (cj (o_len wordPV x.num) (cj (dltN_t h1) (cj (dltN_t h1) (cj (dltN_t h1) (cj (o_len wordPV x.den) (cj (dltN_t h1) (cj (dltN_t h1) (cj (dltN_t h2) (cj (dltN_t h2) (cj (dltN_t h2) (cj (o_len wordPV x.num) (cj (dltN_t h2) (cj (dltN_t h2) (cj (deqN_t h3) (cj (deqN_t h3) (cj (deqN_t h3) (cj (deqN_t h3) (cj (deqN_t h3) (cj (deqN_t h3) (cj (dltN_t h2) (cj (deqN_t h3) (cj (dltN_t h2) (cj (Eq.refl true) (cj (Eq.refl true) (cj (Eq.refl true) (cj (o_len wordPV x.den) (cj (Eq.refl true) (cj (Eq.refl true) (cj (deqN_t h4) (cj (deqN_t h4) (cj (deqN_t h4) (cj (deqN_t h4) (cj (deqN_t h4) (cj (deqN_t h4) (cj (Eq.refl true) (cj (deqN_t h4) True.intro)))))))))))))))))))))))))))))))))))) (by kernel_rfl))
theorem e1(x:ARat)(num den v:UInt32)(h1:x.num.length<2)(h2:x.den.length<2)(h3:x.num.length=0)(h4:x.den.length≠0)(h5:x.den[0]? = some v):Contract prg 69 [x.pv,(vW num),(vW den)] (vB (decide ((v.toNat:Int)≤(den.toNat:Int)))) :=
 Contract.ofL Tryz.func69 (by kernel_rfl) (L.done mixed tabOk (n:=72) (ns:=[1,1,1,1,1,1,1,1,1,1,1,1,1,1,1,1,1,1,1,1,1,1,1,1,1,1,1,1,1,1,1,3,1,1,1,1,1]) (tr:=[.reg [],.reg [.none,.none,(iI (x.num.length:Int)),.none,.none,.none,.none,(iI (x.den.length:Int)),.none,(.dec true),.none,.none,.none,(iI (x.num.length:Int)),.none,.none,.skip,.skip,.skip,.skip,.skip,.skip,(.dec true),(.dec true),.none,.none,.none,(iI (x.den.length:Int)),.none,.none,.none,.none,(.row 0 (wordPV v)),.none,.none,.none,(.dec false)]]) (cj (o_len wordPV x.num) (cj (dltN_t h1) (cj (dltN_t h1) (cj (dltN_t h1) (cj (o_len wordPV x.den) (cj (dltN_t h1) (cj (dltN_t h1) (cj (dltN_t h2) (cj (dltN_t h2) (cj (dltN_t h2) (cj (o_len wordPV x.num) (cj (dltN_t h2) (cj (dltN_t h2) (cj (deqN_t h3) (cj (deqN_t h3) (cj (deqN_t h3) (cj (deqN_t h3) (cj (deqN_t h3) (cj (deqN_t h3) (cj (dltN_t h2) (cj (deqN_t h3) (cj (dltN_t h2) (cj (Eq.refl true) (cj (Eq.refl true) (cj (Eq.refl true) (cj (o_len wordPV x.den) (cj (Eq.refl true) (cj (Eq.refl true) (cj (deqN_f h4) (cj (deqN_f h4) (cj (deqN_f h4) (cj (o_at wordPV (Eq.refl (0:Int)) h5) (cj (deqN_f h4) (cj (deqN_f h4) (cj (deqN_f h4) (cj (Eq.refl true) (cj (deqN_f h4) True.intro))))))))))))))))))))))))))))))))))))) (by kernel_rfl))
theorem e2(x:ARat)(num den v:UInt32)(h1:x.num.length<2)(h2:x.den.length<2)(h3:x.num.length≠0)(h4:x.num[0]? = some v)(h5:v.toNat≤num.toNat)(h6:x.den.length=0):Contract prg 69 [x.pv,(vW num),(vW den)] (vB true) :=
 Contract.ofL Tryz.func69 (by kernel_rfl) (L.done mixed tabOk (n:=72) (ns:=[1,1,1,1,1,1,1,1,1,1,1,1,1,1,1,1,3,1,1,1,1,1,1,1,1,1,1,1,1,1,1,1,1,1,1,1,1,1]) (tr:=[.reg [],.reg [.none,.none,(iI (x.num.length:Int)),.none,.none,.none,.none,(iI (x.den.length:Int)),.none,(.dec true),.none,.none,.none,(iI (x.num.length:Int)),.none,.none,.none,.none,(.row 0 (wordPV v)),.none,.none,.none,(.dec false),(.dec true),.none,.none,.none,(iI (x.den.length:Int)),.none,.none,.skip,.skip,.skip,.skip,.skip,.skip,(.dec true),(.dec true)]]) (cj (o_len wordPV x.num) (cj (dltN_t h1) (cj (dltN_t h1) (cj (dltN_t h1) (cj (o_len wordPV x.den) (cj (dltN_t h1) (cj (dltN_t h1) (cj (dltN_t h2) (cj (dltN_t h2) (cj (dltN_t h2) (cj (o_len wordPV x.num) (cj (dltN_t h2) (cj (dltN_t h2) (cj (deqN_f h3) (cj (deqN_f h3) (cj (deqN_f h3) (cj (o_at wordPV (Eq.refl (0:Int)) h4) (cj (deqN_f h3) (cj (deqN_f h3) (cj (deqN_f h3) (cj (dltN_t h2) (cj (deqN_f h3) (cj (dltN_t h2) (cj (dleN_t h5) (cj (dleN_t h5) (cj (dleN_t h5) (cj (o_len wordPV x.den) (cj (dleN_t h5) (cj (dleN_t h5) (cj (deqN_t h6) (cj (deqN_t h6) (cj (deqN_t h6) (cj (deqN_t h6) (cj (deqN_t h6) (cj (deqN_t h6) (cj (dleN_t h5) (cj (deqN_t h6) (cj (dleN_t h5) True.intro)))))))))))))))))))))))))))))))))))))) (by kernel_rfl))
theorem e3(x:ARat)(num den v v1:UInt32)(h1:x.num.length<2)(h2:x.den.length<2)(h3:x.num.length≠0)(h4:x.num[0]? = some v)(h5:v.toNat≤num.toNat)(h6:x.den.length≠0)(h7:x.den[0]? = some v1):Contract prg 69 [x.pv,(vW num),(vW den)] (vB (decide ((v1.toNat:Int)≤(den.toNat:Int)))) :=
 Contract.ofL Tryz.func69 (by kernel_rfl) (L.done mixed tabOk (n:=72) (ns:=[1,1,1,1,1,1,1,1,1,1,1,1,1,1,1,1,3,1,1,1,1,1,1,1,1,1,1,1,1,1,1,1,3,1,1,1,1,1,1]) (tr:=[.reg [],.reg [.none,.none,(iI (x.num.length:Int)),.none,.none,.none,.none,(iI (x.den.length:Int)),.none,(.dec true),.none,.none,.none,(iI (x.num.length:Int)),.none,.none,.none,.none,(.row 0 (wordPV v)),.none,.none,.none,(.dec false),(.dec true),.none,.none,.none,(iI (x.den.length:Int)),.none,.none,.none,.none,(.row 0 (wordPV v1)),.none,.none,.none,(.dec false),(.dec true)]]) (cj (o_len wordPV x.num) (cj (dltN_t h1) (cj (dltN_t h1) (cj (dltN_t h1) (cj (o_len wordPV x.den) (cj (dltN_t h1) (cj (dltN_t h1) (cj (dltN_t h2) (cj (dltN_t h2) (cj (dltN_t h2) (cj (o_len wordPV x.num) (cj (dltN_t h2) (cj (dltN_t h2) (cj (deqN_f h3) (cj (deqN_f h3) (cj (deqN_f h3) (cj (o_at wordPV (Eq.refl (0:Int)) h4) (cj (deqN_f h3) (cj (deqN_f h3) (cj (deqN_f h3) (cj (dltN_t h2) (cj (deqN_f h3) (cj (dltN_t h2) (cj (dleN_t h5) (cj (dleN_t h5) (cj (dleN_t h5) (cj (o_len wordPV x.den) (cj (dleN_t h5) (cj (dleN_t h5) (cj (deqN_f h6) (cj (deqN_f h6) (cj (deqN_f h6) (cj (o_at wordPV (Eq.refl (0:Int)) h7) (cj (deqN_f h6) (cj (deqN_f h6) (cj (deqN_f h6) (cj (dleN_t h5) (cj (deqN_f h6) (cj (dleN_t h5) True.intro))))))))))))))))))))))))))))))))))))))) (by kernel_rfl))
theorem e4(x:ARat)(num den v:UInt32)(h1:x.num.length<2)(h2:x.den.length<2)(h3:x.num.length≠0)(h4:x.num[0]? = some v)(h5:num.toNat<v.toNat):Contract prg 69 [x.pv,(vW num),(vW den)] (vB false) :=
 Contract.ofL Tryz.func69 (by kernel_rfl) (L.done mixed tabOk (n:=72) (ns:=[1,1,1,1,1,1,1,1,1,1,1,1,1,1,1,1,3,1,1,1,1,1,1,1,1,1,1,1,1,1]) (tr:=[.reg [],.reg [.none,.none,(iI (x.num.length:Int)),.none,.none,.none,.none,(iI (x.den.length:Int)),.none,(.dec true),.none,.none,.none,(iI (x.num.length:Int)),.none,.none,.none,.none,(.row 0 (wordPV v)),.none,.none,.none,(.dec false),(.dec true),.none,.skip,.skip,.skip,.skip,.skip,.skip,.skip,.skip,.skip,.skip,.skip,.skip,(.dec false)]]) (cj (o_len wordPV x.num) (cj (dltN_t h1) (cj (dltN_t h1) (cj (dltN_t h1) (cj (o_len wordPV x.den) (cj (dltN_t h1) (cj (dltN_t h1) (cj (dltN_t h2) (cj (dltN_t h2) (cj (dltN_t h2) (cj (o_len wordPV x.num) (cj (dltN_t h2) (cj (dltN_t h2) (cj (deqN_f h3) (cj (deqN_f h3) (cj (deqN_f h3) (cj (o_at wordPV (Eq.refl (0:Int)) h4) (cj (deqN_f h3) (cj (deqN_f h3) (cj (deqN_f h3) (cj (dltN_t h2) (cj (deqN_f h3) (cj (dltN_t h2) (cj (dleN_f h5) (cj (dleN_f h5) (cj (dleN_f h5) (cj (dleN_f h5) (cj (dleN_f h5) (cj (dleN_f h5) (cj (dleN_f h5) True.intro)))))))))))))))))))))))))))))) (by kernel_rfl))
theorem e5(x:ARat)(num den:UInt32)(h1:x.num.length<2)(h2:2≤x.den.length):Contract prg 69 [x.pv,(vW num),(vW den)] (vB false) :=
 Contract.ofL Tryz.func69 (by kernel_rfl) (L.done mixed tabOk (n:=72) (ns:=[1,1,1,1,1,1,1,1,1,1,1,1,1,1,1,1,1,1,1,1]) (tr:=[.reg [],.reg [.none,.none,(iI (x.num.length:Int)),.none,.none,.none,.none,(iI (x.den.length:Int)),.none,(.dec true),.none,.skip,.skip,.skip,.skip,.skip,.skip,.skip,.skip,.skip,.skip,.skip,.skip,(.dec false),.none,.skip,.skip,.skip,.skip,.skip,.skip,.skip,.skip,.skip,.skip,.skip,.skip]]) (cj (o_len wordPV x.num) (cj (dltN_t h1) (cj (dltN_t h1) (cj (dltN_t h1) (cj (o_len wordPV x.den) (cj (dltN_t h1) (cj (dltN_t h1) (cj (dltN_f h2) (cj (dltN_f h2) (cj (dltN_f h2) (cj (dltN_f h2) (cj (dltN_f h2) (cj (dltN_f h2) (cj (dltN_f h2) (cj (Eq.refl false) (cj (Eq.refl false) (cj (Eq.refl false) (cj (Eq.refl false) (cj (Eq.refl false) (cj (Eq.refl false) True.intro)))))))))))))))))))) (by kernel_rfl))
theorem e6(x:ARat)(num den:UInt32)(h1:2≤x.num.length):Contract prg 69 [x.pv,(vW num),(vW den)] (vB false) :=
 Contract.ofL Tryz.func69 (by kernel_rfl) (L.done mixed tabOk (n:=72) (ns:=[1,1,1,1,1,1,1,1,1,1,1,1,1,1,1,1,1,1]) (tr:=[.reg [],.reg [.none,.none,(iI (x.num.length:Int)),.none,.none,.skip,.skip,.skip,.skip,(.dec false),.none,.skip,.skip,.skip,.skip,.skip,.skip,.skip,.skip,.skip,.skip,.skip,.skip,.none,.none,.skip,.skip,.skip,.skip,.skip,.skip,.skip,.skip,.skip,.skip,.skip,.skip]]) (cj (o_len wordPV x.num) (cj (dltN_f h1) (cj (dltN_f h1) (cj (dltN_f h1) (cj (dltN_f h1) (cj (dltN_f h1) (cj (Eq.refl false) (cj (Eq.refl false) (cj (Eq.refl false) (cj (Eq.refl false) (cj (Eq.refl false) (cj (Eq.refl false) (cj (Eq.refl false) (cj (Eq.refl false) (cj (Eq.refl false) (cj (Eq.refl false) (cj (Eq.refl false) (cj (Eq.refl false) True.intro)))))))))))))))))) (by kernel_rfl))
end linkworklaw31_low
namespace linkworklaw31_of
@[reducible] noncomputable def fn:Func:=Tryz.f71
noncomputable def atK1:List Itm:=focus [0,2,0,2,0,0,2,0,0] [.code (bodyOf fn)]
def inv1(site_16:List ARat)(l:List Int)(t_8:Nat):St:=⟨[(3,(.row 16 0 site_16.length 3)),(6,(.pv (lpv intCell l))),(7,(eI (l.length:Int))),(8,(eI (t_8:Int)))],[(16,(.pure ((site_16:List ARat).map ARat.cells).flatten))]⟩
@[reducible] noncomputable def Loop1(site_16:List ARat)(l:List Int)(t_8:Nat)(r:PV):Prop:=L prg fn atK1 (inv1 site_16 l t_8) r
theorem e0 (l : List Int) {r : PV}  (hL : Loop1 [] l 0 r) : Contract prg 71 [(lpv intCell l)] r :=
 Contract.ofL Tryz.func71 (by kernel_rfl) (L.go mixed tabOk (n:=87) (ns:=[1]) (tr:=[.reg [],.reg [.nil],.adopt 3 16 3,.reg [.none,(iI (l.length:Int))],.keep [3,6,7,8]]) (cj (o_len intCell l) True.intro) (by kernel_rfl) hL)
theorem l10(site_16:List ARat)(l:List Int)(t_8:Nat)(v:Int)(of:ARat){r:PV}(h1:t_8<l.length)(h2:l[t_8]? = some v)(h3:Contract prg 70 [(vI v)] of.pv)(h4:((site_16++[of]):List ARat).length*56≤140737488355328)(h5:(t_8+1)<9223372036854775808)(hL:Loop1 (site_16++[of]) l (t_8+1) r):Loop1 site_16 l t_8 r :=
 L.go mixed tabOk (n:=126) (ns:=[1,3,1,6,1]) (tr:=[.auto,.reg [],.dec true,.reg [(.row t_8 (intCell v))],.reg [.none,.none,(.pv of.pv),.none,(.app ((site_16++[of]):List ARat).length (((site_16++[of]):List ARat).map ARat.cells).flatten)],.reg [(iI (((t_8+1):Nat):Int))],.keep [3,6,7,8],.drop [15]]) (cj (dltN_t h1) (cj (o_at intCell (Eq.refl (((t_8:Nat):Int):Int)) h2) (cj h3 (cj (o_appR sz_ARat (site_16:List ARat) ([of]:List ARat) 56 (Eq.refl (site_16:List ARat).length) (Eq.refl ([of]:List ARat).length) h4 rfl) (cj (bs_addN h5) True.intro))))) (by kernel_rfl) hL
theorem l11(site_16:List ARat)(l:List Int)(t_8:Nat)(h1:l.length≤t_8):Loop1 site_16 l t_8 (polyPV site_16) :=
 L.done mixed tabOk (n:=120) (ns:=[1,3]) (tr:=[.auto,.reg [],.dec false,.reg [],.frzT 2 ((site_16:List ARat).map ARat.cells)]) (cj (dltN_f h1) (cj (o_frz sz_ARat (site_16:List ARat) (Eq.refl (site_16:List ARat).length)) True.intro)) (by kernel_rfl)
end linkworklaw31_of
end Go.Proofs.YtbgkjomonebfcaaGreat.Sym.Path
namespace Go.Proofs.YtbgkjomonebfcaaGreat.Sym
open Go Path CInt
set_option linter.unusedVariables false
namespace C31
theorem of(l:List Int)(h:∀n∈l,InI64 n)(hl:l.length≤1000):Contract prg 71 [lpv intCell l] (pq (l.map (fun n=>((n:Int):Rat)))):=by
 have loop:∀d t:Nat,l.length-t=d→t≤l.length→linkworklaw31_of.Loop1 (((l.take t).map (fun n=>((n:Int):Rat))).map mkR) l t (pq (l.map (fun n=>((n:Int):Rat)))):=by
  intro d
  induction d with
  |zero =>
   intro t hd ht
   have:t=l.length:=by omega
   subst this
   rw[List.take_length]
   exact linkworklaw31_of.l11 _ _ _ (Nat.le_refl _)
  |succ d ih =>
   intro t hd ht
   obtain⟨v,hv⟩:∃v,l[t]? = some v:=⟨_,List.getElem?_eq_getElem (by omega)⟩
   have:=ih (t+1) (by omega) (by omega)
   rw[List.take_add_one,hv] at this
   refine linkworklaw31_of.l10 _ l t v (mkR ((v:Int):Rat)) (by omega) hv (CRb.Of v (h v (List.mem_of_getElem? hv))) ?_ (by omega) ?_
   ·rw[List.length_append,List.length_map,List.length_map,List.length_take,List.length_singleton];omega
   ·simpa using this
 exact linkworklaw31_of.e0 l (loop _ 0 rfl (by omega))
theorem low(x:ARat):∃b,Contract prg 69 [x.pv,vW 1000,vW 1000] (vB b)∧(b=true→x.num.length≤1∧x.den.length≤1):=by
 by_cases h1:x.num.length<2
 ·by_cases h2:x.den.length<2
  ·by_cases h3:x.num.length=0
   ·by_cases h4:x.den.length=0
    ·exact⟨_,linkworklaw31_low.e0 x _ _ h1 h2 h3 h4,fun _=>by omega⟩
    ·obtain⟨v,hv⟩:∃v,x.den[0]? = some v:=⟨_,List.getElem?_eq_getElem (by omega)⟩
     exact⟨_,linkworklaw31_low.e1 x _ _ v h1 h2 h3 h4 hv,fun _=>by omega⟩
   ·obtain⟨v,hv⟩:∃v,x.num[0]? = some v:=⟨_,List.getElem?_eq_getElem (by omega)⟩
    by_cases h5:v.toNat≤(1000:UInt32).toNat
    ·by_cases h4:x.den.length=0
     ·exact⟨_,linkworklaw31_low.e2 x _ _ v h1 h2 h3 hv h5 h4,fun _=>by omega⟩
     ·obtain⟨u,hu⟩:∃v,x.den[0]? = some v:=⟨_,List.getElem?_eq_getElem (by omega)⟩
      exact⟨_,linkworklaw31_low.e3 x _ _ v u h1 h2 h3 hv h5 h4 hu,fun _=>by omega⟩
    ·exact⟨_,linkworklaw31_low.e4 x _ _ v h1 h2 h3 hv (by omega),fun h=>by cases h⟩
  ·exact⟨_,linkworklaw31_low.e5 x _ _ h1 (by omega),fun h=>by cases h⟩
 ·exact⟨_,linkworklaw31_low.e6 x _ _ (by omega),fun h=>by cases h⟩
theorem short(l:List (List ARat))(hl:l.length≤1000):∃b,Contract prg 15 [lpv (lcell ARat.cells) l] (vB b)∧(b=true→∀p∈l,p.length≤6∧∀a∈p,a.num.length≤1∧a.den.length≤1):=by
 have inner:∀(t:Nat) (v:List ARat),v.length≤6→t<l.length→(∃b,linkworklaw31_short.Loop1 l (t+1) (vB b)∧(b=true→∀p∈l.drop (t+1),p.length≤6∧∀a∈p,a.num.length≤1∧a.den.length≤1)) →
   ∀d u:Nat,v.length-u=d→∃b,linkworklaw31_short.Loop2 l t v u (vB b)∧(b=true→(∀a∈v.drop u,a.num.length≤1∧a.den.length≤1)∧∀p∈l.drop (t+1),p.length≤6∧∀a∈p,a.num.length≤1∧a.den.length≤1):=by
  intro t v hv6 ht ⟨b0,hL,hB⟩ d
  induction d with
  |zero =>
   intro u hd
   exact⟨b0,linkworklaw31_short.l22 l t v u (by omega) (by omega) hL,fun h=>⟨(by rw[List.drop_of_length_le (by omega)];intro a ha;cases ha),hB h⟩⟩
  |succ d ih =>
   intro u hd
   obtain⟨a,ha⟩:∃a,v[u]? = some a:=⟨_,List.getElem?_eq_getElem (by omega)⟩
   obtain⟨b1,h1,h2⟩:=low a
   cases b1 with
   |false=>exact⟨false,linkworklaw31_short.l20 l t v u a _ (by omega) ha h1 rfl,fun h=>by cases h⟩
   |true =>
    obtain⟨b,g1,g2⟩:=ih (u+1) (by omega)
    refine⟨b,linkworklaw31_short.l21 l t v u a _ (by omega) ha h1 rfl (by omega) g1,fun h=>⟨fun x hx => ?_,(g2 h).2⟩⟩
    rw[drop_cons ha] at hx
    rcases List.mem_cons.1 hx with rfl|hx
    ·exact h2 rfl
    ·exact(g2 h).1 x hx
 have outer:∀d t:Nat,l.length-t=d→∃b,linkworklaw31_short.Loop1 l t (vB b)∧(b=true→∀p∈l.drop t,p.length≤6∧∀a∈p,a.num.length≤1∧a.den.length≤1):=by
  intro d
  induction d with
  |zero =>
   intro t hd
   exact⟨true,linkworklaw31_short.l12 l t (by omega),fun _=>by rw[List.drop_of_length_le (by omega)];intro p hp;cases hp⟩
  |succ d ih =>
   intro t hd
   obtain⟨v,hv⟩:∃v,l[t]? = some v:=⟨_,List.getElem?_eq_getElem (by omega)⟩
   by_cases h6:v.length≤6
   ·obtain⟨b,g1,g2⟩:=inner t v h6 (by omega) (ih (t+1) (by omega)) _ 0 rfl
    refine⟨b,linkworklaw31_short.l11 l t v (by omega) hv h6 g1,fun h p hp => ?_⟩
    rw[drop_cons hv] at hp
    rcases List.mem_cons.1 hp with rfl|hp
    ·have:=(g2 h).1
     rw[List.drop_zero] at this
     exact⟨h6,this⟩
    ·exact(g2 h).2 p hp
   ·exact⟨false,linkworklaw31_short.l10 l t v (by omega) hv (by omega),fun h=>by cases h⟩
 obtain⟨b,h1,h2⟩:=outer _ 0 rfl
 rw[List.drop_zero] at h2
 exact⟨b,linkworklaw31_short.e0 l h1,h2⟩
theorem short1(p:List ARat):∃b,Contract prg 15 [lpv (lcell ARat.cells) [p]] (vB b)∧(b=true→p.length≤6∧∀a∈p,a.num.length≤1∧a.den.length≤1):=by
 obtain⟨b,h1,h2⟩:=short [p] (by simp)
 exact⟨b,h1,fun h=>h2 h p (by simp)⟩
theorem brief(r:ARange):∃b,Contract prg 16 [r.pv] (vB b)∧(b=true→(r.lo.num.length≤1∧r.lo.den.length≤1)∧r.hi.num.length≤1∧r.hi.den.length≤1):=by
 obtain⟨b,h1,h2⟩:=short [[r.lo,r.hi]] (by simp)
 refine⟨b,linkworklaw31_brief.e0 r b h1,fun h => ?_⟩
 obtain⟨_,g⟩:=h2 h [r.lo,r.hi] (by simp)
 exact⟨g r.lo (by simp),g r.hi (by simp)⟩
theorem same(q:List Rat)(hl:q.length≤1000)(hf:Fl 68719476736 q):Contract prg 74 [pq q,pq q] (vB true):=by
 have:=CBa.Rats (q.map mkR) (q.map mkR) (by rw[lenM];omega) (fun a ha=>by
  obtain⟨x,hx,rfl⟩:=List.mem_map.1 ha
  have:=fit_mkRk (hf x hx)
  omega)
 rw[eqRs_self] at this
 exact linkworkref05_Same.e0 _ _ _ this
def exA:List Rat:=[((2:Int):Rat),((-2:Int):Rat),((1:Int):Rat)]
def exP:List Rat:=[((5:Int):Rat),((-8:Int):Rat),((4:Int):Rat)]
def exN:List Rat:=[((-1:Int):Rat),((1:Int):Rat)]
theorem fine_of'{p:List Rat}(hz:lastZ p=false)(h0:p≠[])(hl:p.length≤6)(hf:Fl 1 p):Fine 7 6 p:=by
 have h1:=Ch.of_fl hf
 exact⟨hz,h0,hl,h1.mono (by omega),by omega,by omega,by decide⟩
theorem exA_piece:Piece exA 0 2:=⟨by decide +kernel,by decide,by decide +kernel,by decide,by decide,by decide⟩
theorem exP_base:Base exP 0 2:=⟨by decide +kernel,by decide,by decide +kernel,by decide,by decide,by decide⟩
theorem exP_fine:Fine 7 6 exP:=fine_of' (by decide +kernel) (by decide +kernel) (by decide) (by decide +kernel)
theorem exN_fine:Fine 7 6 exN:=fine_of' (by decide +kernel) (by decide +kernel) (by decide) (by decide +kernel)
theorem exA_bern:bernQ exA 0 (2-0)=[((2:Int):Rat),((0:Int):Rat),((2:Int):Rat)]:=by decide +kernel
theorem exP_cut:cutQ exP 0 2 3 0 0=some [((1:Int):Rat)]:=by decide +kernel
theorem exP_pos:posR exP 0 2=true:=by decide +kernel
theorem exP_every:everyB 1 exP=true:=by decide +kernel
theorem exN_pos:posR exN 0 2=false:=by decide +kernel
theorem err0{p:List Rat}{a b:Rat}(hz:lastZ p=false)(hl:p.length≤65)(h:a≤b):err31 (p.map mkR) (mkG a b)=0:=by
 unfold err31
 rw[chk_map hz hl,if_pos rfl,if_pos (ok_mkG h)]
theorem awake:Contract prg 17 [] (vB true):=by
 have o2:=CRb.Of 2 (by unfold InI64;omega)
 have o1:=CFr.Of 1 (by unfold InI64;omega)
 have a1:=of [2, -2,1] (by unfold InI64;decide) (by decide)
 have a2:=of [5, -8,4] (by unfold InI64;decide) (by decide)
 have a4:=of [-1,1] (by unfold InI64;decide) (by decide)
 have a5:=of [2,0,2] (by unfold InI64;decide) (by decide)
 have a6:=of [1] (by unfold InI64;decide) (by decide)
 have g:(⟨⟨false,[],[]⟩,mkR ((2:Int):Rat)⟩:ARange)=mkG 0 2:=rfl
 have fg:FitG 68719476736 (mkG 0 2):=fit_mkG (by decide) (by decide)
 have chA:=CPs.check (exA.map mkR) (mkG 0 2) (fitQ exA_piece.fl (by omega)) fg
 rw[err0 exA_piece.zp (by decide) (by decide)] at chA
 have bA:=CPs.bernstein exA_piece
 rw[exA_bern] at bA
 have hB:=positive_Bernstein.e0 _ _ _ none chA bA
 have fP:Fl 1 exP:=by decide +kernel
 have hSc:=CCa.ScaleQ (a:=1) (d:=1) exP ((1:Int):Rat) exP_base.zp (by decide) fP (by decide) (by omega) (by omega)
 have eSc:trimL (smulL ((1:Int):Rat) exP)=exP:=by decide +kernel
 rw[eSc] at hSc
 have chP:=CPs.check (exP.map mkR) (mkG 0 2) (fitQ exP_base.fl (by omega)) fg
 rw[err0 exP_base.zp (by decide) (by decide)] at chP
 have dP:=CPs.decide' (Or.inr exP_fine) fP (by omega) (by omega) (lo:=0) (hi:=2) (by decide) (by decide) (by decide)
 rw[exP_pos] at dP
 have cP:=CPc.cutN exP_base 3 0 0 (by omega) (by decide)
 rw[exP_cut] at cP
 have e0:ptQ 0 2 0 0=0:=by decide +kernel
 have e1:ptQ 0 2 0 (0+1)=2:=by decide +kernel
 rw[e0,e1] at cP
 have hM:=positive_Make.e3 _ (mkG 0 2) 3 _ _ chP (by omega) (by omega) dP rfl cP
 have hE:=CPs.Everywhere (k:=1) (Or.inr exP_fine) fP (by omega) (by omega)
 rw[exP_every] at hE
 have fN:Fl 1 exN:=by decide +kernel
 have chN:=CPs.check (exN.map mkR) (mkG 0 2) (fitQ fN (by omega)) fg
 rw[err0 exN_fine.zp (by decide) (by decide)] at chN
 have dN:=CPs.decide' (Or.inr exN_fine) fN (by omega) (by omega) (lo:=0) (hi:=2) (by decide) (by decide) (by decide)
 rw[exN_pos] at dN
 have hN:=positive_Decide.e0 _ _ _ none chN dN
 have s1:=same [((2:Int):Rat),((0:Int):Rat),((2:Int):Rat)] (by decide) (by decide +kernel)
 have s2:=same [((1:Int):Rat)] (by decide) (by decide +kernel)
 exact linkworklaw31_awake.e0 _ _ _ _ _ _ _ _ _ _ _ _ _ _ o2 a1 hB a2 o1 hSc hM hE a4 hN a5 s1 rfl a6 s2 rfl rfl
theorem short_fine{p:List ARat}(h:p.length≤6∧∀a∈p,a.num.length≤1∧a.den.length≤1)(hc:chk p=0):p=(vals p).map mkR∧lastZ (vals p)=false∧(vals p).length≤6∧Fl 1 (vals p)∧(vals p=[]∨Fine 7 6 (vals p)):=by
 have hz:=chk_last hc
 have hl:(vals p).length≤6:=by unfold vals;rw[List.length_map];exact h.1
 have hf:Fl 1 (vals p):=fl_vals (fun a ha=>h.2 a ha) (by omega)
 refine⟨(vals_of (chk_valid hc)).symm,hz,hl,hf,?_⟩
 by_cases h0:vals p=[]
 ·exact Or.inl h0
 ·exact Or.inr (fine_of' hz h0 hl hf)
end C31
end Go.Proofs.YtbgkjomonebfcaaGreat.Sym

namespace Go.Proofs.YtbgkjomonebfcaaGreat.Sym
open Go Path CInt
set_option linter.unusedVariables false
def mean:Nat→(Nat→Rat)→Rat→Rat
 |0,f,_=>f 0
 |n+1,f,u=>(1-u)*mean n f u+u*mean n (fun j=>f (j+1)) u
theorem mean_congr:∀(n:Nat) (f g:Nat→Rat) (u:Rat),(∀j,j≤n→f j=g j)→mean n f u=mean n g u
 |0,f,g,u,h=>h 0 (Nat.le_refl _)
 |n+1,f,g,u,h=>by
  rw[mean,mean,mean_congr n f g u (fun j hj=>h j (by omega)),mean_congr n (fun j=>f (j+1)) (fun j=>g (j+1)) u (fun j hj=>h (j+1) (by omega))]
theorem mean_add:∀(n:Nat) (f g:Nat→Rat) (u:Rat),mean n (fun j=>f j+g j) u=mean n f u+mean n g u
 |0,f,g,u=>rfl
 |n+1,f,g,u=>by
  rw[mean,mean,mean,mean_add n f g u,mean_add n (fun j=>f (j+1)) (fun j=>g (j+1)) u];grind
theorem mean_smul(c:Rat):∀(n:Nat) (f:Nat→Rat) (u:Rat),mean n (fun j=>c*f j) u=c*mean n f u
 |0,f,u=>rfl
 |n+1,f,u=>by
  rw[mean,mean,mean_smul c n f u,mean_smul c n (fun j=>f (j+1)) u];grind
theorem mean_zero:∀(n:Nat) (u:Rat),mean n (fun _=>0) u=0
 |0,u=>rfl
 |n+1,u=>by rw[mean,mean_zero n u];grind
theorem mean_ge{m:Rat} : ∀(n:Nat) (f:Nat→Rat) (u:Rat),0≤u→u≤1→(∀j,j≤n→m≤f j)→m≤mean n f u
 |0,f,u,_,_,h=>h 0 (Nat.le_refl _)
 |n+1,f,u,h0,h1,h=>by
  have a:=mean_ge n f u h0 h1 (fun j hj=>h j (by omega))
  have b:=mean_ge n (fun j=>f (j+1)) u h0 h1 (fun j hj=>h (j+1) (by omega))
  have c:=Rat.mul_le_mul_of_nonneg_left a (show 0≤1-u by grind)
  have d:=Rat.mul_le_mul_of_nonneg_left b h0
  rw[mean]
  grind
theorem mean_le{m:Rat} : ∀(n:Nat) (f:Nat→Rat) (u:Rat),0≤u→u≤1→(∀j,j≤n→f j≤m)→mean n f u≤m
 |0,f,u,_,_,h=>h 0 (Nat.le_refl _)
 |n+1,f,u,h0,h1,h=>by
  have a:=mean_le n f u h0 h1 (fun j hj=>h j (by omega))
  have b:=mean_le n (fun j=>f (j+1)) u h0 h1 (fun j hj=>h (j+1) (by omega))
  have c:=Rat.mul_le_mul_of_nonneg_left a (show 0≤1-u by grind)
  have d:=Rat.mul_le_mul_of_nonneg_left b h0
  rw[mean]
  grind
theorem mean_at0:∀(n:Nat) (f:Nat→Rat),mean n f 0=f 0
 |0,f=>rfl
 |n+1,f=>by rw[mean,mean_at0 n f];grind
theorem mean_at1:∀(n:Nat) (f:Nat→Rat),mean n f 1=f n
 |0,f=>rfl
 |n+1,f=>by rw[mean,mean_at1 n (fun j=>f (j+1))];grind
theorem choQ_zero(n:Int):choQ n 0=1:=rfl
theorem int_ne{k:Nat} : (((k+1:Nat):Int):Rat)≠0:=fun e=>by
 have:=Rat.intCast_inj.1 (show (((k+1:Nat):Int):Rat)=((0:Int):Rat) from e);omega
theorem choQ_step(n:Int)(i:Nat):choQ n (i+1)*(((i+1:Nat):Int):Rat)=choQ n i*((n-(i:Int):Int):Rat):=by
 rw[choQ,Rat.divInt_eq_div,Rat.div_def]
 have h:=Rat.inv_mul_cancel _ (int_ne (k:=i))
 generalize ((((i+1:Nat):Int):Rat))⁻¹=v at h ⊢
 generalize (((i+1:Nat):Int):Rat)=w at h ⊢
 have:choQ n i*(((n-(i:Int):Int):Rat)*v)*w=choQ n i*((n-(i:Int):Int):Rat)*(v*w):=by grind
 rw[this,h,Rat.mul_one]
theorem choQ_pascal(n:Int):∀i:Nat,choQ (n+1) (i+1)=choQ n (i+1)+choQ n i
 |0=>by
  have a:=choQ_step (n+1) 0
  have b:=choQ_step n 0
  rw[choQ_zero] at a b ⊢
  have e1:(((0+1:Nat):Int):Rat)=1:=rfl
  rw[e1] at a b
  have e2:((n+1-((0:Nat):Int):Int):Rat)=(n:Rat)+1:=by
   rw[show n+1-((0:Nat):Int)=n+1 from by omega,Rat.intCast_add];rfl
  have e3:((n-((0:Nat):Int):Int):Rat)=(n:Rat):=by
   rw[show n-((0:Nat):Int)=n from by omega]
  rw[e2] at a
  rw[e3] at b
  grind
 |i+1=>by
  have ih:=choQ_pascal n i
  have a:=choQ_step (n+1) (i+1)
  have b:=choQ_step n (i+1)
  have c:=choQ_step n i
  have hne:=int_ne (k:=i+1)
  refine mul_right_inj'' hne ?_
  rw[a,Rat.add_mul,b]
  rw[ih]
  have e1:((n+1-((i+1:Nat):Int):Int):Rat)=((n-(i:Int):Int):Rat):=by congr 1;omega
  have e2:((n-((i+1:Nat):Int):Int):Rat)=((n-(i:Int):Int):Rat)-1:=by
   rw[show n-((i+1:Nat):Int)=(n-(i:Int))-1 from by omega,Rat.intCast_sub];rfl
  have e3:(((i+1+1:Nat):Int):Rat)=(((i+1:Nat):Int):Rat)+1:=by
   rw[show ((i+1+1:Nat):Int)=((i+1:Nat):Int)+1 from by omega,Rat.intCast_add];rfl
  rw[e1,e2,e3]
  generalize (((i+1:Nat):Int):Rat)=w at c ⊢
  generalize ((n-(i:Int):Int):Rat)=v at c ⊢
  generalize choQ n (i+1)=x at c ⊢
  generalize choQ n i=y at c ⊢
  grind
where
 mul_right_inj'' {a b c:Rat} (hc:c≠0) (h:a*c=b*c):a=b:=mul_right_inj' hc h
theorem choQ_none:∀(j i:Nat),j<i→choQ (j:Int) i=0
 |j,i+1,h=>by
  by_cases e:j=i
  ·subst e
   rw[choQ,Rat.divInt_eq_div,show((j:Int)-(j:Int))=0 from by omega,Rat.div_def,show((0:Int):Rat)=0 from rfl,Rat.zero_mul,Rat.mul_zero]
  ·rw[choQ,choQ_none j i (by omega),Rat.zero_mul]
theorem mean_cho(u:Rat):∀(n i:Nat),mean n (fun j=>choQ (j:Int) i) u=choQ (n:Int) i*u^i
 |0,0=>by show(1:Rat)=1*u^0;rw[Rat.pow_zero,Rat.mul_one]
 |0,i+1=>by show choQ ((0:Nat):Int) (i+1)=choQ ((0:Nat):Int) (i+1)*_;rw[choQ_none 0 (i+1) (by omega),Rat.zero_mul]
 |n+1,0=>by
  rw[mean]
  have a:=mean_cho u n 0
  have e:mean n (fun j=>choQ ((j+1:Nat):Int) 0) u=mean n (fun j=>choQ (j:Int) 0) u:=mean_congr _ _ _ _ (fun j _=>rfl)
  rw[e,a,choQ_zero,choQ_zero]
  grind
 |n+1,i+1=>by
  rw[mean]
  have a:=mean_cho u n (i+1)
  have b:=mean_cho u n i
  have e:mean n (fun j=>choQ ((j+1:Nat):Int) (i+1)) u=mean n (fun j=>choQ (j:Int) (i+1)) u+mean n (fun j=>choQ (j:Int) i) u:=by
   rw[←mean_add]
   exact mean_congr _ _ _ _ (fun j _=>choQ_pascal (j:Int) i)
  rw[e,a,b]
  have:=choQ_pascal (n:Int) i
  rw[show ((n+1:Nat):Int)=(n:Int)+1 from rfl,this,Rat.pow_succ]
  grind
theorem berS_all{q:List Rat}{n:Int}{j:Nat} : ∀d:Nat,berS q n j (j+1+d)=berS q n j (j+1)
 |0=>rfl
 |d+1=>by
  show berS q n j (j+1+d)+choQ (j:Int) (j+1+d)/choQ n (j+1+d)*coef q (j+1+d)=_
  rw[berS_all d,choQ_none j (j+1+d) (by omega),Rat.div_def,Rat.zero_mul,Rat.zero_mul,Rat.add_zero]
theorem mean_ber(q:List Rat)(n:Nat)(u:Rat):∀t:Nat,t≤n+1→mean n (fun j=>berS q (n:Int) j t) u=evalL (q.take t) u
 |0,_=>by
  show mean n (fun _=>0) u=0
  exact mean_zero n u
 |t+1,h=>by
  have ih:=mean_ber q n u t (by omega)
  have e:mean n (fun j=>berS q (n:Int) j (t+1)) u=mean n (fun j=>berS q (n:Int) j t) u+coef q t/choQ (n:Int) t*mean n (fun j=>choQ (j:Int) t) u:=by
   rw[←mean_smul,←mean_add]
   refine mean_congr _ _ _ _ (fun j _ => ?_)
   rw[berS,Rat.div_def,Rat.div_def]
   grind
  have hne:choQ (n:Int) t≠0:=by
   have:=choQ_pos (n:=(n:Int)) t (by omega)
   grind
  have hinv:=Rat.inv_mul_cancel _ hne
  rw[e,ih,mean_cho,Rat.div_def]
  have e2:coef q t*(choQ (n:Int) t)⁻¹*(choQ (n:Int) t*u^t)=coef q t*u^t*((choQ (n:Int) t)⁻¹*choQ (n:Int) t):=by grind
  rw[e2,hinv,Rat.mul_one]
  by_cases hl:t<q.length
  ·rw[List.take_add_one,coef_get hl]
   show _=evalL (q.take t++[coef q t]) u
   rw[evalL_snoc2,List.length_take,Nat.min_eq_left (by omega)]
  ·rw[coef_ge (by omega),List.take_of_length_le (by omega),List.take_of_length_le (show q.length≤t+1 by omega)]
   grind
where
 evalL_snoc2 (a x:Rat):∀q:List Rat,evalL (q++[a]) x=evalL q x+a*x^q.length
  |[]=>by show 0*x+a=0+a*x^0;rw[Rat.pow_zero];grind
  |b::r=>by
   show evalL (r++[a]) x*x+b=evalL r x*x+b+a*x^(r.length+1)
   rw[evalL_snoc2 a x r,Rat.pow_succ]
   grind
theorem comp_len{p:List Rat}{lo w:Rat} : (subL p lo w).length≤p.length:=by
 have h:∀p:List Rat,∀i,p.length≤i→coef (compL p (trimL [lo,w])) i=0:=by
  intro p
  induction p with
  |nil=>intro i _;rfl
  |cons a r ih =>
   intro i hi
   rw[compL,coef_addL]
   have h1:coef (mulL (compL r (trimL [lo,w])) (trimL [lo,w])) i=coef (mulL (trimL [lo,w]) (compL r (trimL [lo,w]))) i:=coef_mul_comm _ _ _
   have hc:∀i,coef (mulL (trimL [lo,w]) (compL r (trimL [lo,w]))) i=coef (mulL [lo,w] (compL r (trimL [lo,w]))) i:=by
    intro i
    exact eval_coef (fun x=>by rw[evalL_mulL,evalL_mulL,evalL_trimL]) i
   rw[List.length_cons] at hi
   obtain⟨k,rfl⟩:∃k,i=k+1:=⟨i-1,by omega⟩
   rw[h1,hc,coef_mul_cons,coef_succ,coef_mul_cons,ih (k+1) (by omega),ih k (by omega)]
   have:coef (0::mulL [] (compL r (trimL [lo,w]))) k=0:=by cases k<;>rfl
   rw[this]
   have:coef [a] (k+1)=0:=rfl
   rw[this]
   grind
 rcases Nat.lt_or_ge p.length (subL p lo w).length with hl|hl
 ·exfalso
  have hz:lastZ (subL p lo w)=false:=lastZ_trimL _
  have hne:subL p lo w≠[]:=by intro e;rw[e] at hl;simp at hl
  have:=top_ne hz hne
  apply this
  unfold topL
  show coef (trimL _) _=0
  rw[coef_trimL]
  refine h p _ ?_
  show p.length≤(subL p lo w).length-1
  omega
 ·exact hl
theorem bern_mean{p:List Rat}(h0:p≠[])(lo w u:Rat):evalL p (lo+w*u)=mean (p.length-1) (coef (bernQ p lo w)) u:=by
 have hp:=List.length_pos_iff.2 h0
 have e:((p.length-1:Nat):Int)=(p.length:Int)-1:=by omega
 have h:=mean_ber (subL p lo w) (p.length-1) u p.length (by omega)
 rw[List.take_of_length_le comp_len,sub_eval] at h
 rw[←h]
 refine mean_congr _ _ _ _ (fun j hj => ?_)
 have h2:=berS_all (q:=subL p lo w) (n:=(p.length:Int)-1) (j:=j) (p.length-(j+1))
 rw[show j+1+(p.length-(j+1))=p.length from by omega] at h2
 rw[e,h2]
 have:(bernQ p lo w)[j]? = some (berS (subL p lo w) ((p.length:Int)-1) j (j+1)):=tabL_get _ (by omega)
 exact(coef_of this).symm
end Go.Proofs.YtbgkjomonebfcaaGreat.Sym
namespace Go.Proofs.YtbgkjomonebfcaaGreat.Sym
open Go Path CInt
set_option linter.unusedVariables false
namespace C31
structure Sh (p:List ARat) (r:ARange):Prop where
 ep:pq (vals p)=polyPV p
 er:mkG r.lo.val r.hi.val=r
 pl:p.length=(vals p).length
 zp:lastZ (vals p)=false
 len:(vals p).length≤6
 fl:Fl 1 (vals p)
 fine:vals p=[]∨Fine 7 6 (vals p)
 t1:ht r.lo.val≤1
 t2:ht r.hi.val≤1
 le:r.lo.val≤r.hi.val
 ck:Contract prg 75 [polyPV p,r.pv] .nilI
theorem valid(p:List ARat)(r:ARange):Contract prg 26 [polyPV p,r.pv] (vB false)∨(Sh p r∧Contract prg 26 [polyPV p,r.pv] (vB true)):=by
 obtain⟨b1,h1,g1⟩:=short1 p
 cases b1 with
 |false=>exact Or.inl (linkworklaw31_valid.e2 p r _ h1 rfl)
 |true =>
  obtain⟨b2,h2,g2⟩:=brief r
  cases b2 with
  |false=>exact Or.inl (linkworklaw31_valid.e1 p r _ _ h1 rfl h2 rfl)
  |true =>
   have g1:=g1 rfl
   obtain⟨g2,g2'⟩:=g2 rfl
   have fp:FitP 274877906944 p:=fun a ha=>by have:=g1.2 a ha;omega
   have fr:FitG 68719476736 r:=⟨by omega,by omega⟩
   have ck:=CPs.check p r fp fr
   have cr:=CPt.Error p r fp fr
   have hv:=linkworklaw31_valid.e0 p r _ _ _ h1 rfl h2 rfl cr
   by_cases he:err31 p r=0
   ·have hc:chk p=0:=by
     unfold err31 at he
     by_cases h:chk p=0
     ·exact h
     ·rw[if_neg h] at he;exact he
    have hr:r.ok=true:=by
     unfold err31 at he
     rw[if_pos hc] at he
     by_cases h:r.ok=true
     ·exact h
     ·rw[if_neg h] at he;exact absurd he (by decide)
    rw[he] at hv ck
    obtain⟨e,hz,hl,hf,hfn⟩:=short_fine g1 hc
    obtain⟨v1,v2,v3⟩:=ok_parts hr
    refine Or.inr ⟨⟨by show polyPV ((vals p).map mkR)=_;rw[←e],?_,by unfold vals;rw[List.length_map],hz,hl,hf,hfn,ht_fit g2.1 g2.2 (by omega),ht_fit g2'.1 g2'.2 (by omega),v3,ck⟩,hv⟩
    unfold mkG
    rw[mkR_of v1,mkR_of v2]
   ·rw[show (err31 p r==0)=false from by simpa using he] at hv
    exact Or.inl hv
theorem Sh.piece{p:List ARat}{r:ARange}(s:Sh p r):Piece (vals p) r.lo.val r.hi.val :=
 ⟨s.zp,by have:=s.len;omega,fl_mono s.fl (by omega),by have:=s.t1;omega,by have:=s.t2;omega,s.le⟩
def partQ(n:Nat):Rat:=Rat.divInt (n:Int) 255
theorem part_in{n:Nat}(h:n≤255):0≤partQ n∧partQ n≤1∧ht (partQ n)≤1:=by
 have h1:=ht_divInt (n:Int) 255
 have h2:wl (n:Int)≤1:=wl_le (by omega)
 have h3:wl (255:Int)≤1:=wl_le (by decide)
 have i:(0:Rat)≤(((255:Int):Rat))⁻¹:=by decide +kernel
 have j:((255:Int):Rat)*(((255:Int):Rat))⁻¹=1:=by decide +kernel
 unfold partQ
 refine⟨?_,?_,by omega⟩
 ·rw[Rat.divInt_eq_div,Rat.div_def]
  exact Rat.mul_nonneg (Rat.intCast_le_intCast.2 (show (0:Int)≤_ by omega)) i
 ·rw[Rat.divInt_eq_div,Rat.div_def,←j]
  exact Rat.mul_le_mul_of_nonneg_right (Rat.intCast_le_intCast.2 (by omega)) i
theorem inside{p:List ARat}{r:ARange}(s:Sh p r){n:Nat}(h:n≤255):Contract prg 28 [r.pv,.int .u8 (n:Int)] (mkR (r.lo.val+partQ n*(r.hi.val-r.lo.val))).pv∧ht (r.lo.val+partQ n*(r.hi.val-r.lo.val))≤10:=by
 have t1:=s.t1
 have t2:=s.t2
 obtain⟨_,_,t3⟩:=part_in h
 have t4:=ht_sub r.hi.val r.lo.val
 have t5:=ht_mul (partQ n) (r.hi.val-r.lo.val)
 have t6:=ht_add r.lo.val (partQ n*(r.hi.val-r.lo.val))
 have hw:=CPt.Width r.lo.val r.hi.val (by omega) (by omega) s.le
 have hm:=QR.Mul (partQ n) (r.hi.val-r.lo.val) (by omega) (by omega)
 have ha:=QR.Add r.lo.val (partQ n*(r.hi.val-r.lo.val)) (by omega) (by omega)
 rw[s.er] at hw
 have hlo:mkR r.lo.val=r.lo:=congrArg ARange.lo s.er
 rw[hlo] at ha
 exact⟨linkworklaw31_inside.e0 r n _ _ _ _ _ (by omega) (QR.Make (n:Int) 255 (by unfold InI64;omega) (by unfold InI64;omega) (by omega)) hw hm ha,by omega⟩
theorem Sh.eval{p:List ARat}{r:ARange}(s:Sh p r){x:Rat}(h:ht x≤10):Contract prg 27 [polyPV p,(mkR x).pv] (.tup [(mkR (evalL (vals p) x)).pv,.nilI])∧ht (evalL (vals p) x)≤200:=by
 have hl:=s.len
 have:=CPs.EvalQ (vals p) x s.zp (by omega) (k:=10) (fl_mono s.fl (by omega)) h (by omega)
 rw[s.ep] at this
 have h2:=ht_eval (vals p) x 10 (fl_mono s.fl (by omega)) h
 have h3:(vals p).length*(2*10+1)≤6*(2*10+1):=Nat.mul_le_mul_right _ hl
 exact⟨this,by omega⟩
theorem PositiveBetween(p:List ARat)(r:ARange)(n:Nat)(hn:n≤255):Contract prg 4 [polyPV p,r.pv,.int .u8 (n:Int)] (vB true):=by
 rcases valid p r with hv|⟨s,hv⟩
 ·exact linkworklaw31_PositiveBetween.e0 p r n _ _ hv rfl awake
 by_cases h0:p.length=0
 ·exact linkworklaw31_PositiveBetween.e1 p r n _ _ hv rfl h0 awake
 have hne:vals p≠[]:=by
  intro e
  have:=s.pl
  rw[e] at this
  exact h0 this
 have hl:=s.len
 have hpl:=s.pl
 have hb:=CPs.bernstein s.piece
 have hbf:=fl_bern s.piece
 have hbl:=bern_len (vals p) r.lo.val (r.hi.val-r.lo.val)
 have mean:=fun u=>bern_mean hne r.lo.val (r.hi.val-r.lo.val) u
 rw[s.ep,s.er] at hb
 generalize bernQ (vals p) r.lo.val (r.hi.val-r.lo.val)=b at hb hbf hbl mean
 obtain⟨i1,i2⟩:=inside s hn
 obtain⟨u0,u1,_⟩:=part_in hn
 obtain⟨e1,e1h⟩:=s.eval i2
 obtain⟨e2,e2h⟩:=s.eval (x:=r.lo.val) (by have:=s.t1;omega)
 obtain⟨e3,e3h⟩:=s.eval (x:=r.hi.val) (by have:=s.t2;omega)
 have hlo:mkR r.lo.val=r.lo:=congrArg ARange.lo s.er
 have hhi:mkR r.hi.val=r.hi:=congrArg ARange.hi s.er
 rw[hlo] at e2
 rw[hhi] at e3
 have m0:coef b 0=evalL (vals p) r.lo.val:=by
  have:=mean 0
  rw[mean_at0] at this
  rw[←this];congr 1;grind
 have m1:coef b ((vals p).length-1)=evalL (vals p) r.hi.val:=by
  have:=mean 1
  rw[mean_at1] at this
  rw[←this];congr 1;grind
 have mu:evalL (vals p) (r.lo.val+partQ n*(r.hi.val-r.lo.val))=Sym.mean ((vals p).length-1) (coef b) (partQ n):=by
  rw[←mean (partQ n)];congr 1;grind
 have hht:∀j,ht (coef b j)≤1000000:=fun j=>fl_coef hbf (by omega) j
 have cm0:=QF.Cmp (coef b 0) (evalL (vals p) r.lo.val) (Nat.le_trans (hht 0) (by omega)) (by omega)
 have cm1:=QF.Cmp (coef b ((vals p).length-1)) (evalL (vals p) r.hi.val) (Nat.le_trans (hht _) (by omega)) (by omega)
 rw[m0] at cm0
 rw[m1] at cm1
 have loop:∀d t:Nat,b.length-t=d→t≤b.length→∀lo hi:Rat,ht lo≤1000000→ht hi≤1000000→(∀j,j<t→lo≤coef b j∧coef b j≤hi)→linkworklaw31_PositiveBetween.Loop1 (b.map mkR) t (mkR (evalL (vals p) (r.lo.val+partQ n*(r.hi.val-r.lo.val)))) (mkR lo) (mkR hi) (vB true):=by
  intro d
  induction d with
  |zero =>
   intro t hd ht1 lo hi k1 k2 hj
   have c1:=QF.Cmp lo (evalL (vals p) (r.lo.val+partQ n*(r.hi.val-r.lo.val))) (by omega) (by omega)
   have c2:=QF.Cmp (evalL (vals p) (r.lo.val+partQ n*(r.hi.val-r.lo.val))) hi (by omega) (by omega)
   have a1:lo≤evalL (vals p) (r.lo.val+partQ n*(r.hi.val-r.lo.val)):=by
    rw[mu]
    exact mean_ge _ _ _ u0 u1 (fun j hj'=>(hj j (by omega)).1)
   have a2:evalL (vals p) (r.lo.val+partQ n*(r.hi.val-r.lo.val))≤hi:=by
    rw[mu]
    exact mean_le _ _ _ u0 u1 (fun j hj'=>(hj j (by omega)).2)
   have:=linkworklaw31_PositiveBetween.l11 (b.map mkR) t _ _ _ _ _ (by rw[lenM];omega) c1 (cmpR_le.2 a1) c2
   rwa[decide_eq_true (cmpR_le.2 a2)] at this
  |succ d ih =>
   intro t hd ht1 lo hi k1 k2 hj
   have hg:=coef_get (p:=b) (i:=t) (by omega)
   have q1:=QF.Min lo (coef b t) (by omega) (Nat.le_trans (hht t) (by omega))
   have q2:=QF.Max hi (coef b t) (by omega) (Nat.le_trans (hht t) (by omega))
   refine linkworklaw31_PositiveBetween.l10 (b.map mkR) t _ _ _ _ _ _ (by rw[lenM];omega) (getM hg) q1 q2 (by omega) (ih (t+1) (by omega) (by omega) _ _ (ht_min _ _ k1 (hht t)) (ht_max _ _ k2 (hht t)) (fun j hj' => ?_))
   by_cases e:j=t
   ·subst e;exact⟨minR_le_r _ _,maxR_ge_r _ _⟩
   ·obtain⟨z1,z2⟩:=hj j (by omega)
    exact⟨Rat.le_trans (minR_le_l _ _) z1,Rat.le_trans z2 (maxR_ge_l _ _)⟩
 refine linkworklaw31_PositiveBetween.e3 p r n _ _ _ _ _ _ _ _ _ ((vals p).length-1) _ _ hv rfl h0 awake rfl (positive_Bernstein.e0 p r _ none s.ck hb) i1 e1 e2 e3 (by rw[lenM];omega) (getM (coef_get (by omega))) ?_ rfl (by rw[lenM];unfold InI64;omega) (by rw[lenM];omega) (getM (coef_get (by omega))) ?_ rfl ?_
 ·rw[m0]
  rwa[cmpR_eq.2 rfl] at cm0
 ·rw[m1]
  rwa[cmpR_eq.2 rfl] at cm1
 ·exact loop _ 0 rfl (by omega) _ _ (hht 0) (hht 0) (fun j hj=>by omega)
theorem PositiveBetweenI(p:List ARat)(r:ARange)(n:Int){A B:Prop}(_:A)(_:B)(hn:0≤n∧n≤255):Contract prg 4 [polyPV p,r.pv,.int .u8 n] (vB true):=by
 obtain⟨k,rfl⟩:=Int.eq_ofNat_of_zero_le hn.1
 exact PositiveBetween p r k (by omega)
end C31
end Go.Proofs.YtbgkjomonebfcaaGreat.Sym
namespace Go.Proofs.YtbgkjomonebfcaaGreat.Sym
open Go Go.RowKit Go.ChangeShapes Go.WideShapes Go.ChangeAt
set_option linter.unusedVariables false
namespace RowPositiveBetween
theorem own:ownKnob Tryz.prog.godebug=none:=by kernel_rfl
theorem laid:laidOutB prg=true:=by kernel_rfl
theorem okArg{P:Program}{W:World}{base:Nat}{ps:Array TypeId}{args:Array Value}(hval:∀(j:Nat) t v,ps[j]? = some t→args[j]? = some v→Value.okWide P W .any base t v)(j:Nat){t:TypeId}{v:Value}(h1:ps[j]? = some t)(h2:args[j]? = some v):Value.okWide P W .any base t v:=hval j t v h1 h2
set_option maxRecDepth 100000 in
theorem contract(H:Type)(enc:TypeId×Value→H)(W:World)(base:Nat)(args:Array Value)(ds gs:List (DataW H))(before:List MemPlace)
  (hval:∀(j:Nat) t v,Tryz.f4.params[j]? = some t→args[j]? = some v→Value.okWide Tryz.prog W .any base t v)
  (hW:DataW.Whole enc Tryz.prog Tryz.f4.params.toList Rows.positiveBetweenSpec.vars false W args.toList ds gs before)
  (hz:(DataW.weightsEach Tryz.prog (Tryz.f4.params.toList++Rows.positiveBetweenSpec.plain.varTypes Tryz.prog) (ds++gs)).all (·≤reachBytes)=true) :
  Calls Tryz.prog 4 args W fun e W'=>∃v,e = .returned v∧Rows.positiveBetweenSpec.post enc Tryz.prog Tryz.f4 false true false false W args v W':=by
 have hW':=hW
 obtain⟨p,q,hA,hV,rfl,hfz,hnd⟩:=hW
 have hp:Tryz.f4.params = #[23,28,5]:=by kernel_rfl
 rw[hp] at hA hval hz
 obtain⟨v0,vs0,d0,ds0,p0,q0,hargs,rfl,rfl,h0,r0⟩:=trodAll_cons hA
 obtain⟨v1,vs1,d1,ds1,p1,q1,rfl,rfl,rfl,h1,r1⟩:=trodAll_cons r0
 obtain⟨v2,vs2,d2,ds2,p2,q2,rfl,rfl,rfl,h2,r2⟩:=trodAll_cons r1
 obtain⟨rfl,rfl,rfl⟩:=trodAll_nil r2
 obtain rfl:args = #[v0,v1,v2]:=by cases args;simp_all
 obtain⟨rfl,rfl⟩:=trodVars_none hV
 obtain⟨n0,hn0⟩:=h0
 have hw0:∀k∈d0.weights prg 23,k≤reachBytes:=by
  intro k hk
  have:=List.all_eq_true.1 hz k (DataW.weights_mem_each (j:=0) rfl rfl k hk)
  simpa using this
 obtain⟨x0,hx0,b0⟩:=opens_poly enc W 0 (fun _=>true) true n0 _ _ hn0 hw0
 obtain⟨ra0,rl0,rc0,rfl⟩:=okWide_slice (show Tryz.prog.underlying 23=some (.slice 26) by kernel_rfl) (okArg hval 0 (t:=23) (v:=v0) (by simp) (by simp))
 have hrd0:Rd (Old W) W (polyPV x0) (.slice ra0 rl0 rc0):=(hx0.2 0 _ _ rfl rfl).2
 obtain⟨n1,hn1⟩:=h1
 have hw1:∀k∈d1.weights prg 28,k≤reachBytes:=by
  intro k hk
  have:=List.all_eq_true.1 hz k (DataW.weights_mem_each (j:=1) rfl rfl k hk)
  simpa using this
 obtain⟨x1,hx1,b1⟩:=opens_ARange enc W 0 (fun _=>true) true n1 _ _ hn1 hw1
 obtain⟨fs1,hu1,_⟩:=flds_spec (show fldsOf (prg.underlying 28)=some [(26,0),(26,3)] by kernel_rfl)
 have hv1:Value.okWide Tryz.prog W .any base 28 v1:=okArg hval 1 (by simp) (by simp)
 have hrd1:Rd (Old W) W x1.pv v1:=rd_struct (P:=Tryz.prog) (cs:=x1.cells) hu1 hv1 hx1
 obtain⟨n2,hn2⟩:=h2
 have hw2:∀k∈d2.weights prg 5,k≤reachBytes:=by
  intro k hk
  have:=List.all_eq_true.1 hz k (DataW.weights_mem_each (j:=2) rfl rfl k hk)
  simpa using this
 obtain⟨x2,hx2,b2⟩:=(opens_int (k := .u8) (show prg.underlying 5=some (.int .u8) by kernel_rfl)) enc W 0 (fun _=>true) true n2 _ _ hn2 hw2
 obtain⟨m2,rfl,_,_,_⟩:=open_int (show Tryz.prog.underlying 5=some (.int .u8) by kernel_rfl) (okArg hval 2 (t:=5) (v:=v2) (by simp) (by simp)) (⟨n2,hn2⟩:DataW.Trod enc Tryz.prog W 0 (fun _=>true) true 5 v2 d2 p2)
 have hrd2:Rd (Old W) W (.int .u8 x2) (.int .u8 m2):=by
  have:=(hx2.2 0 _ _ rfl rfl).2
  exact this
 have hc:=C31.PositiveBetweenI x0 x1 x2 b0 b1 (u8_val b2)
 refine(hc.2 (Old W) W (fun _=>none) #[.slice ra0 rl0 rc0,v1,.int .u8 m2] (fun b hb=>hb) ⟨(fun r sc h=>by cases h),(fun r r' b h=>by obtain⟨_,h⟩:=h)⟩ rfl ?_).mono ?_
 ·intro j e v he hv
  cases j with
  |zero=>simp at he hv;subst he hv;exact hrd0
  |succ j =>
   cases j with
   |zero=>simp at he hv;subst he hv;exact hrd1
   |succ j =>
    cases j with
    |zero=>simp at he hv;subst he hv;exact hrd2
    |succ j=>simp at he
 ·intro e W' ⟨v,β',he,_,hk,_,hv,_⟩
  subst he
  have hv:Rd _ W' (vB true) v:=hv
  cases hv
  have hk':Keeps (fun _=>False) W W':=⟨hk.os,hk.tape,hk.output,hk.size,fun k h1 _=>hk.block k h1 (fun ⟨y,hy,_⟩=>by obtain⟨_,hy⟩:=hy),hk.shape⟩
  refine⟨_,rfl,post_true (tb:=4) hW' hk' rfl (by kernel_rfl) (by kernel_rfl) rfl rfl rfl laid ?_⟩
  rw[hp]
  intro t ht
  have:t=23∨t=28∨t=5:=by simpa using ht
  rcases this with rfl|rfl|rfl
  all_goals exact⟨by kernel_rfl,of_decide_eq_true (by kernel_rfl)⟩
set_option maxRecDepth 100000 in
theorem lifted(os:Os)(started:os.Started)(H:Type)(enc:TypeId×Value→H) :
  ReturnsInHanded {} Tryz.checked os 4 .any (Rows.positiveBetweenSpec.pre6 enc Tryz.prog Tryz.f4 Rows.positiveBetweenRow.domain false) (Rows.positiveBetweenSpec.post enc Tryz.prog Tryz.f4 false true false false):=by
 refine returnsInHanded_of_change_sized (C:=Tryz.checked) own started (by kernel_rfl) Tryz.func4
  (ChangeSpec.witness6 (enc:=enc) (C:=Tryz.checked) false ⟨#[],#[.slice none 0 0,.agg #[.bool false,.slice none 0 0,.slice none 0 0,.bool false,.slice none 0 0,.slice none 0 0],.int .u8 0],[]⟩ 8 (by kernel_rfl) (by kernel_rfl) (by kernel_rfl) (by kernel_rfl)) ?_
 intro W base args ds gs before hval hW _ hz _
 exact contract H enc W base args ds gs before hval hW hz
theorem j1:(Rows.positiveBetweenRow.inPlace==Tryz.prog.inPlace 4)=true:=by kernel_rfl
theorem j2:(Rows.positiveBetweenRow.unfollowed==Tryz.prog.unfollowed 4)=true:=by kernel_rfl
theorem j3:(Rows.positiveBetweenRow.recurses==Tryz.prog.recurses 4)=true:=by kernel_rfl
theorem j4:(Rows.positiveBetweenRow.named==Tryz.prog.varsNamed 4)=true:=by kernel_rfl
theorem closed:joinedFacts Tryz.prog 4 Tryz.f4 Rows.positiveBetweenSpec Rows.positiveBetweenRow=true:=by
 unfold joinedFacts
 rw[j1,j2,j3,j4]
 kernel_rfl
theorem proved:Rows.PositiveBetweenSaid :=
 OpenClaim.holds_of_wide 4 Tryz.f4 rfl rfl rfl rfl rfl rfl rfl ⟨rfl,rfl,rfl,rfl,rfl⟩ rfl rfl rfl rfl rfl (by kernel_rfl) Tryz.func4 closed
  (of_decide_eq_true (by kernel_rfl)) (by unfold Func.isWrapper;first|(rw [if_pos (by decide +kernel)];kernel_rfl)|(rw [if_neg (by decide +kernel)];exact⟨rfl,rfl⟩))
  (fun os started H enc _=>lifted os started H enc)
end RowPositiveBetween
end Go.Proofs.YtbgkjomonebfcaaGreat.Sym
