/- The statement LawShifts is proved: Shift returns the moved law, or the errors as specified; no condition. -/
import Derived.Test.YtegpfcmnjhmhjaaGreatM2
import Derived.Test.YtegpfcmnjhmhjaaGreatM0
import Derived.Test.YtegpfcmnjhmhjaaGreatRows
import Derived.JoinedCond
namespace Go.Proofs.YtegpfcmnjhmhjaaGreat.Sym
open Go Path CInt
set_option linter.unusedVariables false
def insR(x:Rat):List Rat→List Rat
 |[]=>[x]
 |a::r=>if a<x then a::insR x r else if a=x then a::r else x::a::r
theorem insR_mem{x y:Rat} : ∀{l:List Rat},y∈insR x l↔y=x∨y∈l
 |[]=>by simp[insR]
 |a::r=>by
  rw[insR]
  split
  ·rw[List.mem_cons,insR_mem (l:=r),List.mem_cons]
   constructor
   ·rintro (h|h|h)
    ·exact .inr (.inl h)
    ·exact .inl h
    ·exact .inr (.inr h)
   ·rintro (h|h|h)
    ·exact .inr (.inl h)
    ·exact .inl h
    ·exact .inr (.inr h)
  ·split
   ·rename_i h
    subst h
    simp
   ·simp
theorem insR_asc{x:Rat} : ∀{l:List Rat},l.Pairwise (·<·)→(insR x l).Pairwise (·<·)
 |[],_=>List.pairwise_singleton _ _
 |a::r,h=>by
  have h1:=(List.pairwise_cons.1 h).1
  have h2:=(List.pairwise_cons.1 h).2
  rw[insR]
  split
  ·rename_i hx
   refine List.pairwise_cons.2 ⟨fun y hy => ?_,insR_asc h2⟩
   rcases insR_mem.1 hy with e|hy
   ·rw[e];exact hx
   ·exact h1 y hy
  ·split
   ·exact h
   ·rename_i n1 n2
    have hxa:x<a:=by grind
    refine List.pairwise_cons.2 ⟨fun y hy => ?_,h⟩
    rcases List.mem_cons.1 hy with e|hy
    ·rw[e];exact hxa
    ·have:=h1 y hy;grind
def shB(bs:List Rat)(byV:Rat):List Rat:=bs.foldl (fun acc b=>insR (frac (b+byV)) acc) [0]
theorem foldIns_mem{byV y:Rat} : ∀{bs acc:List Rat},y∈bs.foldl (fun acc b=>insR (frac (b+byV)) acc) acc↔y∈acc∨∃b∈bs,y=frac (b+byV)
 |[],acc=>by simp
 |b::bs,acc=>by
  rw[List.foldl_cons,foldIns_mem (bs:=bs),insR_mem]
  constructor
  ·rintro ((h|h)|⟨c,hc,h⟩)
   ·exact .inr ⟨b,List.mem_cons_self ..,h⟩
   ·exact .inl h
   ·exact .inr ⟨c,List.mem_cons_of_mem _ hc,h⟩
  ·rintro (h|⟨c,hc,h⟩)
   ·exact .inl (.inr h)
   ·rcases List.mem_cons.1 hc with e|hc
    ·subst e;exact .inl (.inl h)
    ·exact .inr ⟨c,hc,h⟩
theorem foldIns_asc{byV:Rat} : ∀{bs acc:List Rat},acc.Pairwise (·<·)→(bs.foldl (fun acc b=>insR (frac (b+byV)) acc) acc).Pairwise (·<·)
 |[],acc,h=>h
 |b::bs,acc,h=>foldIns_asc (bs:=bs) (insR_asc h)
theorem shB_mem{bs:List Rat}{byV y:Rat} : y∈shB bs byV↔y=0∨∃b∈bs,y=frac (b+byV):=by
 unfold shB;rw[foldIns_mem];simp
theorem shB_asc(bs:List Rat)(byV:Rat):(shB bs byV).Pairwise (·<·):=foldIns_asc (List.pairwise_singleton _ _)
theorem shB_unit{bs:List Rat}{byV y:Rat}(h:y∈shB bs byV):0≤y∧y<1:=by
 rcases shB_mem.1 h with e|⟨b,_,e⟩
 ·subst e;exact⟨Rat.le_refl,by decide⟩
 ·rw[e];exact⟨frac_ge _,frac_lt _⟩
theorem asc_uniq:∀{l m:List Rat},l.Pairwise (·<·)→m.Pairwise (·<·)→(∀y,y∈l↔y∈m)→l=m
 |[],[],_,_,_=>rfl
 |[],b::m,_,_,h=>by have:=(h b).2 (List.mem_cons_self ..);cases this
 |a::l,[],_,_,h=>by have:=(h a).1 (List.mem_cons_self ..);cases this
 |a::l,b::m,hl,hm,h=>by
  have l1:=(List.pairwise_cons.1 hl).1
  have m1:=(List.pairwise_cons.1 hm).1
  have e:a=b:=by
   have h1:=(h a).1 (List.mem_cons_self ..)
   have h2:=(h b).2 (List.mem_cons_self ..)
   rcases List.mem_cons.1 h1 with e|h1
   ·exact e
   ·rcases List.mem_cons.1 h2 with e|h2
    ·exact e.symm
    ·have:=m1 a h1;have:=l1 b h2;grind
  subst e
  congr 1
  refine asc_uniq (List.pairwise_cons.1 hl).2 (List.pairwise_cons.1 hm).2 (fun y => ?_)
  constructor
  ·intro hy
   rcases List.mem_cons.1 ((h y).1 (List.mem_cons_of_mem _ hy)) with e|k
   ·have:=l1 y hy;rw[e] at this;exact absurd this Rat.lt_irrefl
   ·exact k
  ·intro hy
   rcases List.mem_cons.1 ((h y).2 (List.mem_cons_of_mem _ hy)) with e|k
   ·have:=m1 y hy;rw[e] at this;exact absurd this Rat.lt_irrefl
   ·exact k
def addR(acc:List Rat)(x:Rat):List Rat:=if x∈acc then acc else acc++[x]
def gaB(bs:List Rat)(byV:Rat):List Rat:=bs.foldl (fun acc b=>addR acc (frac (b+byV))) [0]
theorem addR_mem{acc:List Rat}{x y:Rat} : y∈addR acc x↔y=x∨y∈acc:=by
 unfold addR
 split
 ·rename_i h
  constructor
  ·exact .inr
  ·rintro (e|k)
   ·rw[e];exact h
   ·exact k
 ·rw[List.mem_append,List.mem_singleton,or_comm]
theorem addR_nodup{acc:List Rat}{x:Rat}(h:acc.Nodup):(addR acc x).Nodup:=by
 unfold addR
 split
 ·exact h
 ·rename_i hx
  rw[List.nodup_append]
  refine⟨h,by simp,fun a ha b hb => ?_⟩
  rw[List.mem_singleton.1 hb]
  intro e;exact hx (e ▸ ha)
theorem foldAdd_mem{byV y:Rat} : ∀{bs acc:List Rat},y∈bs.foldl (fun acc b=>addR acc (frac (b+byV))) acc↔y∈acc∨∃b∈bs,y=frac (b+byV)
 |[],acc=>by simp
 |b::bs,acc=>by
  rw[List.foldl_cons,foldAdd_mem (bs:=bs),addR_mem]
  constructor
  ·rintro ((h|h)|⟨c,hc,h⟩)
   ·exact .inr ⟨b,List.mem_cons_self ..,h⟩
   ·exact .inl h
   ·exact .inr ⟨c,List.mem_cons_of_mem _ hc,h⟩
  ·rintro (h|⟨c,hc,h⟩)
   ·exact .inl (.inr h)
   ·rcases List.mem_cons.1 hc with e|hc
    ·subst e;exact .inl (.inl h)
    ·exact .inr ⟨c,hc,h⟩
theorem foldAdd_nodup{byV:Rat} : ∀{bs acc:List Rat},acc.Nodup→(bs.foldl (fun acc b=>addR acc (frac (b+byV))) acc).Nodup
 |[],acc,h=>h
 |b::bs,acc,h=>foldAdd_nodup (bs:=bs) (addR_nodup h)
theorem gaB_mem{bs:List Rat}{byV y:Rat} : y∈gaB bs byV↔y=0∨∃b∈bs,y=frac (b+byV):=by
 unfold gaB;rw[foldAdd_mem];simp
theorem gaB_nodup(bs:List Rat)(byV:Rat):(gaB bs byV).Nodup:=foldAdd_nodup (by simp)
theorem gaB_sorted{bs:List Rat}{byV:Rat}{z:List Rat}(hp:z.Perm (gaB bs byV))(hs:z.Pairwise fun a b=>a≤b):z=shB bs byV:=by
 have hn:z.Nodup:=hp.nodup_iff.2 (gaB_nodup bs byV)
 have hlt:z.Pairwise (·<·):=(hs.and hn).imp (fun {a b} h=>by have h1:=h.1;have h2:a≠b:=h.2;grind)
 refine asc_uniq hlt (shB_asc _ _) (fun y => ?_)
 rw[hp.mem_iff,gaB_mem,shB_mem]
theorem gaB_shB_len(bs:List Rat)(byV:Rat):(gaB bs byV).length=(shB bs byV).length:=by
 have h1:((gaB bs byV).mergeSort fun a b=>decide (a≤b)).Perm (gaB bs byV):=List.mergeSort_perm _ _
 have h2:=List.pairwise_mergeSort (le:=fun a b:Rat=>decide (a≤b)) (fun a b c h k=>decide_eq_true (Rat.le_trans (of_decide_eq_true h) (of_decide_eq_true k))) (fun a b=>by
  rcases Rat.le_total (a:=a) (b:=b) with h|h
  ·rw[decide_eq_true h];rfl
  ·rw[decide_eq_true h,Bool.or_true]) (gaB bs byV)
 rw[←gaB_sorted h1 (h2.imp (fun h=>of_decide_eq_true h))]
 exact h1.length_eq.symm
def shP(l:ALaw)(x:Rat):List Rat:=trimL (compL (pcW l (pieceL (vals l.breaks) x)) [x-brkW l (pieceL (vals l.breaks) x),1])
def shW(l:ALaw)(byV:Rat):ALaw:=⟨(shB (vals l.breaks) byV).map mkR,(shB (vals l.breaks) byV).map (fun b=>(shP l (frac (b-byV))).map mkR)⟩
theorem mulL_len2(d:Rat):∀p:List Rat,p≠[]→(mulL p [d,1]).length=p.length+1
 |[],h=>absurd rfl h
 |[a],_=>rfl
 |a::b::p,_=>by
  have h:=mulL_len2 d (b::p) (by simp)
  rw[mulL,len_addL,len_smulL]
  simp only[List.length_cons,List.length_nil] at h ⊢;omega
theorem compL_len2(d:Rat):∀p:List Rat,(compL p [d,1]).length=p.length
 |[]=>rfl
 |a::p=>by
  rw[compL,len_addL]
  cases p with
  |nil=>rfl
  |cons b p =>
   have ih:=compL_len2 d (b::p)
   have hne:compL (b::p) [d,1]≠[]:=by intro e;rw[e] at ih;cases ih
   rw[mulL_len2 d _ hne,ih]
   simp only[List.length_cons,List.length_nil];omega
theorem shP_len(l:ALaw)(g:Good l)(x:Rat):(shP l x).length≤9:=by
 unfold shP
 have h1:=len_trimL (compL (pcW l (pieceL (vals l.breaks) x)) [x-brkW l (pieceL (vals l.breaks) x),1])
 rw[compL_len2] at h1
 have h2:=pcW_len g (pieceL (vals l.breaks) x)
 omega
section
variable {l:ALaw} {byV:Rat}
theorem shW_len:(shW l byV).breaks.length=(shB (vals l.breaks) byV).length∧(shW l byV).pieces.length=(shB (vals l.breaks) byV).length:=by
 unfold shW;simp
theorem chkB_some:∀(bs:List Rat) (q:Rat),(∀b∈bs,0≤b∧b<1)→bs.Pairwise (·<·)→(∀b∈bs,q<b)→chkB (some q) (bs.map mkR)=0
 |[],q,_,_,_=>rfl
 |b::r,q,h1,h2,h3=>by
  have hb:=h1 b (List.mem_cons_self ..)
  have hq:=h3 b (List.mem_cons_self ..)
  rw[List.map_cons,chkB,outB_no (mkR_valid b) (by rw[mkR_val];grind) (by rw[mkR_val];grind),cond_false]
  rw[show badB (some q) (mkR b).val=false from by rw[mkR_val];exact decide_eq_false (by grind),cond_false,mkR_val]
  exact chkB_some r b (fun c hc=>h1 c (List.mem_cons_of_mem _ hc)) (List.pairwise_cons.1 h2).2 (List.pairwise_cons.1 h2).1
theorem shB_head(bs:List Rat)(byV:Rat):∃r,shB bs byV=0::r:=by
 have h0:(0:Rat)∈shB bs byV:=shB_mem.2 (.inl rfl)
 have ha:=shB_asc bs byV
 cases h:shB bs byV with
 |nil=>rw[h] at h0;cases h0
 |cons a r =>
  rw[h] at h0 ha
  rcases List.mem_cons.1 h0 with e|k
  ·exact⟨r,by rw[e]⟩
  ·have h1:=(List.pairwise_cons.1 ha).1 0 k
   have h2:=(shB_unit (bs:=bs) (byV:=byV) (y:=a) (by rw[h];exact List.mem_cons_self ..)).1
   grind
theorem chk_shift(g:Good l)(h16:(shB (vals l.breaks) byV).length≤16):chkLaw (shW l byV)=0:=by
 obtain⟨r,hr⟩:=shB_head (vals l.breaks) byV
 have hne:(shB (vals l.breaks) byV).length≠0:=by rw[hr];simp
 obtain⟨e1,e2⟩:=shW_len (l:=l) (byV:=byV)
 unfold chkLaw
 rw[if_neg (by rw[e1,e2];omega),if_neg (by rw[e1];omega)]
 unfold chkR
 have hb:chkB none (shW l byV).breaks=0:=by
  have hu:∀b∈shB (vals l.breaks) byV,0≤b∧b<1:=fun b hb=>shB_unit hb
  have ha:=shB_asc (vals l.breaks) byV
  show chkB none ((shB (vals l.breaks) byV).map mkR)=0
  rw[hr] at hu ha ⊢
  rw[List.map_cons,chkB,outB_no (mkR_valid 0) (by rw[mkR_val];exact Rat.lt_irrefl) (by rw[mkR_val];decide),cond_false]
  rw[show badB none (mkR 0).val=false from by rw[mkR_val];show decide ((0:Rat)≠0)=false;exact decide_eq_false (fun h=>h rfl),cond_false,mkR_val]
  exact chkB_some r 0 (fun b hb=>hu b (List.mem_cons_of_mem _ hb)) (List.pairwise_cons.1 ha).2 (List.pairwise_cons.1 ha).1
 rw[hb]
 refine chkP_of (fun p hp => ?_)
 obtain⟨b,_,rfl⟩:=List.mem_map.1 hp
 have h9:=shP_len l g (frac (b-byV))
 exact⟨chk_map (lastZ_trimL _) (by omega),by rw[List.length_map];omega⟩
end
end Go.Proofs.YtegpfcmnjhmhjaaGreat.Sym
namespace Go.Proofs.YtegpfcmnjhmhjaaGreat.Sym
open Go Path CInt
set_option linter.unusedVariables false
abbrev pq(q:List Rat):PV:=polyPV (q.map mkR)
theorem getM{q:List Rat}{n:Nat}{v:Rat}(h:q[n]? = some v):(q.map mkR)[n]? = some (mkR v):=by rw[List.getElem?_map,h];rfl
theorem lenM(q:List Rat):(q.map mkR).length=q.length:=List.length_map ..
theorem fitQ{k:Nat}{q:List Rat}(h:Fl k q)(hk:k≤68719476736):FitP 274877906944 (q.map mkR):=fit_map (fl_mono h (by omega))
def chk2(p q:List ARat):Int:=if chk p=0 then chk q else chk p
theorem tab_step{m t:Nat}{f g:Nat→Rat}{v:Rat}(ht:t<m)(hv:f t=v)(ho:∀i,i≠t→f i=g i):((tabL m g).map mkR).set t (mkR v)=(tabL m f).map mkR:=by
 rw[←List.map_set,tabL_set g v ht]
 congr 1
 refine tabL_congr (fun i _ => ?_)
 split
 ·rename_i e;rw[e,hv]
 ·rename_i e;exact(ho i e).symm
theorem ht_mul_take{a b n:Nat}{p q:List Rat}(hp:Fl a p)(hq:Fl b q)(ha:1≤a)(hb:1≤b)(hn:p.length≤n∨q.length≤n)(t i:Nat):ht (coef (mulL (p.take t) q) i)≤n*(a+b+1)+1:=by
 have hpt:∀i,ht (coef (p.take t) i)≤a:=fl_coef (fun x hx=>hp x (List.mem_of_mem_take hx)) ha
 rcases hn with h|h
 ·have h1:=ht_mul_coef (p.take t) q i hpt (fl_coef hq hb)
  have h2:(p.take t).length*(a+b+1)≤n*(a+b+1):=Nat.mul_le_mul_right _ (by rw[List.length_take];omega)
  omega
 ·rw[coef_mul_comm]
  have h1:=ht_mul_coef q (p.take t) i (fl_coef hq hb) hpt
  have h2:q.length*(b+a+1)≤n*(b+a+1):=Nat.mul_le_mul_right _ h
  rw[Nat.add_comm b a] at h1 h2
  omega
theorem fl_mul_min{a b n:Nat}{p q:List Rat}(hp:Fl a p)(hq:Fl b q)(ha:1≤a)(hb:1≤b)(hn:p.length≤n∨q.length≤n):Fl (n*(a+b+1)+1) (mulL p q):=by
 refine fl_of_coef (fun i => ?_)
 have:=ht_mul_take hp hq ha hb hn p.length i
 rwa[List.take_of_length_le (Nat.le_refl _)] at this
theorem trimL_congr_add{p p' q q':List Rat}(h1:trimL p=trimL p')(h2:trimL q=trimL q'):trimL (addL p q)=trimL (addL p' q') :=
 trimL_ext (fun i=>by rw[coef_addL,coef_addL,←coef_trimL p,←coef_trimL q,h1,h2,coef_trimL,coef_trimL])
theorem trimL_congr_mul{p p' q q':List Rat}(h1:trimL p=trimL p')(h2:trimL q=trimL q'):trimL (mulL p q)=trimL (mulL p' q') :=
 eval_ext (fun x=>by rw[evalL_mulL,evalL_mulL,←evalL_trimL x p,←evalL_trimL x q,h1,h2,evalL_trimL,evalL_trimL])
def cB(n a b:Nat):Nat→Nat
 |0=>1
 |j+1=>n*(cB n a b j+b+1)+1+a+1
theorem cB_pos(n a b j:Nat):1≤cB n a b j:=by cases j<;>simp[cB]<;>omega
theorem cB_mono(n a b:Nat)(hn:1≤n)(j:Nat):cB n a b j≤cB n a b (j+1):=by
 rw[cB]
 have:1*(cB n a b j+b+1)≤n*(cB n a b j+b+1):=Nat.mul_le_mul_right _ hn
 omega
theorem cB_le(n a b:Nat)(hn:1≤n):∀(d j:Nat),cB n a b j≤cB n a b (j+d)
 |0,j=>Nat.le_refl _
 |d+1,j=>Nat.le_trans (cB_le n a b hn d j) (cB_mono n a b hn (j+d))
theorem fl_compL{n a b:Nat}{q:List Rat}(hq:Fl b q)(hb:1≤b)(ha:1≤a)(hn:q.length≤n):∀p:List Rat,Fl a p→Fl (cB n a b p.length) (compL p q)
 |[],_=>fun x hx=>by cases hx
 |c::r,hp=>by
  have ih:=fl_compL hq hb ha hn r (fun x hx=>hp x (List.mem_cons_of_mem _ hx))
  have h1:=fl_mul_min ih hq (cB_pos n a b r.length) hb (Or.inr hn)
  have h2:Fl a [c]:=fun x hx=>by rw[List.mem_singleton.1 hx];exact hp c (List.mem_cons_self ..)
  rw[compL,List.length_cons,cB]
  exact fl_mono (fl_addL h1 h2 (by omega) ha) (by omega)
namespace CPl
theorem Trim{k:Nat}(q:List Rat)(hl:q.length≤1000000)(hf:Fl k q)(hk:k≤68719476736):Contract prg 36 [pq q] (pq (trimL q)):=by
 have:=CPo.Trim (q.map mkR) (by rw[lenM];omega) (fitQ hf hk)
 rwa[vals_mkR] at this
theorem coefficient(p:List Rat)(t:Nat):Contract prg 124 [pq p,vI (t:Int)] (mkR (coef p t)).pv:=by
 by_cases h:t<p.length
 ·exact poly_coefficient.e0 _ _ t _ (by rw[lenM];omega) rfl (getM (coef_get h))
 ·rw[coef_ge (by omega)]
  exact poly_coefficient.e1 _ _ (by rw[lenM];omega)
theorem plus{a b d:Nat}(p q:List Rat)(c:Rat)(hlp:p.length≤100000)(hlq:q.length≤100000)(hp:Fl a p)(hq:Fl b q)(hc:ht c≤d)(ha:1≤a)(hb:1≤b)(hk:a+b+d+1≤68719476736):Contract prg 83 [pq p,pq q,(mkR c).pv] (pq (trimL (addL p (smulL c q)))):=by
 have hcoef:∀i,ht (coef p i)≤a∧ht (coef q i)≤b:=fun i=>⟨fl_coef hp ha i,fl_coef hq hb i⟩
 have hmax:max (p.map mkR).length (q.map mkR).length=max p.length q.length:=by rw[lenM,lenM]
 have loop:∀(j t:Nat),max p.length q.length-t=j→poly_plus.Loop1 (p.map mkR) (q.map mkR) t (mkR c) ((tabL (max p.length q.length) (fun i=>if i<t then coef p i+c*coef q i else 0)).map mkR) (pq (trimL (addL p (smulL c q)))):=by
  intro j
  induction j with
  |zero =>
   intro t hj
   have e:trimL (addL p (smulL c q))=trimL (tabL (max p.length q.length) (fun i=>if i<t then coef p i+c*coef q i else 0)):=by
    refine trimL_ext (fun i => ?_)
    rw[coef_addL,coef_smulL]
    by_cases hi:i<max p.length q.length
    ·rw[coef_of (tabL_get _ hi),if_pos (by omega)]
    ·rw[coef_ge (p:=tabL _ _) (by rw[tabL_len];omega),coef_ge (p:=p) (by omega),coef_ge (p:=q) (by omega)];grind
   rw[e]
   refine poly_plus.l11 _ _ t _ _ _ (by omega) (by rw[hmax,lenM,tabL_len]) (Trim (k:=a+b+d+1) _ (by rw[tabL_len];omega) (fl_of_coef (fun i => ?_)) hk)
   obtain⟨c1,c2⟩:=hcoef i
   have h1:=ht_mul c (coef q i)
   have h2:=ht_add (coef p i) (c*coef q i)
   have h0:=ht_zero
   by_cases hi:i<max p.length q.length
   ·rw[coef_of (tabL_get _ hi),if_pos (by omega)];omega
   ·rw[coef_ge (p:=tabL _ _) (by rw[tabL_len];omega),h0];omega
  |succ j ih =>
   intro t hj
   obtain⟨c1,c2⟩:=hcoef t
   have h1:=ht_mul c (coef q t)
   refine poly_plus.l10 _ _ t _ _ _ _ _ _ (by omega) (coefficient p t) (coefficient q t) (QF.Mul c (coef q t) (by omega) (by omega)) (QF.Add (coef p t) (c*coef q t) (by omega) (by omega)) (by rw[lenM,tabL_len];omega) (by omega) ?_
   rw[tab_step (f:=fun i=>if i<t+1 then coef p i+c*coef q i else 0) (by omega) (if_pos (by omega)) (fun i hi=>by
    by_cases h:i<t
    ·rw[if_pos h,if_pos (by omega)]
    ·rw[if_neg h,if_neg (by omega)])]
   exact ih (t+1) (by omega)
 have:=loop _ 0 rfl
 refine poly_plus.e0 _ _ _ (by omega) ?_
 rw[hmax,tabL_zero]
 exact this
theorem times{a b:Nat}(n:Nat)(p q:List Rat)(hlp:p.length≤100000)(hlq:q.length≤100000)(hp:Fl a p)(hq:Fl b q)(ha:1≤a)(hb:1≤b)(hn:p.length≤n∨q.length≤n)(hk:(n+1)*(a+b+1)+1≤68719476736):Contract prg 84 [pq p,pq q] (pq (trimL (mulL p q))):=by
 rw[Nat.add_mul] at hk
 by_cases h0:p.length=0
 ·rw[List.eq_nil_of_length_eq_zero h0]
  exact poly_times.e0 _ _ rfl
 by_cases h1:q.length=0
 ·have e:trimL (mulL p q)=trimL []:=eval_ext (fun x=>by rw[evalL_mulL,List.eq_nil_of_length_eq_zero h1];show _*(0:Rat)=0;rw[Rat.mul_zero])
  rw[e]
  exact poly_times.e1 _ _ (by rw[lenM];exact h0) (by rw[lenM];exact h1)
 have hm:∀i,p.length+q.length-1≤i→∀t,coef (mulL (p.take t) q) i=0:=by
  intro i hi t
  have key:∀(p:List Rat) (i:Nat),p.length+q.length-1≤i→coef (mulL p q) i=0:=by
   intro p
   induction p with
   |nil=>intro i _;rfl
   |cons c p ih =>
    intro i hi
    rw[List.length_cons] at hi
    rw[coef_mul_cons,coef_ge (p:=q) (by omega)]
    cases i with
    |zero=>rw[coef_zero];grind
    |succ i =>
     rw[coef_succ]
     cases p with
     |nil=>rw[mulL,coef_nil];grind
     |cons d p=>rw[ih i (by omega)];grind
  exact key _ i (by rw[List.length_take];omega)
 have bG:=ht_mul_take hp hq ha hb hn
 have outer:∀(j t:Nat),p.length-t=j→t≤p.length→poly_times.Loop1 (q.map mkR) (p.length+q.length-1) (p.map mkR) t ((tabL (p.length+q.length-1) (coef (mulL (p.take t) q))).map mkR) (pq (trimL (mulL p q))):=by
  intro j
  induction j with
  |zero =>
   intro t hj ht
   have e:trimL (mulL p q)=trimL (tabL (p.length+q.length-1) (coef (mulL (p.take t) q))):=by
    refine trimL_ext (fun i => ?_)
    rw[tabL_coef (fun i hi=>hm i hi t),List.take_of_length_le (by omega)]
   rw[e]
   refine poly_times.l11 _ _ _ t _ _ (by rw[lenM];omega) (by rw[lenM,tabL_len]) (Trim (k:=n*(a+b+1)+1) _ (by rw[tabL_len];omega) (fl_of_coef (fun i => ?_)) (by omega))
   rw[tabL_coef (fun i hi=>hm i hi t)]
   exact bG t i
  |succ j ih =>
   intro t hj ht
   obtain⟨v,hv⟩:∃v,p[t]? = some v:=⟨_,List.getElem?_eq_getElem (by omega)⟩
   have hvh:=hp v (List.mem_of_getElem? hv)
   refine poly_times.l10 _ _ _ t _ (mkR v) (by rw[lenM];omega) (getM hv) ?_
   have inner:∀(k u:Nat),q.length-u=k→u≤q.length→poly_times.Loop2 (q.map mkR) (p.length+q.length-1) t (p.map mkR) t u (mkR v) ((tabL (p.length+q.length-1) (fun i=>coef (mulL (p.take t) q) i+if t≤i∧i<t+u then v*coef q (i-t) else 0)).map mkR) (pq (trimL (mulL p q))):=by
    intro k
    induction k with
    |zero =>
     intro u hk2 hu
     refine poly_times.l21 _ _ t _ t u _ _ (by rw[lenM];omega) (by omega) ?_
     have:=ih (t+1) (by omega) (by omega)
     rwa[tabL_congr (f:=coef (mulL (p.take (t+1)) q)) (g:=fun i=>coef (mulL (p.take t) q) i+if t≤i∧i<t+u then v*coef q (i-t) else 0) (fun i hi=>by
      rw[coef_mul_snoc hv,coef_shiftL,coef_smulL]
      congr 1
      by_cases h1:i<t
      ·rw[if_pos h1,if_neg (by omega)]
      ·rw[if_neg h1]
       by_cases h2:i<t+u
       ·rw[if_pos (by omega)]
       ·rw[if_neg (by omega),coef_ge (p:=q) (by omega),Rat.mul_zero])] at this
    |succ k ih2 =>
     intro u hk2 hu
     obtain⟨w,hw⟩:∃w,q[u]? = some w:=⟨_,List.getElem?_eq_getElem (by omega)⟩
     have hwh:=hq w (List.mem_of_getElem? hw)
     have hg:t+u<p.length+q.length-1:=by omega
     have b1:=bG t (t+u)
     have b2:=ht_mul v w
     refine poly_times.l20 _ _ t _ t u _ _ (mkR w) (mkR (coef (mulL (p.take t) q) (t+u))) _ _ (by rw[lenM];omega) (getM hw) (by omega) hg ?_ (QF.Mul v w (by omega) (by omega)) (QF.Add (coef (mulL (p.take t) q) (t+u)) (v*w) (by omega) (by omega)) (by rw[lenM,tabL_len];omega) (by omega) ?_
     ·rw[getM (tabL_get _ hg),if_neg (by omega),Rat.add_zero]
     ·rw[tab_step (f:=fun i=>coef (mulL (p.take t) q) i+if t≤i∧i<t+(u+1) then v*coef q (i-t) else 0) hg (by
       rw[if_pos (by omega),show t+u-t=u from by omega,coef_of hw]) (fun i hi=>by
       congr 1
       by_cases h:t≤i∧i<t+u
       ·rw[if_pos h,if_pos (by omega)]
       ·rw[if_neg h,if_neg (by omega)])]
      exact ih2 (u+1) (by omega) (by omega)
   have:=inner _ 0 rfl (by omega)
   rwa[tabL_congr (g:=coef (mulL (p.take t) q)) (fun i hi=>by rw[if_neg (by omega),Rat.add_zero])] at this
 have:=outer _ 0 rfl (by omega)
 refine poly_times.e2 _ _ (p.length+q.length-1) (by rw[lenM];exact h0) (by rw[lenM];exact h1) (by rw[lenM,lenM];omega) (by rw[lenM,lenM];unfold InI64;omega) (by rw[lenM,lenM];omega) (by omega) ?_
 rw[tabL_zero]
 exact this
theorem checks2(p q:List ARat)(hp:FitP 274877906944 p)(hq:FitP 274877906944 q):Contract prg 82 [lpv (lcell ARat.cells) [p,q]] (errPV (errOf (chk2 p q))):=by
 have h1:=CPo.Check p hp
 have h2:=CPo.Check q hq
 refine poly_checks.e0 [p,q] ?_
 unfold chk2
 by_cases e:chk p=0
 ·rw[if_pos e]
  rw[e] at h1
  refine poly_checks.l10 _ 0 p (by simp) rfl h1 (by omega) ?_
  by_cases e2:chk q=0
  ·rw[e2] at h2 ⊢
   exact poly_checks.l10 _ 1 q (by simp) rfl h2 (by omega) (poly_checks.l12 _ 2 (by simp))
  ·rw[errOf_ne e2] at h2 ⊢
   exact poly_checks.l11 _ 1 q _ (by simp) rfl h2
 ·rw[if_neg e]
  rw[errOf_ne e] at h1 ⊢
  exact poly_checks.l11 _ 0 p _ (by simp) rfl h1
theorem Compose{a b:Nat}(n:Nat)(p q:List Rat)(hc:chk2 (p.map mkR) (q.map mkR)=0)(hd:¬(1<p.length∧1<q.length∧64<(p.length-1)*(q.length-1)))(hp:Fl a p)(hq:Fl b q)(ha:1≤a)(hb:1≤b)(hn:q.length≤n)(hn1:1≤n)(hk:(n+1)*(cB n a b p.length+b+1)+a+3≤68719476736):Contract prg 38 [pq p,pq q] (.tup [pq (trimL (compL p q)),.nilI]):=by
 have hk':n*(cB n a b p.length+b+1)+(cB n a b p.length+b+1)+a+3≤68719476736:=by rw[Nat.add_mul] at hk;omega
 have hmn:1*(cB n a b p.length+b+1)≤n*(cB n a b p.length+b+1):=Nat.mul_le_mul_right _ hn1
 have hcl:chk (p.map mkR)=0∧chk (q.map mkR)=0:=by
  unfold chk2 at hc
  split at hc
  ·rename_i h;exact⟨h,hc⟩
  ·rename_i h;exact absurd hc h
 have hp65:=chk_len hcl.1
 have hq65:=chk_len hcl.2
 rw[lenM] at hp65 hq65
 have hck:=checks2 (p.map mkR) (q.map mkR) (fitQ hp (by have:=cB_pos n a b p.length;omega)) (fitQ hq (by omega))
 rw[hc] at hck
 have loop:∀(m:Nat) (out:List Rat),m≤p.length→out=trimL (compL (p.drop m) q)→poly_Compose.Loop1 (p.map mkR) (q.map mkR) (out.map mkR) ((m:Int)-1) (.tup [pq (trimL (compL p q)),.nilI]):=by
  intro m
  induction m with
  |zero =>
   intro out _ ho
   rw[List.drop_zero] at ho
   rw[←ho]
   exact poly_Compose.l11 _ _ _ _ (by omega)
  |succ m ih =>
   intro out hm ho
   obtain⟨v,hv⟩:∃v,p[m]? = some v:=⟨_,List.getElem?_eq_getElem (by omega)⟩
   have hvh:=hp v (List.mem_of_getElem? hv)
   have hlen:∀r:List Rat,(compL r q).length≤r.length*(q.length+1):=by
    intro r
    induction r with
    |nil=>simp[compL]
    |cons c r ih =>
     have:=len_mulL (compL r q) q
     rw[compL,len_addL]
     simp only[List.length_cons,List.length_nil]
     rw[Nat.add_mul]
     omega
   have hl1:=hlen (p.drop (m+1))
   have hl2:(p.drop (m+1)).length*(q.length+1)≤65*66:=Nat.mul_le_mul (by rw[List.length_drop];omega) (by omega)
   have hlo:out.length≤4290:=by rw[ho];have:=len_trimL (compL (p.drop (m+1)) q);omega
   have hfo:Fl (cB n a b (p.drop (m+1)).length) out:=by
    rw[ho]
    exact fl_trimL (fl_compL hq hb ha hn _ (fun x hx=>hp x (List.mem_of_mem_drop hx)))
   have hmono:=cB_le n a b hn1 (p.length-(p.drop (m+1)).length) (p.drop (m+1)).length
   rw[show (p.drop (m+1)).length+(p.length-(p.drop (m+1)).length)=p.length from by rw[List.length_drop];omega] at hmono
   have hfo':=fl_mono hfo hmono
   have htm:=times n out q (by omega) (by omega) hfo' hq (cB_pos ..) hb (Or.inr hn) (by omega)
   have hft:=fl_trimL (fl_mul_min hfo' hq (cB_pos ..) hb (Or.inr hn))
   have hsl:((p.map mkR).take (m+1)).drop m=[v].map mkR:=by
    rw[←List.map_take,←List.map_drop,List.take_add_one,hv,List.drop_append_of_le_length (by rw[List.length_take];omega),List.drop_of_length_le (by rw[List.length_take];omega)]
    rfl
   have htr:=Trim (k:=a) [v] (by simp) (fun x hx=>by rw[List.mem_singleton.1 hx];exact hvh) (by omega)
   have hone:=CFr.Of 1 (by unfold InI64;omega)
   have hl3:=len_mulL out q
   have hl4:=len_trimL (mulL out q)
   have hl5:=len_trimL [v]
   have hpl:=plus (d:=1) (trimL (mulL out q)) (trimL [v]) ((1:Int):Rat) (by omega) (by simp at hl5;omega) hft (fl_trimL (k:=a) (fun x hx=>by rw[List.mem_singleton.1 hx];exact hvh)) (by decide) (by omega) ha (by omega)
   have e:trimL (addL (trimL (mulL out q)) (smulL ((1:Int):Rat) (trimL [v])))=trimL (compL (p.drop m) q):=by
    rw[drop_cons hv,compL]
    refine trimL_congr_add ?_ ?_
    ·rw[trimL_idem,ho];exact trimL_congr_mul (trimL_idem _) rfl
    ·refine trimL_ext (fun i => ?_)
     rw[coef_smulL,coef_trimL,show((1:Int):Rat)=1 from rfl,Rat.one_mul]
   rw[e] at hpl
   have htr:Contract prg 36 [polyPV (((p.map mkR).take (m+1)).drop m)] (pq (trimL [v])):=by rw[hsl];exact htr
   refine poly_Compose.l10 _ _ _ _ _ m (m+1) _ _ _ (by omega) htm (by unfold InI64;omega) (by omega) (by omega) (by rw[lenM];omega) (by omega) htr hone hpl (by unfold InI64;omega) ?_
   have:=ih _ (by omega) rfl
   rwa[show ((m+1:Nat):Int)-1-1=(m:Int)-1 from by omega]
 have:=loop p.length [] (Nat.le_refl _) (by rw[List.drop_of_length_le (Nat.le_refl _)];rfl)
 have hpl:((p.map mkR).length:Int)-1=(p.length:Int)-1:=by rw[lenM]
 by_cases h1:1<p.length
 ·by_cases h2:1<q.length
  ·have d1:=poly_Degree.e0 (p.map mkR) (by rw[lenM];unfold InI64;omega)
   have d2:=poly_Degree.e0 (q.map mkR) (by rw[lenM];unfold InI64;omega)
   have hle:(p.length-1)*(q.length-1)≤64:=by
    refine Nat.le_of_not_lt fun h=>hd ⟨h1,h2,h⟩
   have hcast:(((p.map mkR).length:Int)-1)*(((q.map mkR).length:Int)-1)=(((p.length-1)*(q.length-1):Nat):Int):=by
    rw[lenM,lenM,Int.natCast_mul,Int.natCast_sub (by omega),Int.natCast_sub (by omega)];rfl
   refine poly_Compose.e1 _ _ _ _ hck (by rw[lenM];exact h1) (by rw[lenM];exact h2) d1 d2 (by rw[hcast];unfold InI64;omega) (by rw[hcast];omega) (by rw[lenM];unfold InI64;omega) ?_
   rw[hpl];exact this
  ·refine poly_Compose.e2 _ _ hck (by rw[lenM];exact h1) (by rw[lenM];omega) (by rw[lenM];unfold InI64;omega) ?_
   rw[hpl];exact this
 ·refine poly_Compose.e3 _ _ hck (by rw[lenM];omega) (by rw[lenM];unfold InI64;omega) ?_
  rw[hpl];exact this
end CPl
end Go.Proofs.YtegpfcmnjhmhjaaGreat.Sym
namespace Go.Proofs.YtegpfcmnjhmhjaaGreat.Sym
open Go Path CInt
set_option linter.unusedVariables false
def unW:List PV→UInt32
 |[.int _ n]=>UInt32.ofNat n.toNat
 |_=>0
def unR:List PV→Rat
 |[.bool s,.list n,.list d]=>ARat.val ⟨s,n.map unW,d.map unW⟩
 |_=>0
theorem unW_map(l:Words):(l.map wordPV).map unW=l:=by
 rw[List.map_map]
 conv=>rhs;rw[←List.map_id l]
 refine List.map_congr_left (fun w _ => ?_)
 show UInt32.ofNat (w.toNat:Int).toNat=w
 rw[Int.toNat_natCast]
 exact UInt32.ofNat_toNat
theorem unR_cells(a:ARat):unR a.cells=a.val:=by
 show ARat.val ⟨a.neg,(a.num.map wordPV).map unW,(a.den.map wordPV).map unW⟩=a.val
 rw[unW_map,unW_map]
def cRat(x y:List PV):Int:=cmpR (unR x) (unR y)
theorem swo_rat(xs:List (List PV)):Swo cRat xs where
 irrefl a _ h:=absurd (cmpR_lt.1 h) Rat.lt_irrefl
 trans a _ b _ c _ h1 h2:=by
  have h1:=cmpR_lt.1 h1
  have h2:=cmpR_lt.1 h2
  exact cmpR_lt.2 (by grind)
 ntrans a _ b _ c _ h1 h2 h3:=by
  have h1:¬unR a<unR b:=fun h=>h1 (cmpR_lt.2 h)
  have h2:¬unR b<unR c:=fun h=>h2 (cmpR_lt.2 h)
  have h3:=cmpR_lt.1 h3
  grind
theorem sort_list(L:List ARat)(h0:0<L.length):∃Z:List ARat,Z.Perm L∧sortBy cRat (L.map ARat.cells)=Z.map ARat.cells∧Z.Pairwise fun a b=>a.val≤b.val:=by
 have h0':0<(L.map ARat.cells).length:=by rw[List.length_map];exact h0
 have hO:=swo_rat (L.map ARat.cells)
 have he:sortBy cRat (L.map ARat.cells)=((sortIx cRat (L.map ARat.cells)).toList.map (L.getD · ⟨false,[],[]⟩)).map ARat.cells:=by
  unfold sortBy
  rw[List.map_map]
  refine List.map_congr_left (fun i hi => ?_)
  have hil:=sortIx_lt hO h0' hi
  rw[List.length_map] at hil
  show(L.map ARat.cells).getD i []=(L.getD i ⟨false,[],[]⟩).cells
  rw[List.getD_eq_getElem?_getD,List.getElem?_map,List.getElem?_eq_getElem hil,List.getD_eq_getElem?_getD,List.getElem?_eq_getElem hil]
  rfl
 refine⟨_,?_,he,?_⟩
 ·have:=(sortIx_spec hO h0').1.map (L.getD · (⟨false,[],[]⟩:ARat))
  rw[List.length_map,range_getD] at this
  exact this
 ·have:=sortBy_sorted hO h0'
  rw[he,List.pairwise_map] at this
  refine this.imp (fun {a b} h => ?_)
  have h:¬cmpR (unR b.cells) (unR a.cells)<0:=h
  rw[unR_cells,unR_cells] at h
  have:¬b.val<a.val:=fun k=>h (cmpR_lt.2 k)
  grind
theorem callable_of {P : Program} {f : FuncId} {fn : Func} (h : P.funcs[f]? = some fn) (hb : (fn.body.isSome && !(fn.name == "runtime.NumGoroutine")) = true) : Callable P f := by
  rw [Bool.and_eq_true, Bool.not_eq_true'] at hb
  exact ⟨fn, h, hb.1, hb.2⟩
namespace CLw
theorem SortFunc(L:List ARat)(h0:0<L.length)(hsz:L.length<4611686018427387904)(hf:∀a∈L,FitR a) :
  ∃Z:List ARat,Z.Perm L∧(Z.Pairwise fun a b=>a.val≤b.val)∧ContractX prg 33 [.row 100000 0 L.length 3,.pv (.fn 32)] [(100000,(.pure ((L:List ARat).map ARat.cells).flatten))] (.pv (.tup [])) [(100000,(.pure ((Z:List ARat).map ARat.cells).flatten))]:=by
 obtain⟨Z,h1,h2,h3⟩:=sort_list L h0
 have h:=sort_fn (P:=prg) (ρ:=Lay.sortRat_ren) (k:=3) (n:=L.length) (xs:=L.map ARat.cells) (c:=cRat) (by unfold Str;trivial) Lay.sortRat (callable_of Tryz.func33 (by kernel_rfl)) Tryz.isAgg28 Tryz.sizeOf28 [] [] 100000 (fun row hr=>by obtain⟨a,_,rfl⟩:=List.mem_map.1 hr;rfl) (by rw[List.length_map]) h0 (by omega) hsz (swo_rat _) (g:=32) (fun a ha b hb=>by
  obtain⟨x,hx,rfl⟩:=List.mem_map.1 ha
  obtain⟨y,hy,rfl⟩:=List.mem_map.1 hb
  have:=CFr.Cmp x y (hf x hx) (hf y hy)
  show Contract prg 32 [x.pv,y.pv] (.int .i64 (cmpR (unR x.cells) (unR y.cells)))
  rw[unR_cells,unR_cells]
  exact this)
 rw[List.nil_append,List.append_nil,List.nil_append,List.append_nil,h2] at h
 exact⟨Z,h1,h3,h⟩
theorem Shift1(y x:ARat)(hy:FitR y)(hx:FitR x):ContractX prg 31 [.pv y.pv,.ptr 100001 0] [(100001,(.lit [(eB x.neg),(.pv (wordsPV x.num)),(.pv (wordsPV x.den))]))] (.pv (vB (cmpR x.val y.val==0))) [(100001,(.lit [(eB x.neg),(.pv (wordsPV x.num)),(.pv (wordsPV x.den))]))] :=
 law_Shift_1.e0 y x _ (CFr.Cmp x y hx hy)
def idxR(v:Rat):Nat→List ARat→Int
 |_,[] => -1
 |t,a::r=>if v=a.val then (t:Int) else idxR v (t+1) r
theorem idxR_ge(v:Rat):∀(l:List ARat) (t:Nat),0≤idxR v t l↔v∈vals l
 |[],t=>by
  constructor
  ·intro h
   have:(0:Int) ≤ -1:=h
   omega
  ·intro h;cases h
 |a::r,t=>by
  rw[idxR]
  show _↔v∈a.val::vals r
  rw[List.mem_cons]
  split
  ·rename_i h
   exact⟨fun _ => .inl h,fun _=>by omega⟩
  ·rename_i h
   rw[idxR_ge v r (t+1)]
   exact⟨.inr,fun k=>k.resolve_left h⟩
theorem Index(s:List ARat)(f:ARat)(hs:∀a∈s,FitR a)(hf:FitR f)(hl:s.length<4611686018427387904) :
  ContractX prg 78 [.row 100000 0 s.length 3,.clo 31 100001] [(100000,(.pure ((s:List ARat).map ARat.cells).flatten)),(100001,(.lit [(eB f.neg),(.pv (wordsPV f.num)),(.pv (wordsPV f.den))]))] (.pv (vI (idxR f.val 0 s))) [(100000,(.pure ((s:List ARat).map ARat.cells).flatten)),(100001,(.lit [(eB f.neg),(.pv (wordsPV f.num)),(.pv (wordsPV f.den))]))]:=by
 refine slices_IndexFunc_Rat.e0 s s.length f ?_
 have loop:∀(j t:Nat),s.length-t=j→t≤s.length→slices_IndexFunc_Rat.Loop1 s.length f t s [(100000,(.pure ((s:List ARat).map ARat.cells).flatten)),(100001,(.lit [(eB f.neg),(.pv (wordsPV f.num)),(.pv (wordsPV f.den))]))] (.pv (vI (idxR f.val t (s.drop t)))) [(100000,(.pure ((s:List ARat).map ARat.cells).flatten)),(100001,(.lit [(eB f.neg),(.pv (wordsPV f.num)),(.pv (wordsPV f.den))]))]:=by
  intro j
  induction j with
  |zero =>
   intro t hj ht
   rw[List.drop_of_length_le (by omega)]
   exact slices_IndexFunc_Rat.l12 s.length f t s rfl rfl (by omega)
  |succ j ih =>
   intro t hj ht
   obtain⟨v,hv⟩:∃v,s[t]? = some v:=⟨_,List.getElem?_eq_getElem (by omega)⟩
   have hc:=Shift1 v f (hs v (List.mem_of_getElem? hv)) hf
   rw[drop_cons hv,idxR]
   by_cases e:f.val=v.val
   ·rw[if_pos e]
    exact slices_IndexFunc_Rat.l10 s.length f t s v _ rfl rfl (by omega) hv hc (by rw[cmpR_eq.2 e];rfl)
   ·rw[if_neg e]
    exact slices_IndexFunc_Rat.l11 s.length f t s v _ rfl (by omega) hv hc (by simpa using fun h=>e (cmpR_eq.1 h)) (by omega) (ih (t+1) (by omega) (by omega))
 have:=loop _ 0 rfl (Nat.zero_le _)
 rwa[List.drop_zero] at this
theorem Contains(s:List ARat)(f:ARat)(hs:∀a∈s,FitR a)(hf:FitR f)(hl:s.length<4611686018427387904) :
  ContractX prg 30 [.row 100000 0 s.length 3,.clo 31 100001] [(100000,(.pure ((s:List ARat).map ARat.cells).flatten)),(100001,(.lit [(eB f.neg),(.pv (wordsPV f.num)),(.pv (wordsPV f.den))]))] (.pv (vB (decide (f.val∈vals s)))) [(100000,(.pure ((s:List ARat).map ARat.cells).flatten)),(100001,(.lit [(eB f.neg),(.pv (wordsPV f.num)),(.pv (wordsPV f.den))]))]:=by
 have h:=slices_ContainsFunc_Rat.e0 s s.length f s _ (Index s f hs hf hl)
 rwa[show decide (idxR f.val 0 s≥0)=decide (f.val∈vals s) from by simp only[ge_iff_le,idxR_ge]] at h
theorem cB_le(n a b:Nat)(hn:1≤n){i j:Nat}(h:i≤j):cB n a b i≤cB n a b j:=by
 induction h with
 |refl=>exact Nat.le_refl _
 |step _ ih=>exact Nat.le_trans ih (cB_mono n a b hn _)
theorem lastW{l:ALaw}(g:Good l)(t:Nat):lastZ (pcW l t)=false:=by
 unfold pcW
 cases h:l.pieces[t]? with
 |some p=>exact chk_last (g.ps p (List.mem_of_getElem? h)).1
 |none=>rfl
theorem lastZ_d1(d:Rat):lastZ [d,1]=false:=by
 have:=lastZ_trimL [d,1]
 rwa[show trimL [d,1]=[d,1] from by simp[trimL]] at this
theorem trimL_d1(d:Rat):trimL [d,1]=[d,1]:=by simp[trimL]
def shiftPV(l:ALaw)(byV:Rat):PV:=if 16<(shB (vals l.breaks) byV).length then .tup [(⟨[],[]⟩:ALaw).pv,errPV (some 4)] else .tup [(shW l byV).pv,.nilI]
theorem sh_ht{l:ALaw}{byV b:Rat}(hf:FitW 64 l)(hby:ht byV≤64)(hb:b∈shB (vals l.breaks) byV):ht b≤260:=by
 rcases shB_mem.1 hb with e|⟨c,hc,e⟩
 ·rw[e,ht_zero];omega
 ·obtain⟨a,ha,rfl⟩:=List.mem_map.1 hc
  have h1:=ht_fit (hf.1 a ha).1 (hf.1 a ha).2 (by omega)
  have h2:=ht_add a.val byV
  have h3:=ht_frac (x:=a.val+byV) (k:=129) (by omega)
  rw[e];omega
theorem Shift(l:ALaw)(byV:ARat)(hc:chkLaw l=0)(hf:FitW 64 l)(hv:byV.valid=true)(hby:byV.num.length≤64∧byV.den.length≤64):Contract prg 9 [l.pv,byV.pv] (shiftPV l byV.val):=by
 have g:=good_of hc
 have hle:=g.le
 have hck:=Check l ⟨fun a ha=>⟨by have:=(hf.1 a ha).1;omega,by have:=(hf.1 a ha).2;omega⟩,fun p hp a ha=>⟨by have:=(hf.2 p hp a ha).1;omega,by have:=(hf.2 p hp a ha).2;omega⟩⟩
 rw[hc] at hck
 have hval:=CFr.Valid byV ⟨by omega,by omega⟩
 rw[hv] at hval
 have hbh:=ht_fit hby.1 hby.2 (by omega)
 have hlb:(vals l.breaks).length=l.breaks.length:=List.length_map ..
 have hzero:(⟨false,[],[]⟩:ARat)=mkR 0:=rfl
 have loop2:∀(j t:Nat),(shB (vals l.breaks) byV.val).length-t=j→t≤(shB (vals l.breaks) byV.val).length→(shB (vals l.breaks) byV.val).length≤17 →
   law_Shift.Loop2 ((shB (vals l.breaks) byV.val).map mkR) t l byV (((shB (vals l.breaks) byV.val).take t).map (fun b=>(shP l (frac (b-byV.val))).map mkR)) (.tup [(shW l byV.val).pv,.nilI]):=by
  intro j
  induction j with
  |zero =>
   intro t hj ht h17
   have e:(shB (vals l.breaks) byV.val).take t=shB (vals l.breaks) byV.val:=List.take_of_length_le (by omega)
   rw[e]
   exact law_Shift.l23 _ t l byV _ (by rw[List.length_map];omega)
  |succ j ih =>
   intro t hj ht h17
   obtain⟨b,hb⟩:∃b,(shB (vals l.breaks) byV.val)[t]? = some b:=⟨_,List.getElem?_eq_getElem (by omega)⟩
   have hz:((shB (vals l.breaks) byV.val).map mkR)[t]? = some (mkR b):=by rw[List.getElem?_map,hb];rfl
   have b0:=sh_ht hf hbh (List.mem_of_getElem? hb)
   have s1:=CFr.Sub (mkR b) byV (fit_mkR (by omega)) ⟨by omega,by omega⟩
   rw[mkR_val] at s1
   have b1:=ht_sub b byV.val
   have f1:=fit_mkRk (q:=b-byV.val) (k:=325) (by omega)
   have w1:=wrapped (mkR (b-byV.val)) ⟨by omega,by omega⟩
   rw[mkR_val] at w1
   have b2:=ht_frac (x:=b-byV.val) (k:=325) (by omega)
   have f2:=fit_mkRk (q:=frac (b-byV.val)) (k:=652) (by omega)
   have p1:=piece l (mkR (frac (b-byV.val))) g (fun a ha=>⟨by have:=(hf.1 a ha).1;omega,by have:=(hf.1 a ha).2;omega⟩) ⟨by omega,by omega⟩ (by rw[mkR_val];exact frac_ge _)
   rw[mkR_val] at p1
   obtain⟨q1,q2,q3⟩:=piece_spec g (frac_ge (b-byV.val)) (frac_lt (b-byV.val))
   have hsh:shP l (frac (b-byV.val))=trimL (compL (pcW l (pieceL (vals l.breaks) (frac (b-byV.val)))) [frac (b-byV.val)-brkW l (pieceL (vals l.breaks) (frac (b-byV.val))),1]):=rfl
   generalize hx:frac (b-byV.val)=x at *
   generalize hk:pieceL (vals l.breaks) x=k at *
   obtain⟨v1,v2,hv1,hv2,e1,e2,hcp,h9⟩:=g.at (t:=k) (by rw[←g.len];exact q1)
   have b3:=ht_brkW hf (by omega) k
   have s2:=CFr.Sub (mkR x) v1 (fit_mkR (by omega)) (by rw[e1];exact fit_mkR (by omega))
   rw[mkR_val,e1,mkR_val] at s2
   have b4:=ht_sub x (brkW l k)
   have hfl:Fl 717 [x-brkW l k,1]:=fun y hy=>by
    rcases List.mem_cons.1 hy with e|hy
    ·rw[e];omega
    ·rw[List.mem_singleton.1 hy];exact Nat.le_trans (show Sym.ht (1:Rat)≤1 from by decide) (by omega)
   have t1:=CPl.Trim [x-brkW l k,1] (by simp) hfl (by omega)
   rw[trimL_d1] at t1
   have hpl:=pcW_len g k
   have c1:=CPl.Compose (a:=64) (b:=717) 2 (pcW l k) [x-brkW l k,1] (by unfold chk2;rw[if_pos (chk_map (lastW g k) (by omega))];exact chk_map (lastZ_d1 _) (by simp)) (by simp;omega) (fl_pcW hf (by omega) k) hfl (by omega) (by omega) (by simp) (by omega) (by
    have:=cB_le 2 64 717 (by omega) hpl
    have e:cB 2 64 717 9≤800000:=by decide
    omega)
   rw[←hsh] at c1
   rw[e1] at hv1
   rw[e2] at hv2
   have hnx:=ih (t+1) (by omega) (by omega) h17
   rw[drop_take_map _ hb,hx] at hnx
   exact law_Shift.l20 _ t l byV _ _ _ _ _ k _ _ _ _ k _ _ (by rw[List.length_map];omega) hz s1 w1 p1 rfl hv1 s2 one t1 rfl hv2 c1 (by simp;omega) (by omega) hnx
 have loop1:∀(j t:Nat) (acc:List Rat),l.breaks.length-t=j→t≤l.breaks.length→((vals l.breaks).drop t).foldl (fun acc b=>addR acc (frac (b+byV.val))) acc=gaB (vals l.breaks) byV.val→(∀q∈acc,ht q≤260)→0<acc.length→acc.length≤t+1 →
   law_Shift.Loop1 (acc.map mkR).length l t byV (acc.map mkR) (shiftPV l byV.val):=by
  intro j
  induction j with
  |zero =>
   intro t acc hj ht hac hah h0 hal
   rw[List.drop_of_length_le (by omega)] at hac
   have hac:acc=gaB (vals l.breaks) byV.val:=hac
   have hlen:=gaB_shB_len (vals l.breaks) byV.val
   rw[←hac] at hlen
   unfold shiftPV
   by_cases h16:16<(shB (vals l.breaks) byV.val).length
   ·rw[if_pos h16]
    exact law_Shift.l13 _ l t byV _ (by omega) (by rw[List.length_map];omega)
   ·rw[if_neg h16]
    obtain⟨Z,z1,z2,z3⟩:=SortFunc (acc.map mkR) (by rw[List.length_map];exact h0) (by rw[List.length_map];omega) (fun a ha=>by
     obtain⟨q,hq,rfl⟩:=List.mem_map.1 ha
     exact fit_mkR (by have:=hah q hq;omega))
    have hZ:Z=(vals Z).map mkR:=by
     unfold vals
     rw[List.map_map]
     conv=>lhs;rw[←List.map_id Z]
     refine List.map_congr_left (fun a ha => ?_)
     obtain⟨q,hq,rfl⟩:=List.mem_map.1 (z1.mem_iff.1 ha)
     show mkR q=mkR (mkR q).val
     rw[mkR_val]
    have hvz:vals Z=shB (vals l.breaks) byV.val:=by
     refine gaB_sorted ?_ (List.pairwise_map.2 z2)
     have:=z1.map ARat.val
     rw[←hac]
     rw[show (acc.map mkR).map ARat.val=acc from vals_mkR acc] at this
     exact this
    have hl2:=loop2 _ 0 rfl (Nat.zero_le _) (by omega)
    rw[hvz] at hZ
    rw[hZ] at z3
    rw[List.take_zero,List.map_nil] at hl2
    exact law_Shift.l14 _ l t byV _ _ (by omega) (by rw[List.length_map];omega) z3 (by rw[List.length_map,List.length_map];omega) hl2
  |succ j ih =>
   intro t acc hj ht hac hah h0 hal
   obtain⟨v,hv⟩:∃v,l.breaks[t]? = some v:=⟨_,List.getElem?_eq_getElem (by omega)⟩
   have hvv:(vals l.breaks)[t]? = some v.val:=by unfold vals;rw[List.getElem?_map,hv];rfl
   rw[drop_cons hvv,List.foldl_cons] at hac
   have hvf:=hf.1 v (List.mem_of_getElem? hv)
   have hvh:=ht_fit hvf.1 hvf.2 (by omega)
   have a1:=CFr.Add v byV ⟨by omega,by omega⟩ ⟨by omega,by omega⟩
   have b1:=ht_add v.val byV.val
   have f1:=fit_mkRk (q:=v.val+byV.val) (k:=129) (by omega)
   have w1:=wrapped (mkR (v.val+byV.val)) ⟨by omega,by omega⟩
   rw[mkR_val] at w1
   have b2:=ht_frac (x:=v.val+byV.val) (k:=129) (by omega)
   generalize frac (v.val+byV.val)=x at *
   have hal2:(acc.map mkR).length=acc.length:=List.length_map ..
   have c1:=Contains (acc.map mkR) (mkR x) (fun a ha=>by
    obtain⟨q,hq,rfl⟩:=List.mem_map.1 ha
    exact fit_mkR (by have:=hah q hq;omega)) (fit_mkR (by omega)) (by omega)
   rw[mkR_val,vals_mkR] at c1
   by_cases hm:x∈acc
   ·rw[show addR acc x=acc from if_pos hm] at hac
    exact law_Shift.l11 _ l t byV _ v _ _ _ _ (by omega) hv a1 w1 c1 (decide_eq_true hm) (by omega) (ih (t+1) acc (by omega) (by omega) hac hah h0 (by omega))
   ·rw[show addR acc x=acc++[x] from if_neg hm] at hac
    have hn:=ih (t+1) (acc++[x]) (by omega) (by omega) hac (fun q hq=>by
     rcases List.mem_append.1 hq with hq|hq
     ·exact hah q hq
     ·rw[List.mem_singleton.1 hq];omega) (by simp) (by simp;omega)
    rw[show (acc++[x]).map mkR=acc.map mkR++[mkR x] from List.map_append ..] at hn
    exact law_Shift.l10 _ l t byV _ v _ _ _ _ (by omega) hv a1 w1 c1 (decide_eq_false hm) rfl (by simp;omega) (by omega) hn
 exact law_Shift.e1 l byV _ hck hval rfl (loop1 _ 0 [0] rfl (Nat.zero_le _) rfl (fun q hq=>by rw[List.mem_singleton.1 hq,ht_zero];omega) (by simp) (by simp))
theorem ShiftE(l:ALaw)(byV:ARat)(hc:chkLaw l≠0)(hf:FitW 1073741824 l):Contract prg 9 [l.pv,byV.pv] (.tup [(⟨[],[]⟩:ALaw).pv,errPV (some (chkLaw l))]):=by
 have hk:=Check l hf
 rw[errOf_ne hc] at hk
 exact law_Shift.e2 l byV _ hk
theorem ShiftV(l:ALaw)(byV:ARat)(hc:chkLaw l=0)(hf:FitW 1073741824 l)(hv:byV.valid=false)(hb:FitR byV):Contract prg 9 [l.pv,byV.pv] (.tup [(⟨[],[]⟩:ALaw).pv,errPV (some 3)]):=by
 have hk:=Check l hf
 rw[hc] at hk
 have h:=CFr.Valid byV hb
 rw[hv] at h
 exact law_Shift.e0 l byV _ hk h rfl
theorem fitW_shift{l:ALaw}{byV:Rat}(g:Good l)(hf:FitW 64 l)(hby:ht byV≤64):FitW 800000 (shW l byV):=by
 constructor
 ·intro a ha
  obtain⟨b,hb,rfl⟩:=List.mem_map.1 (show a∈(shB (vals l.breaks) byV).map mkR from ha)
  have:=sh_ht hf hby hb
  have:=fit_mkRk (q:=b) (k:=260) (by omega)
  omega
 ·intro p hp
  obtain⟨b,hb,rfl⟩:=List.mem_map.1 (show p∈(shB (vals l.breaks) byV).map (fun b=>(shP l (frac (b-byV))).map mkR) from hp)
  have b0:=sh_ht hf hby hb
  have b1:=ht_sub b byV
  have b2:=ht_frac (x:=b-byV) (k:=325) (by omega)
  have b3:=ht_brkW hf (by omega) (pieceL (vals l.breaks) (frac (b-byV)))
  have b4:=ht_sub (frac (b-byV)) (brkW l (pieceL (vals l.breaks) (frac (b-byV))))
  have hfl:Fl 717 [frac (b-byV)-brkW l (pieceL (vals l.breaks) (frac (b-byV))),1]:=fun y hy=>by
   rcases List.mem_cons.1 hy with e|hy
   ·rw[e];omega
   ·rw[List.mem_singleton.1 hy];exact Nat.le_trans (show Sym.ht (1:Rat)≤1 from by decide) (by omega)
  have hpl:=pcW_len g (pieceL (vals l.breaks) (frac (b-byV)))
  have h:=fl_compL (n:=2) (a:=64) (b:=717) hfl (by omega) (by omega) (by simp) (pcW l (pieceL (vals l.breaks) (frac (b-byV)))) (fl_pcW hf (by omega) _)
  have:=cB_le 2 64 717 (by omega) hpl
  have e:cB 2 64 717 9≤800000:=by decide
  exact fit_mapk (fl_trimL (fl_mono h (by omega)))
end CLw
end Go.Proofs.YtegpfcmnjhmhjaaGreat.Sym



namespace Go.Proofs.YtegpfcmnjhmhjaaGreat.Sym
open Go Path CInt
set_option linter.unusedVariables false
namespace CPr
theorem Trim{k:Nat}(q:List Rat)(hl:q.length≤1000000)(hf:Fl k q)(hk:k≤68719476736):Contract prg 99 [pq q] (pq (trimL q)):=by
 have:=CRe.Trim (q.map mkR) (by rw[lenM];omega) (fitQ hf hk)
 rwa[vals_mkR] at this
theorem plus{a b d:Nat}(p q:List Rat)(c:Rat)(s:Nat)(hlp:p.length≤100000)(hlq:q.length+s≤100000)(hp:Fl a p)(hq:Fl b q)(hc:ht c≤d)(ha:1≤a)(hb:1≤b)(hk:a+b+d+1≤68719476736):Contract prg 138 [pq p,pq q,(mkR c).pv,vI (s:Int)] (pq (trimL (addL p (shiftL s (smulL c q))))):=by
 have hcoef:∀i,ht (coef p i)≤a∧ht (coef q i)≤b:=fun i=>⟨fl_coef hp ha i,fl_coef hq hb i⟩
 have bd:∀i j,ht (coef p i+c*coef q j)≤a+b+d+1:=by
  intro i j
  have c1:=(hcoef i).1
  have c2:=(hcoef j).2
  have h1:=ht_mul c (coef q j)
  have h2:=ht_add (coef p i) (c*coef q j)
  omega
 have loop:∀(j t:Nat),q.length-t=j→t≤q.length→linkworkref05_plus.Loop1 (s:Int) (max p.length (q.length+s)) (q.map mkR) t (mkR c) ((tabL (max p.length (q.length+s)) (fun i=>if s≤i∧i<s+t then coef p i+c*coef q (i-s) else coef p i)).map mkR) (pq (trimL (addL p (shiftL s (smulL c q))))):=by
  intro j
  induction j with
  |zero =>
   intro t hj ht
   have e:trimL (addL p (shiftL s (smulL c q)))=trimL (tabL (max p.length (q.length+s)) (fun i=>if s≤i∧i<s+t then coef p i+c*coef q (i-s) else coef p i)):=by
    refine trimL_ext (fun i => ?_)
    rw[coef_addL,coef_shiftL,coef_smulL]
    by_cases hi:i<max p.length (q.length+s)
    ·rw[coef_of (tabL_get _ hi)]
     by_cases h1:i<s
     ·rw[if_pos h1,if_neg (by omega),Rat.add_zero]
     ·rw[if_neg h1]
      by_cases h2:i<s+t
      ·rw[if_pos (by omega)]
      ·rw[if_neg (by omega),coef_ge (p:=q) (by omega),Rat.mul_zero,Rat.add_zero]
    ·rw[coef_ge (p:=tabL _ _) (by rw[tabL_len];omega),coef_ge (p:=p) (by omega),if_neg (by omega),coef_ge (p:=q) (by omega)];grind
   rw[e]
   refine linkworkref05_plus.l11 _ _ _ t _ _ _ (by rw[lenM];omega) (by rw[lenM,tabL_len]) (Trim (k:=a+b+d+1) _ (by rw[tabL_len];omega) (fl_of_coef (fun i => ?_)) hk)
   have h0:=ht_zero
   by_cases hi:i<max p.length (q.length+s)
   ·rw[coef_of (tabL_get _ hi)]
    split
    ·exact bd _ _
    ·have:=(hcoef i).1;omega
   ·rw[coef_ge (p:=tabL _ _) (by rw[tabL_len];omega),h0];omega
  |succ j ih =>
   intro t hj ht
   obtain⟨w,hw⟩:∃w,q[t]? = some w:=⟨_,List.getElem?_eq_getElem (by omega)⟩
   have hwh:=hq w (List.mem_of_getElem? hw)
   have c1:=(hcoef (t+s)).1
   have h1:=ht_mul c w
   have hg:t+s<max p.length (q.length+s):=by omega
   refine linkworkref05_plus.l10 _ _ _ t _ _ (mkR w) (t+s) (mkR (coef p (t+s))) _ _ (t+s) (by rw[lenM];omega) (getM hw) (by unfold InI64;omega) (by omega) hg ?_ (QR.Mul c w (by omega) (by omega)) (QR.Add (coef p (t+s)) (c*w) (by omega) (by omega)) (by omega) hg (by rw[lenM,tabL_len];omega) (by omega) ?_
   ·rw[getM (tabL_get _ hg),if_neg (by omega)]
   ·rw[tab_step (f:=fun i=>if s≤i∧i<s+(t+1) then coef p i+c*coef q (i-s) else coef p i) hg (by
     rw[if_pos (by omega),show t+s-s=t from by omega,coef_of hw]) (fun i hi=>by
     by_cases h:s≤i∧i<s+t
     ·rw[if_pos h,if_pos (by omega)]
     ·rw[if_neg h,if_neg (by omega)])]
    exact ih (t+1) (by omega) (by omega)
 have:=loop _ 0 rfl (by omega)
 have hst:(p.map mkR).take (min (p.map mkR).length (max p.length (q.length+s)))++(List.replicate (max p.length (q.length+s)) (⟨false,[],[]⟩:ARat)).drop (min (p.map mkR).length (max p.length (q.length+s)))=(tabL (max p.length (q.length+s)) (fun i=>if s≤i∧i<s+0 then coef p i+c*coef q (i-s) else coef p i)).map mkR:=by
  rw[lenM,Nat.min_eq_left (by omega),List.take_of_length_le (by rw[lenM];omega)]
  refine List.ext_getElem? fun i => ?_
  by_cases hi:i<max p.length (q.length+s)
  ·rw[getM (tabL_get _ hi),if_neg (by omega)]
   by_cases h2:i<p.length
   ·rw[List.getElem?_append_left (by rw[lenM];exact h2),getM (coef_get h2)]
   ·rw[List.getElem?_append_right (by rw[lenM];omega),List.getElem?_drop,List.getElem?_replicate,lenM,if_pos (by omega),coef_ge (by omega)];rfl
  ·rw[List.getElem?_eq_none (by rw[List.length_append,lenM,List.length_drop,List.length_replicate];omega),List.getElem?_eq_none (by rw[lenM,tabL_len];omega)]
 refine linkworkref05_plus.e0 _ _ _ _ (max p.length (q.length+s)) (by rw[lenM];unfold InI64;omega) (by rw[lenM,lenM];omega) (by omega) (by rw[lenM,List.length_replicate];omega) ?_
 rw[hst]
 exact this
theorem times{a b:Nat}(n:Nat)(p q:List Rat)(hlp:p.length≤10000)(hlq:q.length≤10000)(hp:Fl a p)(hq:Fl b q)(ha:1≤a)(hb:1≤b)(hn:p.length≤n∨q.length≤n)(hk:(n+1)*(a+b+1)+1≤68719476736):Contract prg 139 [pq p,pq q] (pq (trimL (mulL p q))):=by
 rw[Nat.add_mul] at hk
 have bG:=ht_mul_take hp hq ha hb hn
 have loop:∀(j t:Nat) (out:List Rat),p.length-t=j→t≤p.length→out=trimL (mulL (p.take t) q)→linkworkref05_times.Loop1 (q.map mkR) (out.map mkR) (p.map mkR) t (pq (trimL (mulL p q))):=by
  intro j
  induction j with
  |zero =>
   intro t out hj ht ho
   rw[List.take_of_length_le (by omega)] at ho
   rw[←ho]
   exact linkworkref05_times.l11 _ _ _ t (by rw[lenM];omega)
  |succ j ih =>
   intro t out hj ht ho
   obtain⟨v,hv⟩:∃v,p[t]? = some v:=⟨_,List.getElem?_eq_getElem (by omega)⟩
   have hvh:=hp v (List.mem_of_getElem? hv)
   have hfo:Fl (n*(a+b+1)+1) out:=by
    rw[ho];exact fl_trimL (fl_of_coef (fun i=>bG t i))
   have hlo:out.length≤20000:=by
    rw[ho]
    have h1:=len_trimL (mulL (p.take t) q)
    have h2:=len_mulL (p.take t) q
    rw[List.length_take] at h2
    omega
   have hpl:=plus out q v t (by omega) (by omega) hfo hq hvh (by omega) hb (by omega)
   have e:trimL (addL out (shiftL t (smulL v q)))=trimL (mulL (p.take (t+1)) q):=trimL_ext (fun i=>by
    rw[coef_addL,ho,coef_trimL,coef_mul_snoc hv])
   rw[e] at hpl
   exact linkworkref05_times.l10 _ _ _ t (mkR v) _ (by rw[lenM];omega) (getM hv) hpl (by omega) (ih (t+1) _ (by omega) (by omega) rfl)
 exact linkworkref05_times.e0 _ _ (loop _ 0 [] rfl (by omega) rfl)
theorem both(p q:List ARat)(hp:FitP 274877906944 p)(hq:FitP 274877906944 q):Contract prg 137 [polyPV p,polyPV q] (vI (chk2 p q)):=by
 have h1:=CRe.Check p hp
 have h2:=CRe.Check q hq
 unfold chk2
 by_cases e:chk p=0
 ·rw[if_pos e]
  exact linkworkref05_both.e1 _ _ _ _ h1 e h2
 ·rw[if_neg e]
  exact linkworkref05_both.e0 _ _ _ h1 e
theorem Compose{a b:Nat}(n:Nat)(p q:List Rat)(hc:chk2 (p.map mkR) (q.map mkR)=0)(hd:¬(1<p.length∧1<q.length∧64<(p.length-1)*(q.length-1)))(hp:Fl a p)(hq:Fl b q)(ha:1≤a)(hb:1≤b)(hn:q.length≤n)(hn1:1≤n)(hk:(n+1)*(cB n a b p.length+b+1)+a+3≤68719476736):Contract prg 98 [pq p,pq q] (.tup [pq (trimL (compL p q)),vI 0]):=by
 have hk':n*(cB n a b p.length+b+1)+(cB n a b p.length+b+1)+a+3≤68719476736:=by rw[Nat.add_mul] at hk;omega
 have hmn:1*(cB n a b p.length+b+1)≤n*(cB n a b p.length+b+1):=Nat.mul_le_mul_right _ hn1
 have hcl:chk (p.map mkR)=0∧chk (q.map mkR)=0:=by
  unfold chk2 at hc
  split at hc
  ·rename_i h;exact⟨h,hc⟩
  ·rename_i h;exact absurd hc h
 have hp65:=chk_len hcl.1
 have hq65:=chk_len hcl.2
 rw[lenM] at hp65 hq65
 have hck:=both (p.map mkR) (q.map mkR) (fitQ hp (by have:=cB_pos n a b p.length;omega)) (fitQ hq (by omega))
 rw[hc] at hck
 have loop:∀(m:Nat) (out:List Rat),m≤p.length→out=trimL (compL (p.drop m) q)→linkworkref05_Compose.Loop1 (p.map mkR) (q.map mkR) (out.map mkR) ((m:Int)-1) (.tup [pq (trimL (compL p q)),vI 0]):=by
  intro m
  induction m with
  |zero =>
   intro out _ ho
   rw[List.drop_zero] at ho
   rw[←ho]
   exact linkworkref05_Compose.l11 _ _ _ _ (by omega)
  |succ m ih =>
   intro out hm ho
   obtain⟨v,hv⟩:∃v,p[m]? = some v:=⟨_,List.getElem?_eq_getElem (by omega)⟩
   have hvh:=hp v (List.mem_of_getElem? hv)
   have hlen:∀r:List Rat,(compL r q).length≤r.length*(q.length+1):=by
    intro r
    induction r with
    |nil=>simp[compL]
    |cons c r ih =>
     have:=len_mulL (compL r q) q
     rw[compL,len_addL]
     simp only[List.length_cons,List.length_nil]
     rw[Nat.add_mul]
     omega
   have hl1:=hlen (p.drop (m+1))
   have hl2:(p.drop (m+1)).length*(q.length+1)≤65*66:=Nat.mul_le_mul (by rw[List.length_drop];omega) (by omega)
   have hlo:out.length≤4290:=by rw[ho];have:=len_trimL (compL (p.drop (m+1)) q);omega
   have hfo:Fl (cB n a b (p.drop (m+1)).length) out:=by
    rw[ho]
    exact fl_trimL (fl_compL hq hb ha hn _ (fun x hx=>hp x (List.mem_of_mem_drop hx)))
   have hmono:=cB_le n a b hn1 (p.length-(p.drop (m+1)).length) (p.drop (m+1)).length
   rw[show (p.drop (m+1)).length+(p.length-(p.drop (m+1)).length)=p.length from by rw[List.length_drop];omega] at hmono
   have hfo':=fl_mono hfo hmono
   have htm:=times n out q (by omega) (by omega) hfo' hq (cB_pos ..) hb (Or.inr hn) (by omega)
   have hft:=fl_trimL (fl_mul_min hfo' hq (cB_pos ..) hb (Or.inr hn))
   have hone:=CRb.Of 1 (by unfold InI64;omega)
   have hl3:=len_mulL out q
   have hl4:=len_trimL (mulL out q)
   have hpl:=plus (d:=1) (trimL (mulL out q)) [v] ((1:Int):Rat) 0 (by omega) (by simp) hft (fun x hx=>by rw[List.mem_singleton.1 hx];exact hvh) (by decide) (by omega) ha (by omega)
   have e:trimL (addL (trimL (mulL out q)) (shiftL 0 (smulL ((1:Int):Rat) [v])))=trimL (compL (p.drop m) q):=by
    rw[drop_cons hv,compL]
    refine trimL_congr_add ?_ ?_
    ·rw[trimL_idem,ho];exact trimL_congr_mul (trimL_idem _) rfl
    ·refine trimL_ext (fun i => ?_)
     rw[coef_shiftL,if_neg (by omega),coef_smulL,show((1:Int):Rat)=1 from rfl,Rat.one_mul];rfl
   rw[e] at hpl
   refine linkworkref05_Compose.l10 _ _ _ _ _ m (mkR v) _ _ (by omega) htm (by omega) (getM hv) hone hpl (by unfold InI64;omega) ?_
   have:=ih _ (by omega) rfl
   rwa[show ((m+1:Nat):Int)-1-1=(m:Int)-1 from by omega]
 have:=loop p.length [] (Nat.le_refl _) (by rw[List.drop_of_length_le (Nat.le_refl _)];rfl)
 have hpl:((p.map mkR).length:Int)-1=(p.length:Int)-1:=by rw[lenM]
 by_cases h1:1<p.length
 ·by_cases h2:1<q.length
  ·have hle:(p.length-1)*(q.length-1)≤64:=by
    refine Nat.le_of_not_lt fun h=>hd ⟨h1,h2,h⟩
   have hcast:(((p.map mkR).length:Int)-1)*(((q.map mkR).length:Int)-1)=(((p.length-1)*(q.length-1):Nat):Int):=by
    rw[lenM,lenM,Int.natCast_mul,Int.natCast_sub (by omega),Int.natCast_sub (by omega)];rfl
   refine linkworkref05_Compose.e2 _ _ _ hck rfl (by rw[lenM];exact h1) (by rw[lenM];exact h2) (by rw[lenM];unfold InI64;omega) (by rw[lenM];unfold InI64;omega) (by rw[hcast];unfold InI64;omega) (by rw[hcast];omega) ?_
   rw[hpl];exact this
  ·refine linkworkref05_Compose.e3 _ _ _ hck rfl (by rw[lenM];exact h1) (by rw[lenM];omega) (by rw[lenM];unfold InI64;omega) ?_
   rw[hpl];exact this
 ·refine linkworkref05_Compose.e4 _ _ _ hck rfl (by rw[lenM];omega) (by rw[lenM];unfold InI64;omega) ?_
  rw[hpl];exact this
end CPr
end Go.Proofs.YtegpfcmnjhmhjaaGreat.Sym
namespace Go.Proofs.YtegpfcmnjhmhjaaGreat.Sym.Path
open Go
set_option maxRecDepth 20000
set_option linter.unusedVariables false
namespace linkworklaw52_LawShifts
theorem e1(l:ALaw)(byV:ARat)(awa lar awa1:Bool)(h1:Contract prg 6 [] (vB awa))(h2:awa=true)(h3:Contract prg 7 [l.pv] (vB lar))(h4:lar=true)(h5:Contract prg 6 [] (vB awa1)):Contract prg 3 [l.pv,byV.pv] (vB awa1) :=
 Contract.ofL Tryz.func3 (by kernel_rfl) (L.done mixed tabOk (n:=84) (ns:=[1,1,1,1,1,1,1,1,1]) (tr:=[.reg [],.reg [(.pv (vB awa)),.none,.none,.none,(.pv (vB lar)),(.dec false),.none,.skip,.skip,(.dec true)],.auto,.reg [(.pv (vB awa1))]]) (cj h1 (cj (bnot_f h2) (cj (bnot_f h2) (cj h3 (cj (bnot_f h2) (cj h4 (cj h4 (cj h4 (cj h5 True.intro))))))))) (by kernel_rfl))
theorem e2(l:ALaw)(byV:ARat)(awa lar lon awa1:Bool)(h1:Contract prg 6 [] (vB awa))(h2:awa=true)(h3:Contract prg 7 [l.pv] (vB lar))(h4:lar=false)(h5:Contract prg 8 [byV.pv] (vB lon))(h6:lon=true)(h7:Contract prg 6 [] (vB awa1)):Contract prg 3 [l.pv,byV.pv] (vB awa1) :=
 Contract.ofL Tryz.func3 (by kernel_rfl) (L.done mixed tabOk (n:=84) (ns:=[1,1,1,1,1,1,1,1,1,1,1]) (tr:=[.reg [],.reg [(.pv (vB awa)),.none,.none,.none,(.pv (vB lar)),(.dec false),.none,.none,(.pv (vB lon)),(.dec false)],.dec true,.reg [(.pv (vB awa1))]]) (cj h1 (cj (bnot_f h2) (cj (bnot_f h2) (cj h3 (cj (bnot_f h2) (cj h4 (cj h4 (cj h5 (cj h4 (cj h6 (cj h7 True.intro))))))))))) (by kernel_rfl))
theorem e3(l:ALaw)(byV:ARat)(awa lar lon:Bool)(shi:ALaw)(shi1:Option Int)(che:Int)(val:Bool)(num:Int)(sam:Bool)(h1:Contract prg 6 [] (vB awa))(h2:awa=true)(h3:Contract prg 7 [l.pv] (vB lar))(h4:lar=false)(h5:Contract prg 8 [byV.pv] (vB lon))(h6:lon=false)(h7:Contract prg 9 [l.pv,byV.pv] (.tup [shi.pv,(errPV shi1)]))(h8:Contract prg 10 [l.pv] (vI che))(h9:che=0)(h10:Contract prg 11 [byV.pv] (vB val))(h11:val=false)(h12:(3:Nat)≠0)(h13:Contract prg 13 [(errPV shi1)] (vI num))(h14:num=3)(h15:Contract prg 14 [shi.pv,(⟨[],[]⟩:ALaw).pv] (vB sam))(h16:sam=true):Contract prg 3 [l.pv,byV.pv] (vB true) :=
 Contract.ofL Tryz.func3 (by kernel_rfl) (L.done mixed tabOk (n:=135) (ns:=[1,1,1,1,1,1,1,1,1,1,1,1,1,1,1,1,1,1,1,1,1,1,1,1,1,1,1,1,1,1,1,1,1,1]) (tr:=[.reg [],.reg [(.pv (vB awa)),.none,.none,.none,(.pv (vB lar)),(.dec false),.none,.none,(.pv (vB lon)),(.dec false)],.dec false,.reg [.none,.none,(.pv (.tup [shi.pv,(errPV shi1)]))],.reg [.none,(.pv (vI che))],.reg [.none,.none,.none,.none,(.pv (vB val)),.none,(.dec true)],.dec true,.reg [],.reg [],.reg [],.dec false,.reg [.none,(.pv (vI num)),.none,.none,.none,.none,.none,(.pv (vB sam)),(.dec true),.none,.none,.none,.none,.skip,.skip,.skip,(.dec true),(.dec true)]]) (cj h1 (cj (bnot_f h2) (cj (bnot_f h2) (cj h3 (cj (bnot_f h2) (cj h4 (cj h4 (cj h5 (cj h4 (cj h6 (cj h7 (cj h8 (cj (deq_t h9) (cj (deq_t h9) (cj h10 (cj (deq_t h9) (cj (deq_t h9) (cj (bnot_t h11) (cj (deqN_f h12) (cj h13 (cj (deq_t h14) (cj (deq_t h14) (cj (deq_t h14) (cj h15 (cj (deq_t h14) (cj h16 (cj h16 (cj h16 (cj (dneN_t h12) (cj (dneN_t h12) (cj (dneN_t h12) (cj h16 (cj (dneN_t h12) (cj h16 True.intro)))))))))))))))))))))))))))))))))) (by kernel_rfl))
theorem e4(l:ALaw)(byV:ARat)(awa lar lon:Bool)(shi:ALaw)(shi1:Option Int)(che:Int)(val:Bool)(shi2:ALaw)(shi3 num:Int)(sam:Bool)(h1:Contract prg 6 [] (vB awa))(h2:awa=true)(h3:Contract prg 7 [l.pv] (vB lar))(h4:lar=false)(h5:Contract prg 8 [byV.pv] (vB lon))(h6:lon=false)(h7:Contract prg 9 [l.pv,byV.pv] (.tup [shi.pv,(errPV shi1)]))(h8:Contract prg 10 [l.pv] (vI che))(h9:che=0)(h10:Contract prg 11 [byV.pv] (vB val))(h11:val=true)(h12:Contract prg 12 [l.pv,byV.pv] (.tup [shi2.pv,(vI shi3)]))(h13:Contract prg 13 [(errPV shi1)] (vI num))(h14:num=shi3)(h15:Contract prg 14 [shi.pv,shi2.pv] (vB sam))(h16:sam=true)(h17:shi3≠0):Contract prg 3 [l.pv,byV.pv] (vB true) :=
 Contract.ofL Tryz.func3 (by kernel_rfl) (L.done mixed tabOk (n:=135) (ns:=[1,1,1,1,1,1,1,1,1,1,1,1,1,1,1,1,1,1,1,1,1,1,1,1,1,1,1,1,1,1,1,1,1,1,1]) (tr:=[.reg [],.reg [(.pv (vB awa)),.none,.none,.none,(.pv (vB lar)),(.dec false),.none,.none,(.pv (vB lon)),(.dec false)],.dec false,.reg [.none,.none,(.pv (.tup [shi.pv,(errPV shi1)]))],.reg [.none,(.pv (vI che))],.reg [.none,.none,.none,.none,(.pv (vB val)),.none,(.dec true)],.dec false,.reg [],.reg [],.dec true,.reg [.none,.none,(.pv (.tup [shi2.pv,(vI shi3)]))],.reg [.none,(.pv (vI num)),.none,.none,.none,.none,.none,(.pv (vB sam)),(.dec true),.none,.none,.none,.none,.skip,.skip,.skip,(.dec true),(.dec true)]]) (cj h1 (cj (bnot_f h2) (cj (bnot_f h2) (cj h3 (cj (bnot_f h2) (cj h4 (cj h4 (cj h5 (cj h4 (cj h6 (cj h7 (cj h8 (cj (deq_t h9) (cj (deq_t h9) (cj h10 (cj (deq_t h9) (cj (deq_t h9) (cj (bnot_f h11) (cj (deq_t h9) (cj h12 (cj h13 (cj (deq_t h14) (cj (deq_t h14) (cj (deq_t h14) (cj h15 (cj (deq_t h14) (cj h16 (cj h16 (cj h16 (cj (dne_t h17) (cj (dne_t h17) (cj (dne_t h17) (cj h16 (cj (dne_t h17) (cj h16 True.intro))))))))))))))))))))))))))))))))))) (by kernel_rfl))
theorem e5(l:ALaw)(byV:ARat)(awa lar lon:Bool)(shi:ALaw)(shi1:Option Int)(che:Int)(val:Bool)(shi2:ALaw)(shi3 num:Int)(sam:Bool)(h1:Contract prg 6 [] (vB awa))(h2:awa=true)(h3:Contract prg 7 [l.pv] (vB lar))(h4:lar=false)(h5:Contract prg 8 [byV.pv] (vB lon))(h6:lon=false)(h7:Contract prg 9 [l.pv,byV.pv] (.tup [shi.pv,(errPV shi1)]))(h8:Contract prg 10 [l.pv] (vI che))(h9:che=0)(h10:Contract prg 11 [byV.pv] (vB val))(h11:val=true)(h12:Contract prg 12 [l.pv,byV.pv] (.tup [shi2.pv,(vI shi3)]))(h13:Contract prg 13 [(errPV shi1)] (vI num))(h14:num=shi3)(h15:Contract prg 14 [shi.pv,shi2.pv] (vB sam))(h16:sam=true)(h17:shi3=0)(h18:Contract prg 15 [shi.pv] .nilI):Contract prg 3 [l.pv,byV.pv] (vB true) :=
 Contract.ofL Tryz.func3 (by kernel_rfl) (L.done mixed tabOk (n:=135) (ns:=[1,1,1,1,1,1,1,1,1,1,1,1,1,1,1,1,1,1,1,1,1,1,1,1,1,1,1,1,1,1,1,1,1,1,1,1]) (tr:=[.reg [],.reg [(.pv (vB awa)),.none,.none,.none,(.pv (vB lar)),(.dec false),.none,.none,(.pv (vB lon)),(.dec false)],.dec false,.reg [.none,.none,(.pv (.tup [shi.pv,(errPV shi1)]))],.reg [.none,(.pv (vI che))],.reg [.none,.none,.none,.none,(.pv (vB val)),.none,(.dec true)],.dec false,.reg [],.reg [],.dec true,.reg [.none,.none,(.pv (.tup [shi2.pv,(vI shi3)]))],.reg [.none,(.pv (vI num)),.none,.none,.none,.none,.none,(.pv (vB sam)),(.dec true),.none,.none,.none,.none,.none,(.pv .nilI),.none,(.dec false),(.dec true)]]) (cj h1 (cj (bnot_f h2) (cj (bnot_f h2) (cj h3 (cj (bnot_f h2) (cj h4 (cj h4 (cj h5 (cj h4 (cj h6 (cj h7 (cj h8 (cj (deq_t h9) (cj (deq_t h9) (cj h10 (cj (deq_t h9) (cj (deq_t h9) (cj (bnot_f h11) (cj (deq_t h9) (cj h12 (cj h13 (cj (deq_t h14) (cj (deq_t h14) (cj (deq_t h14) (cj h15 (cj (deq_t h14) (cj h16 (cj h16 (cj h16 (cj (dne_f h17) (cj (dne_f h17) (cj h18 (cj (dne_f h17) (cj h16 (cj (dne_f h17) (cj h16 True.intro)))))))))))))))))))))))))))))))))))) (by kernel_rfl))
theorem e6(l:ALaw)(byV:ARat)(awa lar lon:Bool)(shi:ALaw)(shi1:Option Int)(che num:Int)(sam:Bool)(h1:Contract prg 6 [] (vB awa))(h2:awa=true)(h3:Contract prg 7 [l.pv] (vB lar))(h4:lar=false)(h5:Contract prg 8 [byV.pv] (vB lon))(h6:lon=false)(h7:Contract prg 9 [l.pv,byV.pv] (.tup [shi.pv,(errPV shi1)]))(h8:Contract prg 10 [l.pv] (vI che))(h9:che≠0)(h10:Contract prg 13 [(errPV shi1)] (vI num))(h11:num=che)(h12:Contract prg 14 [shi.pv,(⟨[],[]⟩:ALaw).pv] (vB sam))(h13:sam=true):Contract prg 3 [l.pv,byV.pv] (vB true) :=
 Contract.ofL Tryz.func3 (by kernel_rfl) (L.done mixed tabOk (n:=135) (ns:=[1,1,1,1,1,1,1,1,1,1,1,1,1,1,1,1,1,1,1,1,1,1,1,1,1,1,1,1,1,1,1,1]) (tr:=[.reg [],.reg [(.pv (vB awa)),.none,.none,.none,(.pv (vB lar)),(.dec false),.none,.none,(.pv (vB lon)),(.dec false)],.dec false,.reg [.none,.none,(.pv (.tup [shi.pv,(errPV shi1)]))],.reg [.none,(.pv (vI che))],.reg [.none,.none,.none,.skip,.skip,.skip,(.dec false)],.auto,.reg [],.reg [],.dec false,.reg [.none,(.pv (vI num)),.none,.none,.none,.none,.none,(.pv (vB sam)),(.dec true),.none,.none,.none,.none,.skip,.skip,.skip,(.dec true),(.dec true)]]) (cj h1 (cj (bnot_f h2) (cj (bnot_f h2) (cj h3 (cj (bnot_f h2) (cj h4 (cj h4 (cj h5 (cj h4 (cj h6 (cj h7 (cj h8 (cj (deq_f h9) (cj (deq_f h9) (cj (deq_f h9) (cj (deq_f h9) (cj (deq_f h9) (cj h10 (cj (deq_t h11) (cj (deq_t h11) (cj (deq_t h11) (cj h12 (cj (deq_t h11) (cj h13 (cj h13 (cj h13 (cj (dne_t h9) (cj (dne_t h9) (cj (dne_t h9) (cj h13 (cj (dne_t h9) (cj h13 True.intro)))))))))))))))))))))))))))))))) (by kernel_rfl))
end linkworklaw52_LawShifts
end Go.Proofs.YtegpfcmnjhmhjaaGreat.Sym.Path
namespace Go.Proofs.YtegpfcmnjhmhjaaGreat.Sym
open Go Path CInt
set_option linter.unusedVariables false
namespace CRl
theorem insert(q:Rat)(L:List Rat)(hl:L.length≤1000)(hf:∀a∈L,ht a≤68719476736)(hq:ht q≤68719476736):Contract prg 47 [polyPV (L.map mkR),(mkR q).pv] (polyPV ((insR q L).map mkR)):=by
 have loop:∀(j t:Nat),L.length-t=j→t≤L.length→linkworkref52_insert.Loop1 (L.map mkR) t (mkR q) (polyPV ((L.take t++insR q (L.drop t)).map mkR)):=by
  intro j
  induction j with
  |zero =>
   intro t hj ht
   have h:=linkworkref52_insert.l13 (L.map mkR) t (mkR q) (by simp;omega) (by simp;omega) (by simp;omega) (by simp;omega) (by simp;omega) (by simp;omega)
   have e:((L.map mkR).take t++[mkR q])++(L.map mkR).drop t=(L.take t++insR q (L.drop t)).map mkR:=by
    rw[List.drop_of_length_le (l:=L) (by omega),List.drop_of_length_le (by simp;omega),insR,List.map_append,List.map_take,List.append_nil]
    rfl
   rw[e] at h
   exact h
  |succ j ih =>
   intro t hj ht
   obtain⟨v,hv⟩:∃v,L[t]? = some v:=⟨_,List.getElem?_eq_getElem (by omega)⟩
   have hm:(L.map mkR)[t]? = some (mkR v):=by rw[List.getElem?_map,hv];rfl
   have hc:=QR.Cmp v q (hf v (List.mem_of_getElem? hv)) hq
   rw[drop_cons hv,insR]
   by_cases h1:v<q
   ·rw[if_pos h1]
    have hn:=ih (t+1) (by omega) (by omega)
    have e:L.take (t+1)++insR q (L.drop (t+1))=L.take t++v::insR q (L.drop (t+1)):=by
     rw[List.take_add_one,hv];simp
    rw[e] at hn
    exact linkworkref52_insert.l10 _ t _ _ _ (by simp;omega) hm hc (cmpR_lt.2 h1) (by omega) hn
   ·rw[if_neg h1]
    by_cases h2:v=q
    ·rw[if_pos h2,←drop_cons hv,List.take_append_drop]
     exact linkworkref52_insert.l11 _ t _ _ _ _ (by simp;omega) hm hc (cmpR_ge.2 (by grind)) hc (cmpR_eq.2 h2)
    ·rw[if_neg h2,←drop_cons hv]
     have h:=linkworkref52_insert.l12 (L.map mkR) t (mkR q) _ _ _ (by simp;omega) hm hc (cmpR_ge.2 (by grind)) hc (fun h=>h2 (cmpR_eq.1 h)) (by simp;omega) (by simp;omega) (by simp;omega) (by simp;omega) (by simp;omega)
     have e:((L.map mkR).take t++[mkR q])++(L.map mkR).drop t=(L.take t++q::L.drop t).map mkR:=by
      rw[List.map_append,List.map_cons,List.map_take,List.map_drop,List.append_assoc];rfl
     rw[e] at h
     exact h
 have:=loop _ 0 rfl (Nat.zero_le _)
 exact linkworkref52_insert.e0 _ _ this
theorem insR_len(q:Rat):∀L:List Rat,(insR q L).length≤L.length+1
 |[]=>Nat.le_refl _
 |a::r=>by
  rw[insR]
  split
  ·have:=insR_len q r;simp only[List.length_cons];omega
  ·split<;>simp
theorem Shift(l:ALaw)(byV:ARat)(hc:chkLaw l=0)(hf:FitW 64 l)(hby:byV.num.length≤64∧byV.den.length≤64):Contract prg 12 [l.pv,byV.pv]
  (if 16<(shB (vals l.breaks) byV.val).length then .tup [(⟨[],[]⟩:ALaw).pv,vI 4] else .tup [(shW l byV.val).pv,vI 0]):=by
 have g:=good_of hc
 have hle:=g.le
 have hn0:=g.n0
 have hbh:=ht_fit hby.1 hby.2 (by omega)
 have hlb:(vals l.breaks).length=l.breaks.length:=List.length_map ..
 have loop2:∀(j t:Nat),(shB (vals l.breaks) byV.val).length-t=j→t≤(shB (vals l.breaks) byV.val).length→(shB (vals l.breaks) byV.val).length≤17 →
   linkworkref52_Shift.Loop2 ((shB (vals l.breaks) byV.val).map mkR) t l byV ((shB (vals l.breaks) byV.val).map mkR) (((shB (vals l.breaks) byV.val).take t).map (fun b=>(shP l (frac (b-byV.val))).map mkR)) (.tup [(shW l byV.val).pv,vI 0]):=by
  intro j
  induction j with
  |zero =>
   intro t hj ht h17
   have e:(shB (vals l.breaks) byV.val).take t=shB (vals l.breaks) byV.val:=List.take_of_length_le (by omega)
   rw[e]
   exact linkworkref52_Shift.l21 _ t l byV _ _ (by rw[List.length_map];omega)
  |succ j ih =>
   intro t hj ht h17
   obtain⟨b,hb⟩:∃b,(shB (vals l.breaks) byV.val)[t]? = some b:=⟨_,List.getElem?_eq_getElem (by omega)⟩
   have hz:((shB (vals l.breaks) byV.val).map mkR)[t]? = some (mkR b):=by rw[List.getElem?_map,hb];rfl
   have b0:=CLw.sh_ht hf hbh (List.mem_of_getElem? hb)
   have s1:=CRb.Sub (mkR b) byV (fit_mkR (by omega)) ⟨by omega,by omega⟩
   rw[mkR_val] at s1
   have b1:=ht_sub b byV.val
   have f1:=fit_mkRk (q:=b-byV.val) (k:=325) (by omega)
   have w1:=Frac (mkR (b-byV.val)) ⟨by omega,by omega⟩
   rw[mkR_val] at w1
   have b2:=ht_frac (x:=b-byV.val) (k:=325) (by omega)
   have f2:=fit_mkRk (q:=frac (b-byV.val)) (k:=652) (by omega)
   have p1:=Piece l (mkR (frac (b-byV.val))) hn0 (by omega) (fun a ha=>⟨by have:=(hf.1 a ha).1;omega,by have:=(hf.1 a ha).2;omega⟩) ⟨by omega,by omega⟩
   rw[mkR_val] at p1
   obtain⟨q1,q2,q3⟩:=piece_spec g (frac_ge (b-byV.val)) (frac_lt (b-byV.val))
   have hsh:shP l (frac (b-byV.val))=trimL (compL (pcW l (pieceL (vals l.breaks) (frac (b-byV.val)))) [frac (b-byV.val)-brkW l (pieceL (vals l.breaks) (frac (b-byV.val))),1]):=rfl
   generalize hx:frac (b-byV.val)=x at *
   generalize hk:pieceL (vals l.breaks) x=k at *
   obtain⟨v1,v2,hv1,hv2,e1,e2,hcp,h9⟩:=g.at (t:=k) (by rw[←g.len];exact q1)
   have b3:=ht_brkW hf (by omega) k
   have s2:=CRb.Sub (mkR x) v1 (fit_mkR (by omega)) (by rw[e1];exact fit_mkR (by omega))
   rw[mkR_val,e1,mkR_val] at s2
   have b4:=ht_sub x (brkW l k)
   have hfl:Fl 717 [x-brkW l k,1]:=fun y hy=>by
    rcases List.mem_cons.1 hy with e|hy
    ·rw[e];omega
    ·rw[List.mem_singleton.1 hy];exact Nat.le_trans (show Sym.ht (1:Rat)≤1 from by decide) (by omega)
   have t1:=CPr.Trim [x-brkW l k,1] (by simp) hfl (by omega)
   rw[CLw.trimL_d1] at t1
   have hpl:=pcW_len g k
   have c1:=CPr.Compose (a:=64) (b:=717) 2 (pcW l k) [x-brkW l k,1] (by unfold chk2;rw[if_pos (chk_map (CLw.lastW g k) (by omega))];exact chk_map (CLw.lastZ_d1 _) (by simp)) (by simp;omega) (fl_pcW hf (by omega) k) hfl (by omega) (by omega) (by simp) (by omega) (by
    have:=CLw.cB_le 2 64 717 (by omega) hpl
    have e:cB 2 64 717 9≤800000:=by decide
    omega)
   rw[←hsh] at c1
   have mv:=linkworkref52_moved.e0 _ _ _ _ _ _ (CRb.Of 1 (by unfold InI64;omega)) t1 c1
   rw[e1] at hv1
   rw[e2] at hv2
   have hnx:=ih (t+1) (by omega) (by omega) h17
   rw[drop_take_map _ hb,hx] at hnx
   exact linkworkref52_Shift.l20 _ t l byV _ _ _ _ _ _ k _ k _ _ _ (by rw[List.length_map];omega) hz s1 w1 p1 rfl hv2 rfl hv1 s2 mv (by simp;omega) (by omega) hnx
 have loop1:∀(j t:Nat) (acc:List Rat),l.breaks.length-t=j→t≤l.breaks.length→((vals l.breaks).drop t).foldl (fun acc b=>insR (frac (b+byV.val)) acc) acc=shB (vals l.breaks) byV.val→(∀q∈acc,ht q≤260)→acc.length≤t+1 →
   linkworkref52_Shift.Loop1 (acc.map mkR) t l byV (if 16<(shB (vals l.breaks) byV.val).length then .tup [(⟨[],[]⟩:ALaw).pv,vI 4] else .tup [(shW l byV.val).pv,vI 0]):=by
  intro j
  induction j with
  |zero =>
   intro t acc hj ht hac hah hal
   rw[List.drop_of_length_le (by omega)] at hac
   have hac:acc=shB (vals l.breaks) byV.val:=hac
   subst hac
   by_cases h16:16<(shB (vals l.breaks) byV.val).length
   ·rw[if_pos h16]
    exact linkworkref52_Shift.l11 _ t l byV (by omega) (by rw[List.length_map];omega)
   ·rw[if_neg h16]
    have hl2:=loop2 _ 0 rfl (Nat.zero_le _) (by omega)
    rw[List.take_zero,List.map_nil] at hl2
    exact linkworkref52_Shift.l12 _ t l byV (by omega) (by rw[List.length_map];omega) hl2
  |succ j ih =>
   intro t acc hj ht hac hah hal
   obtain⟨v,hv⟩:∃v,l.breaks[t]? = some v:=⟨_,List.getElem?_eq_getElem (by omega)⟩
   have hvv:(vals l.breaks)[t]? = some v.val:=by unfold vals;rw[List.getElem?_map,hv];rfl
   rw[drop_cons hvv,List.foldl_cons] at hac
   have hvf:=hf.1 v (List.mem_of_getElem? hv)
   have hvh:=ht_fit hvf.1 hvf.2 (by omega)
   have a1:=CRb.Add v byV ⟨by omega,by omega⟩ ⟨by omega,by omega⟩
   have b1:=ht_add v.val byV.val
   have f1:=fit_mkRk (q:=v.val+byV.val) (k:=129) (by omega)
   have w1:=Frac (mkR (v.val+byV.val)) ⟨by omega,by omega⟩
   rw[mkR_val] at w1
   have b2:=ht_frac (x:=v.val+byV.val) (k:=129) (by omega)
   generalize frac (v.val+byV.val)=x at *
   have i1:=insert x acc (by omega) (fun q hq=>by have:=hah q hq;omega) (by omega)
   have hil:=insR_len x acc
   exact linkworkref52_Shift.l10 _ t l byV v _ _ _ (by omega) hv a1 w1 i1 (by omega) (ih (t+1) _ (by omega) (by omega) hac (fun q hq=>by
    rcases insR_mem.1 hq with e|hq
    ·rw[e];omega
    ·exact hah q hq) (by omega))
 exact linkworkref52_Shift.e0 l byV (loop1 _ 0 [0] rfl (Nat.zero_le _) rfl (fun q hq=>by rw[List.mem_singleton.1 hq,ht_zero];omega) (by simp))
end CRl
namespace C52
theorem fitW_le2{l:ALaw}{k m:Nat}(h:FitW k l)(hk:k≤m):FitW m l :=
 ⟨fun a ha=>⟨by have:=(h.1 a ha).1;omega,by have:=(h.1 a ha).2;omega⟩,fun p hp a ha=>⟨by have:=(h.2 p hp a ha).1;omega,by have:=(h.2 p hp a ha).2;omega⟩⟩
theorem LawShifts(l:ALaw)(byV:ARat)(hh:Held l)(hb:byV.num.length+byV.den.length<9223372036854775808):Contract prg 3 [l.pv,byV.pv] (vB true):=by
 rcases large l hh with hl|⟨⟨s1,s2,s3,s4⟩,hl⟩
 ·exact linkworklaw52_LawShifts.e1 l byV _ _ _ awake rfl hl rfl awake
 have l1:=long byV hb
 by_cases g1:4<byV.num.length+byV.den.length
 ·exact linkworklaw52_LawShifts.e2 l byV _ _ _ _ awake rfl hl rfl l1 (decide_eq_true g1) awake
 have hck:=CRl.Check l (fitW_le2 s3 (by omega))
 have hs0:=Same52 ⟨[],[]⟩ (by decide) (by decide) (fun p hp=>by cases hp) ⟨(fun a ha=>by cases ha),(fun p hp=>by cases hp)⟩
 by_cases hc:chkLaw l=0
 ·have v1:=CRb.Valid byV ⟨by omega,by omega⟩
  rw[hc] at hck
  cases hv1:byV.valid with
  |false =>
   rw[hv1] at v1
   have hs:=CLw.ShiftV l byV hc (fitW_le2 s3 (by omega)) hv1 ⟨by omega,by omega⟩
   exact linkworklaw52_LawShifts.e3 l byV _ _ _ _ (some 3) _ _ _ _ awake rfl hl rfl l1 (decide_eq_false g1) hs hck rfl v1 rfl (by decide) (CBa.Num (some 3)) rfl hs0 rfl
  |true =>
   rw[hv1] at v1
   have g:=good_of hc
   have hs:=CLw.Shift l byV hc (fitW_le2 s3 (by omega)) hv1 ⟨by omega,by omega⟩
   have hr:=CRl.Shift l byV hc (fitW_le2 s3 (by omega)) ⟨by omega,by omega⟩
   have hbh:ht byV.val≤4:=ht_fit (by omega) (by omega) (by omega)
   unfold CLw.shiftPV at hs
   by_cases h16:16<(shB (vals l.breaks) byV.val).length
   ·rw[if_pos h16] at hs hr
    exact linkworklaw52_LawShifts.e4 l byV _ _ _ _ (some 4) _ _ _ 4 _ _ awake rfl hl rfl l1 (decide_eq_false g1) hs hck rfl v1 rfl hr (CBa.Num (some 4)) rfl hs0 rfl (by decide)
   ·rw[if_neg h16] at hs hr
    have fs:=CLw.fitW_shift (byV:=byV.val) g (fitW_le2 s3 (by omega)) (by omega)
    have hcs:=chk_shift (byV:=byV.val) g (by omega)
    have gs:=good_of hcs
    have e1:=gs.len
    have e2:=gs.le
    have hsm:=Same52 (shW l byV.val) (by omega) (by omega) (fun p hp=>by have:=(gs.ps p hp).2;omega) (fitW_le2 fs (by omega))
    have hk:=CLw.Check (shW l byV.val) (fitW_le2 fs (by omega))
    rw[hcs] at hk
    exact linkworklaw52_LawShifts.e5 l byV _ _ _ _ none _ _ _ 0 _ _ awake rfl hl rfl l1 (decide_eq_false g1) hs hck rfl v1 rfl hr (CBa.Num none) rfl hsm rfl rfl hk
 ·have hs:=CLw.ShiftE l byV hc (fitW_le2 s3 (by omega))
  exact linkworklaw52_LawShifts.e6 l byV _ _ _ _ (some (chkLaw l)) _ _ _ awake rfl hl rfl l1 (decide_eq_false g1) hs hck hc (CBa.Num (some (chkLaw l))) rfl hs0 rfl
end C52
end Go.Proofs.YtegpfcmnjhmhjaaGreat.Sym
namespace Go.Proofs.YtegpfcmnjhmhjaaGreat.Sym
open Go Go.RowKit Go.ChangeShapes Go.WideShapes Go.ChangeAt
set_option linter.unusedVariables false
namespace RowLawShifts
theorem own:ownKnob Tryz.prog.godebug=none:=by kernel_rfl
theorem laid:laidOutB prg=true:=by kernel_rfl
theorem okArg{P:Program}{W:World}{base:Nat}{ps:Array TypeId}{args:Array Value}(hval:∀(j:Nat) t v,ps[j]? = some t→args[j]? = some v→Value.okWide P W .any base t v)(j:Nat){t:TypeId}{v:Value}(h1:ps[j]? = some t)(h2:args[j]? = some v):Value.okWide P W .any base t v:=hval j t v h1 h2
set_option maxRecDepth 100000 in
theorem contract(H:Type)(enc:TypeId×Value→H)(W:World)(base:Nat)(args:Array Value)(ds gs:List (DataW H))(before:List MemPlace)
  (hval:∀(j:Nat) t v,Tryz.f3.params[j]? = some t→args[j]? = some v→Value.okWide Tryz.prog W .any base t v)
  (hW:DataW.Whole enc Tryz.prog Tryz.f3.params.toList Rows.lawShiftsSpec.vars false W args.toList ds gs before)
  (hz:(DataW.weightsEach Tryz.prog (Tryz.f3.params.toList++Rows.lawShiftsSpec.plain.varTypes Tryz.prog) (ds++gs)).all (·≤reachBytes)=true) :
  Calls Tryz.prog 3 args W fun e W'=>∃v,e = .returned v∧Rows.lawShiftsSpec.post enc Tryz.prog Tryz.f3 false true false false W args v W':=by
 have hW':=hW
 obtain⟨p,q,hA,hV,rfl,hfz,hnd⟩:=hW
 have hp:Tryz.f3.params = #[25,28]:=by kernel_rfl
 rw[hp] at hA hval hz
 obtain⟨v0,vs0,d0,ds0,p0,q0,hargs,rfl,rfl,h0,r0⟩:=trodAll_cons hA
 obtain⟨v1,vs1,d1,ds1,p1,q1,rfl,rfl,rfl,h1,r1⟩:=trodAll_cons r0
 obtain⟨rfl,rfl,rfl⟩:=trodAll_nil r1
 obtain rfl:args = #[v0,v1]:=by cases args;simp_all
 obtain⟨rfl,rfl⟩:=trodVars_none hV
 obtain⟨n0,hn0⟩:=h0
 have hw0:∀k∈d0.weights prg 25,k≤reachBytes:=by
  intro k hk
  have:=List.all_eq_true.1 hz k (DataW.weights_mem_each (j:=0) rfl rfl k hk)
  simpa using this
 obtain⟨x0,hx0,b0⟩:=opens_ALaw enc W 0 (fun _=>true) true n0 _ _ hn0 hw0
 obtain⟨fs0,hu0,_⟩:=flds_spec (show fldsOf (prg.underlying 25)=some [(22,0),(23,1)] by kernel_rfl)
 have hv0:Value.okWide Tryz.prog W .any base 25 v0:=okArg hval 0 (by simp) (by simp)
 have hrd0:Rd (Old W) W x0.pv v0:=rd_struct (P:=Tryz.prog) (cs:=x0.cells) hu0 hv0 hx0
 obtain⟨n1,hn1⟩:=h1
 have hw1:∀k∈d1.weights prg 28,k≤reachBytes:=by
  intro k hk
  have:=List.all_eq_true.1 hz k (DataW.weights_mem_each (j:=1) rfl rfl k hk)
  simpa using this
 obtain⟨x1,hx1,b1⟩:=opens_ARat enc W 0 (fun _=>true) true n1 _ _ hn1 hw1
 obtain⟨fs1,hu1,_⟩:=flds_spec (show fldsOf (prg.underlying 28)=some [(4,0),(26,1),(26,2)] by kernel_rfl)
 have hv1:Value.okWide Tryz.prog W .any base 28 v1:=okArg hval 1 (by simp) (by simp)
 have hrd1:Rd (Old W) W x1.pv v1:=rd_struct (P:=Tryz.prog) (cs:=x1.cells) hu1 hv1 hx1
 have hc:=C52.LawShifts x0 x1 b0 (lenR_sum b1)
 refine(hc.2 (Old W) W (fun _=>none) #[v0,v1] (fun b hb=>hb) ⟨(fun r sc h=>by cases h),(fun r r' b h=>by obtain⟨_,h⟩:=h)⟩ rfl ?_).mono ?_
 ·intro j e v he hv
  cases j with
  |zero=>simp at he hv;subst he hv;exact hrd0
  |succ j =>
   cases j with
   |zero=>simp at he hv;subst he hv;exact hrd1
   |succ j=>simp at he
 ·intro e W' ⟨v,β',he,_,hk,_,hv,_⟩
  subst he
  have hv:Rd _ W' (vB true) v:=hv
  cases hv
  have hk':Keeps (fun _=>False) W W':=⟨hk.os,hk.tape,hk.output,hk.size,fun k h1 _=>hk.block k h1 (fun ⟨y,hy,_⟩=>by obtain⟨_,hy⟩:=hy),hk.shape,hk.drawn⟩
  refine⟨_,rfl,post_true (tb:=4) hW' hk' rfl (by kernel_rfl) (by kernel_rfl) rfl rfl rfl laid ?_⟩
  rw[hp]
  intro t ht
  have:t=25∨t=28:=by simpa using ht
  rcases this with rfl|rfl
  all_goals exact⟨by kernel_rfl,of_decide_eq_true (by kernel_rfl)⟩
set_option maxRecDepth 100000 in
theorem lifted(os:Os)(started:os.Started)(H:Type)(enc:TypeId×Value→H) :
  ReturnsInHanded {} Tryz.checked os 3 .any (Rows.lawShiftsSpec.pre6 enc Tryz.prog Tryz.f3 Rows.lawShiftsRow.domain false) (Rows.lawShiftsSpec.post enc Tryz.prog Tryz.f3 false true false false):=by
 refine returnsInHanded_of_change_sized (C:=Tryz.checked) own started (by kernel_rfl) Tryz.func3
  (ChangeSpec.witness6 (enc:=enc) (C:=Tryz.checked) false ⟨#[],#[.agg #[.slice none 0 0,.slice none 0 0],.agg #[.bool false,.slice none 0 0,.slice none 0 0]],[]⟩ 8 (by kernel_rfl) (by kernel_rfl) (by kernel_rfl) (by kernel_rfl)) ?_
 intro W base args ds gs before hval hW _ hz _
 exact contract H enc W base args ds gs before hval hW hz
theorem j1:(Rows.lawShiftsRow.inPlace==Tryz.prog.inPlace 3)=true:=by kernel_rfl
theorem j2:(Rows.lawShiftsRow.unfollowed==Tryz.prog.unfollowed 3)=true:=by kernel_rfl
theorem j3:(Rows.lawShiftsRow.recurses==Tryz.prog.recurses 3)=true:=by kernel_rfl
theorem j4:(Rows.lawShiftsRow.named==Tryz.prog.varsNamed 3)=true:=by kernel_rfl
theorem closed:joinedFacts Tryz.prog 3 Tryz.f3 Rows.lawShiftsSpec Rows.lawShiftsRow=true:=by
 unfold joinedFacts
 rw[j1,j2,j3,j4]
 kernel_rfl
theorem proved:Rows.LawShiftsSaid :=
 OpenClaim.holds_of_wide 3 Tryz.f3 rfl rfl rfl rfl rfl rfl rfl ⟨rfl,rfl,rfl,rfl,rfl⟩ rfl rfl rfl rfl rfl (by kernel_rfl) Tryz.func3 closed
  (of_decide_eq_true (by kernel_rfl)) (by unfold Func.isWrapper;first|(rw [if_pos (by decide +kernel)];kernel_rfl)|(rw [if_neg (by decide +kernel)];exact⟨rfl,rfl⟩))
  (fun os started H enc _=>lifted os started H enc)
end RowLawShifts
end Go.Proofs.YtegpfcmnjhmhjaaGreat.Sym
