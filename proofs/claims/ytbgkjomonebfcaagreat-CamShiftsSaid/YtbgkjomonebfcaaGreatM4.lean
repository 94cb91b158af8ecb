/- The statement CamShifts is proved: a cam whose law is moved is Positive, Within and Convex alike; no condition. -/
import Derived.Test.YtbgkjomonebfcaaGreatM3
import Derived.Test.YtbgkjomonebfcaaGreatRows
import Derived.JoinedCond
namespace Go.Proofs.YtbgkjomonebfcaaGreat.Sym
open Go Path CInt
set_option linter.unusedVariables false
section
variable {l:ALaw} {byV:Rat}
theorem sh_end(g:Good l)(h16:(shB (vals l.breaks) byV).length≤16){i:Nat}(hi:i<l.pieces.length) :
  ∃j b,(shB (vals l.breaks) byV)[j]? = some b∧pieceL (vals l.breaks) (frac (b-byV))=i∧frac (b-byV)+(endW (shW l byV) j-b)=endW l i∧b<endW (shW l byV) j:=by
 have g':=good_of (chk_shift (byV:=byV) g h16)
 have hlen:=g.len
 have hlen':=g'.len
 have hp:=lenW_pos g (t:=i) (by omega)
 have hb0:=brkW_ge0 g i
 have he1:=endW_le1 g i
 have hl:lenW l i=endW l i-brkW l i:=rfl
 have hmem:frac (endW l i+byV)∈shB (vals l.breaks) byV:=by
  refine shB_mem.2 (.inr ?_)
  by_cases hn:i+1<l.breaks.length
  ·obtain⟨c,hc⟩:∃c,l.breaks[i+1]? = some c:=⟨_,List.getElem?_eq_getElem hn⟩
   refine⟨c.val,List.mem_map.2 ⟨c,List.mem_of_getElem? hc,rfl⟩,?_⟩
   have ee:endW l i=c.val:=by unfold endW;rw[hc]
   rw[ee]
  ·have hn0:=g.n0
   obtain⟨c,hc⟩:∃c,l.breaks[0]? = some c:=⟨_,List.getElem?_eq_getElem (by omega)⟩
   have h0:=g.first c hc
   refine⟨c.val,List.mem_map.2 ⟨c,List.mem_of_getElem? hc,rfl⟩,?_⟩
   have ee:endW l i=1:=by unfold endW;rw[List.getElem?_eq_none (by omega)];rfl
   rw[ee,h0]
   have:=frac_add (0+byV) 1
   have e1:((1:Int):Rat)=1:=rfl
   rw[←this,e1]
   congr 1;grind
 obtain⟨s,m,hs,hsm⟩:∃(s:Rat) (m:Int),((s∈shB (vals l.breaks) byV∧0<s)∨s=1)∧s=endW l i+byV-(m:Rat):=by
  by_cases h0:0<frac (endW l i+byV)
  ·exact⟨_,(endW l i+byV).floor,.inl ⟨hmem,h0⟩,rfl⟩
  ·have hz:=frac_ge (endW l i+byV)
   have hf:frac (endW l i+byV)=endW l i+byV-((endW l i+byV).floor:Rat):=rfl
   refine⟨1,(endW l i+byV).floor-1,.inr rfl,?_⟩
   rw[Rat.intCast_sub]
   have e1:((1:Int):Rat)=1:=rfl
   grind
 obtain⟨j,b,hj,hje⟩:=ex_end (l:=l) (byV:=byV) hs
 have hjl:j<(shW l byV).pieces.length:=by rw[shW_len.2];exact(List.getElem?_eq_some_iff.1 hj).1
 have hpj:=lenW_pos g' (t:=j) (by omega)
 have hlj:lenW (shW l byV) j=endW (shW l byV) j-brkW (shW l byV) j:=rfl
 rw[shW_brk hj] at hlj
 have hin:=sh_in g hj
 obtain⟨p1,p2,p3⟩:=piece_spec g (frac_ge (b-byV)) (frac_lt (b-byV))
 have hx:frac (b-byV)=b-byV-((b-byV).floor:Rat):=rfl
 have hx0:=frac_ge (b-byV)
 have hee:=endW_le1 g (pieceL (vals l.breaks) (frac (b-byV)))
 rw[hje] at hin hlj
 have hN : -((b-byV).floor:Rat)-(m:Rat)=((-(b-byV).floor-m:Int):Rat):=by rw[Rat.intCast_sub,Rat.intCast_neg]
 have hX:frac (b-byV)+(s-b)=endW l i+((-(b-byV).floor-m:Int):Rat):=by rw[←hN];grind
 have hz:=int_zero (N := -(b-byV).floor-m) (by grind) (by grind)
 rw[hz] at hX
 have e0:((0:Int):Rat)=0:=rfl
 rw[e0] at hX
 refine⟨j,b,hj,?_,by rw[hje];grind,by rw[hje];grind⟩
 generalize frac (b-byV)=x at *
 rcases Nat.lt_trichotomy (pieceL (vals l.breaks) x) i with h|h|h
 ·have h1:=endW_next (l:=l) (t:=pieceL (vals l.breaks) x) (by omega)
  by_cases e:pieceL (vals l.breaks) x+1=i
  ·rw[e] at h1;grind
  ·have:=brk_mono g (i:=pieceL (vals l.breaks) x+1) (j:=i) (by omega) (by omega);grind
 ·exact h
 ·have h1:=endW_next (l:=l) (t:=i) (by omega)
  by_cases e:i+1=pieceL (vals l.breaks) x
  ·rw[e] at h1;grind
  ·have:=brk_mono g (i:=i+1) (j:=pieceL (vals l.breaks) x) (by omega) (by omega);grind
theorem sh_cover(g:Good l)(h16:(shB (vals l.breaks) byV).length≤16){i:Nat}(hi:i<l.pieces.length){t:Rat}(h0:0≤t)(h1:t≤lenW l i) :
  ∃j b,(shB (vals l.breaks) byV)[j]? = some b∧pieceL (vals l.breaks) (frac (b-byV))=i∧frac (b-byV)-brkW l i≤t∧t-(frac (b-byV)-brkW l i)≤endW (shW l byV) j-b:=by
 have hlen:=g.len
 have hb0:=brkW_ge0 g i
 have he1:=endW_le1 g i
 have hl:lenW l i=endW l i-brkW l i:=rfl
 by_cases ht:t<lenW l i
 ·have g':=good_of (chk_shift (byV:=byV) g h16)
  obtain⟨s1,s2,s3⟩:=piece_spec g' (frac_ge (brkW l i+t+byV)) (frac_lt (brkW l i+t+byV))
  rw[shW_vals] at s1 s2 s3
  generalize hj0:pieceL (shB (vals l.breaks) byV) (frac (brkW l i+t+byV))=j at *
  have hjl:j<(shB (vals l.breaks) byV).length:=by rw[←shW_len.1];exact s1
  have hj:(shB (vals l.breaks) byV)[j]? = some ((shB (vals l.breaks) byV)[j]):=List.getElem?_eq_getElem hjl
  generalize (shB (vals l.breaks) byV)[j]=b at hj
  rw[shW_brk hj] at s2
  have hin:=sh_in g hj
  obtain⟨p1,p2,p3⟩:=piece_spec g (frac_ge (b-byV)) (frac_lt (b-byV))
  have hxe:frac (b-byV)=b-byV-((b-byV).floor:Rat):=rfl
  have hye:frac (brkW l i+t+byV)=brkW l i+t+byV-((brkW l i+t+byV).floor:Rat):=rfl
  have e1:=endW_le1 g (pieceL (vals l.breaks) (frac (b-byV)))
  have hf0:=frac_ge (b-byV)
  have hf:frac (brkW l i+t)=frac (b-byV)+(frac (brkW l i+t+byV)-b):=by
   refine frac_eq ((brkW l i+t+byV).floor+(b-byV).floor) ?_ (by grind) (by grind)
   rw[Rat.intCast_add];grind
  have hid:frac (brkW l i+t)=brkW l i+t:=frac_id (by grind) (by grind)
  rw[hid] at hf
  have hp:pieceL (vals l.breaks) (brkW l i+t)=pieceL (vals l.breaks) (frac (b-byV)):=piece_uniq g p1 (by rw[hf];grind) (by rw[hf];grind)
  have hpi:pieceL (vals l.breaks) (brkW l i+t)=i:=piece_uniq g (by omega) (by grind) (by grind)
  refine⟨j,b,hj,by rw[←hp,hpi],by grind,by grind⟩
 ·obtain⟨j,b,hj,hp,he,hlt⟩:=sh_end g h16 hi
  have ht:t=lenW l i:=by grind
  exact⟨j,b,hj,hp,by grind,by grind⟩
theorem min_all{Q:Nat→List Rat}{L:Nat→Rat} : ∀n,(∀j,j<n→Pos (Q j) 0 (L j))→∃k,0<k∧∀j,j<n→∀t,0≤t→t≤L j→k≤evalL (Q j) t
 |0,_=>⟨1,by decide,fun j hj=>by omega⟩
 |n+1,h=>by
  obtain⟨k,k1,k2⟩:=min_all n (fun j hj=>h j (by omega))
  obtain⟨m,m1,m2⟩:=h n (by omega)
  have go:∀z,0<z→z≤k→z≤m→∃k,0<k∧∀j,j<n+1→∀t,0≤t→t≤L j→k≤evalL (Q j) t:=fun z z0 a1 a2=>by
   refine⟨z,z0,fun j hj t h0 h1 => ?_⟩
   by_cases e:j=n
   ·subst e;exact Rat.le_trans a2 (m2 t h0 h1)
   ·exact Rat.le_trans a1 (k2 j (by omega) t h0 h1)
  rcases Rat.le_total (a:=k) (b:=m) with e|e
  ·exact go k k1 Rat.le_refl e
  ·exact go m m1 e Rat.le_refl
end
theorem allF_iffS{c:ACam}(g:GCamS c)(byV f:Rat)(d:ALaw):∀j t,t+j=c.lift.pieces.length→(allF c byV f d j t=true↔∀i,t≤i→i<c.lift.pieces.length→Pos (combL c.base.val byV (pcW c.lift i) f (pcW d i)) 0 (lenW c.lift i))
 |0,t,h=>by
  constructor
  ·intro _ i h1 h2;omega
  ·intro _;rfl
 |j+1,t,h=>by
  have gl:=good_of g.law
  have hlen:=gl.len
  have ih:=allF_iffS g byV f d j (t+1) (by omega)
  have hp:=posB_iff (p:=combL c.base.val byV (pcW c.lift t) f (pcW d t)) (lastZ_trimL _) (Rat.le_of_lt (lenW_pos gl (t:=t) (by omega)))
  rw[allF]
  cases hb:posB (combL c.base.val byV (pcW c.lift t) f (pcW d t)) (lenW c.lift t) with
  |false =>
   rw[cond_false]
   constructor
   ·intro h;cases h
   ·intro hi
    have:=hp.2 (hi t (Nat.le_refl _) (by omega))
    rw[hb] at this;cases this
  |true =>
   rw[cond_true,ih]
   constructor
   ·intro hi i h1 h2
    by_cases e:i=t
    ·subst e;exact hp.1 hb
    ·exact hi i (by omega) h2
   ·intro hi i h1 h2;exact hi i (by omega) h2
theorem allC_iffS{c:ACam}(g:GCamS c){byV f:Rat}{d:ALaw} : allC c byV f d=true↔∀i,i<c.lift.pieces.length→Pos (combL c.base.val byV (pcW c.lift i) f (pcW d i)) 0 (lenW c.lift i):=by
 unfold allC
 rw[allF_iffS g byV f d _ 0 (by omega)]
 exact⟨fun h i hi=>h i (Nat.zero_le _) hi,fun h i _ hi=>h i hi⟩
theorem all_shift{c:ACam}{byV:Rat}(g:GCam c)(g':GCamS ⟨c.base,shW c.lift byV⟩)(h16:(shB (vals c.lift.breaks) byV).length≤16)(w f:Rat){d:ALaw}(hd:vals d.breaks=vals c.lift.breaks)(hb:∀t,brkW d t=brkW c.lift t) :
  allC ⟨c.base,shW c.lift byV⟩ w f (shW d byV)=allC c w f d:=by
 have gl:=good_of g.law
 have gl':=good_of g'.law
 have hlen:=gl.len
 have hlen':(shW c.lift byV).breaks.length=(shW c.lift byV).pieces.length:=gl'.len
 rw[Bool.eq_iff_iff,allC_iffS g',allC_iff g]
 have key:∀j b,(shB (vals c.lift.breaks) byV)[j]? = some b→∀t,evalL (combL c.base.val w (pcW (shW c.lift byV) j) f (pcW (shW d byV) j)) t=evalL (combL c.base.val w (pcW c.lift (pieceL (vals c.lift.breaks) (frac (b-byV)))) f (pcW d (pieceL (vals c.lift.breaks) (frac (b-byV))))) (t+(frac (b-byV)-brkW c.lift (pieceL (vals c.lift.breaks) (frac (b-byV))))):=by
  intro j b hj t
  rw[combL_eval,combL_eval,shW_pc hj,shP_eval,shW_pc (l:=d) (by rw[hd];exact hj),shP_eval,hd,hb]
 constructor
 ·intro h i hi
  obtain⟨k,k1,k2⟩:=min_all (Q:=fun j=>combL c.base.val w (pcW (shW c.lift byV) j) f (pcW (shW d byV) j)) (L:=fun j=>lenW (shW c.lift byV) j) (shW c.lift byV).pieces.length h
  refine⟨k,k1,fun t h0 h1 => ?_⟩
  obtain⟨j,b,hj,hp,q1,q2⟩:=sh_cover gl h16 hi h0 h1
  have hjl:j<(shW c.lift byV).pieces.length:=by rw[shW_len.2];exact(List.getElem?_eq_some_iff.1 hj).1
  have hlj:lenW (shW c.lift byV) j=endW (shW c.lift byV) j-b:=by unfold lenW;rw[shW_brk hj]
  have:=k2 j hjl (t-(frac (b-byV)-brkW c.lift i)) (by grind) (by show _≤lenW (shW c.lift byV) j;rw[hlj];exact q2)
  have he:=key j b hj (t-(frac (b-byV)-brkW c.lift i))
  rw[hp] at he
  rw[show t-(frac (b-byV)-brkW c.lift i)+(frac (b-byV)-brkW c.lift i)=t from by grind] at he
  rw[←he];exact this
 ·intro h j hj0
  obtain⟨b,hj⟩:∃b,(shB (vals c.lift.breaks) byV)[j]? = some b:=⟨_,List.getElem?_eq_getElem (by rw[←shW_len.2];exact hj0)⟩
  obtain⟨p1,p2,p3⟩:=piece_spec gl (frac_ge (b-byV)) (frac_lt (b-byV))
  obtain⟨k,k1,k2⟩:=h (pieceL (vals c.lift.breaks) (frac (b-byV))) (by omega)
  have hin:=sh_in gl hj
  refine⟨k,k1,fun t h0 h1 => ?_⟩
  have h1:t≤endW (shW c.lift byV) j-brkW (shW c.lift byV) j:=h1
  rw[shW_brk hj] at h1
  show k≤evalL (combL c.base.val w (pcW (shW c.lift byV) j) f (pcW (shW d byV) j)) t
  rw[key j b hj t]
  exact k2 _ (by grind) (by unfold lenW;grind)
theorem ch_d1{d:Rat}{k:Nat}(h:ht d≤k)(h1:1≤k):Ch k [d,1]:=by
 obtain⟨n1,n2⟩:wl d.num≤k∧wl (d.den:Int)≤k:=by unfold Sym.ht at h;omega
 refine⟨(d.den:Int),by have:=d.den_nz;omega,n2,fun i => ?_⟩
 have hdz:(d.den:Int)≠0:=by have:=d.den_nz;omega
 have hd:d*((d.den:Int):Rat)=(d.num:Rat):=by
  have:d=Rat.divInt d.num d.den:=(Rat.num_divInt_den d).symm
  conv=>lhs;lhs;rw[this]
  rw[Rat.divInt_eq_div,Rat.div_mul_cancel (cast_ne hdz)]
 match i with
 |0=>exact⟨d.num,hd,n1⟩
 |1=>exact⟨(d.den:Int),by show(1:Rat)*_=_;rw[Rat.one_mul],n2⟩
 |i+2=>exact⟨0,by rw[coef_ge (by simp),Rat.zero_mul];rfl,Nat.zero_le _⟩
theorem ch_comp{d:Rat}(hd:ht d≤6):∀p:List Rat,Fl 1 p→p.length≤6→Ch (p.length*10+1) (compL p [d,1])
 |[],_,_=>Ch.nil (by omega)
 |a::p,hf,hl=>by
  rw[List.length_cons] at hl
  have ih:=ch_comp hd p (fun x hx=>hf x (List.mem_cons_of_mem _ hx)) (by omega)
  have h1:=ih.mul (ch_d1 hd (by omega)) (by rw[compL_len2];omega)
  have h2:Ch 2 [a]:=(Ch.of_fl (k:=1) (p:=[a]) (fun x hx=>by rw[List.mem_singleton.1 hx];exact hf a (List.mem_cons_self ..))).mono (by simp)
  have h3:=h1.add h2
  rw[compL,List.length_cons]
  exact h3.mono (by omega)
theorem gcam_shift{c:ACam}{byV:Rat}(g:GCam c)(hby:ht byV≤1)(h16:(shB (vals c.lift.breaks) byV).length≤16):GCamS ⟨c.base,shW c.lift byV⟩:=by
 have gl:=good_of g.law
 have hbh:∀b∈vals c.lift.breaks,ht b≤1:=fun b hb=>by
  obtain⟨a,ha,rfl⟩:=List.mem_map.1 hb
  exact ht_fit (g.fl.1 a ha).1 (g.fl.1 a ha).2 (by omega)
 have hsb:∀b∈shB (vals c.lift.breaks) byV,ht b≤8:=fun b hb=>by
  rcases shB_mem.1 hb with e|⟨x,hx,e⟩
  ·rw[e,ht_zero];omega
  ·have h1:=hbh x hx
   have h2:=ht_add x byV
   have h3:=ht_frac (x:=x+byV) (k:=3) (by omega)
   rw[e];omega
 have hxh:∀b∈shB (vals c.lift.breaks) byV,ht (frac (b-byV))≤4:=fun b hb=>by
  rcases shB_mem.1 hb with e|⟨x,hx,e⟩
  ·have h1:ht (0-byV)≤1:=by rw[show (0:Rat)-byV = -byV from by grind,ht_neg];exact hby
   have:=ht_frac h1
   rw[e];omega
  ·have hxu:0≤x∧x<1:=by
    obtain⟨a,ha,rfl⟩:=List.mem_map.1 hx
    exact gl.unit a ha
   have hf:frac (b-byV)=x:=by
    rw[e]
    have hr:frac (x+byV)=x+byV-((x+byV).floor:Rat):=rfl
    refine frac_eq (-(x+byV).floor) ?_ hxu.1 hxu.2
    rw[Rat.intCast_neg,hr];grind
   rw[hf];have:=hbh x hx;omega
 have hch:∀b∈shB (vals c.lift.breaks) byV,Ch 61 (shP c.lift (frac (b-byV))):=fun b hb=>by
  have h1:=hxh b hb
  have h2:=ht_brkW g.fl (by omega) (pieceL (vals c.lift.breaks) (frac (b-byV)))
  have h3:=ht_sub (frac (b-byV)) (brkW c.lift (pieceL (vals c.lift.breaks) (frac (b-byV))))
  have h4:=pc_len6 g (pieceL (vals c.lift.breaks) (frac (b-byV)))
  have h5:=ch_comp (d:=frac (b-byV)-brkW c.lift (pieceL (vals c.lift.breaks) (frac (b-byV)))) (by omega) (pcW c.lift (pieceL (vals c.lift.breaks) (frac (b-byV)))) (fl_pcW g.fl (by omega) _) h4
  exact(h5.mono (by omega)).trim
 have hlp:∀x,(shP c.lift x).length≤6:=fun x=>by
  have h1:=len_trimL (compL (pcW c.lift (pieceL (vals c.lift.breaks) x)) [x-brkW c.lift (pieceL (vals c.lift.breaks) x),1])
  rw[compL_len2] at h1
  have:=pc_len6 g (pieceL (vals c.lift.breaks) x)
  unfold shP;omega
 refine⟨chk_shift gl h16,g.bv,g.b0,g.fb,⟨fun a ha => ?_,fun p hp => ?_⟩,fun p hp => ?_,fun t => ?_⟩
 ·obtain⟨b,hb,rfl⟩:=List.mem_map.1 (show a∈(shB (vals c.lift.breaks) byV).map mkR from ha)
  have:=fit_mkRk (hsb b hb)
  omega
 ·obtain⟨b,hb,rfl⟩:=List.mem_map.1 (show p∈(shB (vals c.lift.breaks) byV).map (fun b=>(shP c.lift (frac (b-byV))).map mkR) from hp)
  exact fit_mapk ((hch b hb).fl (by omega))
 ·obtain⟨b,hb,rfl⟩:=List.mem_map.1 (show p∈(shB (vals c.lift.breaks) byV).map (fun b=>(shP c.lift (frac (b-byV))).map mkR) from hp)
  rw[List.length_map];exact hlp _
 ·show Ch 61 (pcW (shW c.lift byV) t)
  cases hb:(shB (vals c.lift.breaks) byV)[t]? with
  |some b=>rw[shW_pc hb];exact hch b (List.mem_of_getElem? hb)
  |none =>
   have:pcW (shW c.lift byV) t=[]:=by
    unfold pcW shW
    rw[List.getElem?_map,hb];rfl
   rw[this];exact Ch.nil (by omega)
theorem pos_shift{c:ACam}{byV:Rat}(g:GCam c)(g':GCamS ⟨c.base,shW c.lift byV⟩)(h16:(shB (vals c.lift.breaks) byV).length≤16):posC ⟨c.base,shW c.lift byV⟩=posC c :=
 all_shift g g' h16 1 0 rfl (fun _=>rfl)
theorem with_shift{c:ACam}{byV:Rat}(g:GCam c)(g':GCamS ⟨c.base,shW c.lift byV⟩)(h16:(shB (vals c.lift.breaks) byV).length≤16)(limit:Rat):withC ⟨c.base,shW c.lift byV⟩ limit=withC c limit:=by
 have h1:=all_shift g g' h16 (byW limit) (-1) (deriveW_br c.lift) (brk_derive c.lift)
 have h2:=all_shift g g' h16 (byW limit) 1 (deriveW_br c.lift) (brk_derive c.lift)
 unfold withC
 show(allC ⟨c.base,shW c.lift byV⟩ (byW limit) (-1) (deriveW (shW c.lift byV))&&(allC ⟨c.base,shW c.lift byV⟩ (byW limit) 1 (deriveW (shW c.lift byV))&&posC ⟨c.base,shW c.lift byV⟩))=_
 rw[derive_shift,h1,h2,pos_shift g g' h16]
theorem conv_shift{c:ACam}{byV:Rat}(g:GCam c)(g':GCamS ⟨c.base,shW c.lift byV⟩)(h16:(shB (vals c.lift.breaks) byV).length≤16):convC ⟨c.base,shW c.lift byV⟩=convC c:=by
 have e1:vals (deriveW (deriveW c.lift)).breaks=vals c.lift.breaks:=by rw[deriveW_br,deriveW_br]
 have e2:∀t,brkW (deriveW (deriveW c.lift)) t=brkW c.lift t:=fun t=>by rw[brk_derive,brk_derive]
 have h1:=all_shift g g' h16 1 (sqP piLo) e1 e2
 have h2:=all_shift g g' h16 1 (sqP piHi) e1 e2
 unfold convC
 show(allC ⟨c.base,shW c.lift byV⟩ 1 (sqP piLo) (deriveW (deriveW (shW c.lift byV)))&&allC ⟨c.base,shW c.lift byV⟩ 1 (sqP piHi) (deriveW (deriveW (shW c.lift byV))))=_
 rw[derive_shift,derive_shift,h1,h2]
namespace C53
theorem CamShifts(c:ACam)(limit byV:ARat)(hh:Held c)(hx:limit.num.length+limit.den.length<9223372036854775808)(hy:byV.num.length+byV.den.length<9223372036854775808):Contract prg 14 [c.pv,limit.pv,byV.pv] (vB true):=by
 rcases valid c hh with hv|⟨h,s,hv⟩
 ·exact linkworklaw53_CamShifts.e1 c _ _ _ _ _ awake rfl hv rfl awake
 have l1:=long limit hx
 have l2:=long byV hy
 by_cases g1:2<limit.num.length+limit.den.length
 ·exact linkworklaw53_CamShifts.e2 c _ _ _ _ _ _ awake rfl hv rfl l1 (decide_eq_true g1) awake
 by_cases g2:2<byV.num.length+byV.den.length
 ·exact linkworklaw53_CamShifts.e3 c _ _ _ _ _ _ _ awake rfl hv rfl l1 (decide_eq_false g1) l2 (decide_eq_true g2) awake
 obtain⟨v1,s1⟩:=gate limit hx g1
 obtain⟨v2,s2⟩:=gate byV hy g2
 cases hvl:limit.valid with
 |false=>rw[hvl] at v1;exact linkworklaw53_CamShifts.e4 c _ _ _ _ _ _ _ _ awake rfl hv rfl l1 (decide_eq_false g1) l2 (decide_eq_false g2) v1 rfl awake
 |true =>
  rw[hvl] at v1
  by_cases q1:0<limit.val
  ·cases hvm:byV.valid with
   |false=>rw[hvm] at v2;exact linkworklaw53_CamShifts.e6 c _ _ _ _ _ _ _ _ _ _ awake rfl hv rfl l1 (decide_eq_false g1) l2 (decide_eq_false g2) v1 rfl s1 (cmpR_gt.2 q1) v2 rfl awake
   |true =>
    rw[hvm] at v2
    have g:=small_good s h
    have w1:=short_valid hvl (by omega:limit.num.length+limit.den.length≤2)
    have w2:=short_valid hvm (by omega:byV.num.length+byV.den.length≤2)
    have t1:ht limit.val≤1:=ht_fit w1.1 w1.2 (by omega)
    have t2:ht byV.val≤1:=ht_fit w2.1 w2.2 (by omega)
    have e1:=mkR_of hvl
    have hs:=CLw.Shift c.lift byV g.law (fitW_up g.fl (by omega)) hvm ⟨by omega,by omega⟩
    unfold CLw.shiftPV at hs
    by_cases h16:16<(shB (vals c.lift.breaks) byV.val).length
    ·rw[if_pos h16] at hs
     exact linkworklaw53_CamShifts.e8 c _ _ _ _ _ _ _ _ _ _ 4 _ awake rfl hv rfl l1 (decide_eq_false g1) l2 (decide_eq_false g2) v1 rfl s1 (cmpR_gt.2 q1) v2 rfl hs (CBa.Is (some 4) 4)
    ·rw[if_neg h16] at hs
     have g':=gcam_shift g t2 (by omega)
     have hck:=CRl.Check (shW c.lift byV.val) (fitW_up g'.fl (by omega))
     have c1:=CCa.Positive g
     have c2:=CCs.Positive g'
     rw[pos_shift g g' (by omega)] at c2
     have c3:=CCa.Within g (limit:=limit.val) (by omega) q1
     have c4:=CCs.Within g' (limit:=limit.val) (by omega) q1
     rw[with_shift g g' (by omega)] at c4
     rw[e1] at c3 c4
     have c5:=CCa.Convex g
     have c6:=CCs.Convex g'
     rw[conv_shift g g' (by omega)] at c6
     have:=linkworklaw53_CamShifts.e7 c _ _ _ _ _ _ _ _ _ _ _ _ _ _ _ _ _ awake rfl hv rfl l1 (decide_eq_false g1) l2 (decide_eq_false g2) v1 rfl s1 (cmpR_gt.2 q1) v2 rfl hs hck g'.law c1 c2 c3 c4 c5 c6 rfl rfl
     rwa[show (convC c==convC c)=true from by simp] at this
  ·exact linkworklaw53_CamShifts.e5 c _ _ _ _ _ _ _ _ _ awake rfl hv rfl l1 (decide_eq_false g1) l2 (decide_eq_false g2) v1 rfl s1 (cmpR_le.2 (by grind)) awake
end C53
end Go.Proofs.YtbgkjomonebfcaaGreat.Sym
namespace Go.Proofs.YtbgkjomonebfcaaGreat.Sym
open Go Go.RowKit Go.ChangeShapes Go.WideShapes Go.ChangeAt
set_option linter.unusedVariables false
namespace RowCamShifts
theorem own:ownKnob Tryz.prog.godebug=none:=by kernel_rfl
theorem laid:laidOutB prg=true:=by kernel_rfl
theorem okArg{P:Program}{W:World}{base:Nat}{ps:Array TypeId}{args:Array Value}(hval:∀(j:Nat) t v,ps[j]? = some t→args[j]? = some v→Value.okWide P W .any base t v)(j:Nat){t:TypeId}{v:Value}(h1:ps[j]? = some t)(h2:args[j]? = some v):Value.okWide P W .any base t v:=hval j t v h1 h2
set_option maxRecDepth 100000 in
theorem contract(H:Type)(enc:TypeId×Value→H)(W:World)(base:Nat)(args:Array Value)(ds gs:List (DataW H))(before:List MemPlace)
  (hval:∀(j:Nat) t v,Tryz.f14.params[j]? = some t→args[j]? = some v→Value.okWide Tryz.prog W .any base t v)
  (hW:DataW.Whole enc Tryz.prog Tryz.f14.params.toList Rows.camShiftsSpec.vars false W args.toList ds gs before)
  (hz:(DataW.weightsEach Tryz.prog (Tryz.f14.params.toList++Rows.camShiftsSpec.plain.varTypes Tryz.prog) (ds++gs)).all (·≤reachBytes)=true) :
  Calls Tryz.prog 14 args W fun e W'=>∃v,e = .returned v∧Rows.camShiftsSpec.post enc Tryz.prog Tryz.f14 false true false false W args v W':=by
 have hW':=hW
 obtain⟨p,q,hA,hV,rfl,hfz,hnd⟩:=hW
 have hp:Tryz.f14.params = #[76,26,26]:=by kernel_rfl
 rw[hp] at hA hval hz
 obtain⟨v0,vs0,d0,ds0,p0,q0,hargs,rfl,rfl,h0,r0⟩:=trodAll_cons hA
 obtain⟨v1,vs1,d1,ds1,p1,q1,rfl,rfl,rfl,h1,r1⟩:=trodAll_cons r0
 obtain⟨v2,vs2,d2,ds2,p2,q2,rfl,rfl,rfl,h2,r2⟩:=trodAll_cons r1
 obtain⟨rfl,rfl,rfl⟩:=trodAll_nil r2
 obtain rfl:args = #[v0,v1,v2]:=by cases args;simp_all
 obtain⟨rfl,rfl⟩:=trodVars_none hV
 obtain⟨n0,hn0⟩:=h0
 have hw0:∀k∈d0.weights prg 76,k≤reachBytes:=by
  intro k hk
  have:=List.all_eq_true.1 hz k (DataW.weights_mem_each (j:=0) rfl rfl k hk)
  simpa using this
 obtain⟨x0,hx0,b0⟩:=opens_ACam enc W 0 (fun _=>true) true n0 _ _ hn0 hw0
 obtain⟨fs0,hu0,_⟩:=flds_spec (show fldsOf (prg.underlying 76)=some [(26,0),(74,3)] by kernel_rfl)
 have hv0:Value.okWide Tryz.prog W .any base 76 v0:=okArg hval 0 (by simp) (by simp)
 have hrd0:Rd (Old W) W x0.pv v0:=rd_struct (P:=Tryz.prog) (cs:=x0.cells) hu0 hv0 hx0
 obtain⟨n1,hn1⟩:=h1
 have hw1:∀k∈d1.weights prg 26,k≤reachBytes:=by
  intro k hk
  have:=List.all_eq_true.1 hz k (DataW.weights_mem_each (j:=1) rfl rfl k hk)
  simpa using this
 obtain⟨x1,hx1,b1⟩:=opens_ARat enc W 0 (fun _=>true) true n1 _ _ hn1 hw1
 obtain⟨fs1,hu1,_⟩:=flds_spec (show fldsOf (prg.underlying 26)=some [(4,0),(24,1),(24,2)] by kernel_rfl)
 have hv1:Value.okWide Tryz.prog W .any base 26 v1:=okArg hval 1 (by simp) (by simp)
 have hrd1:Rd (Old W) W x1.pv v1:=rd_struct (P:=Tryz.prog) (cs:=x1.cells) hu1 hv1 hx1
 obtain⟨n2,hn2⟩:=h2
 have hw2:∀k∈d2.weights prg 26,k≤reachBytes:=by
  intro k hk
  have:=List.all_eq_true.1 hz k (DataW.weights_mem_each (j:=2) rfl rfl k hk)
  simpa using this
 obtain⟨x2,hx2,b2⟩:=opens_ARat enc W 0 (fun _=>true) true n2 _ _ hn2 hw2
 obtain⟨fs2,hu2,_⟩:=flds_spec (show fldsOf (prg.underlying 26)=some [(4,0),(24,1),(24,2)] by kernel_rfl)
 have hv2:Value.okWide Tryz.prog W .any base 26 v2:=okArg hval 2 (by simp) (by simp)
 have hrd2:Rd (Old W) W x2.pv v2:=rd_struct (P:=Tryz.prog) (cs:=x2.cells) hu2 hv2 hx2
 have hc:=C53.CamShifts x0 x1 x2 b0 (lenR_sum b1) (lenR_sum b2)
 refine(hc.2 (Old W) W (fun _=>none) #[v0,v1,v2] (fun b hb=>hb) ⟨(fun r sc h=>by cases h),(fun r r' b h=>by obtain⟨_,h⟩:=h)⟩ rfl ?_).mono ?_
 ·intro j e v he hv
  cases j with
  |zero=>simp at he hv;subst he hv;exact hrd0
  |succ j =>
   cases j with
   |zero=>simp at he hv;subst he hv;exact hrd1
   |succ j =>
    cases j with
    |zero=>simp at he hv;subst he hv;exact hrd2
    |succ j=>simp at he
 ·intro e W' ⟨v,β',he,_,hk,_,hv,_⟩
  subst he
  have hv:Rd _ W' (vB true) v:=hv
  cases hv
  have hk':Keeps (fun _=>False) W W':=⟨hk.os,hk.tape,hk.output,hk.size,fun k h1 _=>hk.block k h1 (fun ⟨y,hy,_⟩=>by obtain⟨_,hy⟩:=hy),hk.shape,hk.drawn⟩
  refine⟨_,rfl,post_true (tb:=4) hW' hk' rfl (by kernel_rfl) (by kernel_rfl) rfl rfl rfl laid ?_⟩
  rw[hp]
  intro t ht
  have:t=76∨t=26∨t=26:=by simpa using ht
  rcases this with rfl|rfl|rfl
  all_goals exact⟨by kernel_rfl,of_decide_eq_true (by kernel_rfl)⟩
set_option maxRecDepth 100000 in
theorem lifted(os:Os)(started:os.Started)(H:Type)(enc:TypeId×Value→H) :
  ReturnsInHanded {} Tryz.checked os 14 .any (Rows.camShiftsSpec.pre6 enc Tryz.prog Tryz.f14 Rows.camShiftsRow.domain false) (Rows.camShiftsSpec.post enc Tryz.prog Tryz.f14 false true false false):=by
 refine returnsInHanded_of_change_sized (C:=Tryz.checked) own started (by kernel_rfl) Tryz.func14
  (ChangeSpec.witness6 (enc:=enc) (C:=Tryz.checked) false ⟨#[],#[.agg #[.bool false,.slice none 0 0,.slice none 0 0,.slice none 0 0,.slice none 0 0],.agg #[.bool false,.slice none 0 0,.slice none 0 0],.agg #[.bool false,.slice none 0 0,.slice none 0 0]],[]⟩ 8 (by kernel_rfl) (by kernel_rfl) (by kernel_rfl) (by kernel_rfl)) ?_
 intro W base args ds gs before hval hW _ hz _
 exact contract H enc W base args ds gs before hval hW hz
theorem j1:(Rows.camShiftsRow.inPlace==Tryz.prog.inPlace 14)=true:=by kernel_rfl
theorem j2:(Rows.camShiftsRow.unfollowed==Tryz.prog.unfollowed 14)=true:=by kernel_rfl
theorem j3:(Rows.camShiftsRow.recurses==Tryz.prog.recurses 14)=true:=by kernel_rfl
theorem j4:(Rows.camShiftsRow.named==Tryz.prog.varsNamed 14)=true:=by kernel_rfl
theorem closed:joinedFacts Tryz.prog 14 Tryz.f14 Rows.camShiftsSpec Rows.camShiftsRow=true:=by
 unfold joinedFacts
 rw[j1,j2,j3,j4]
 kernel_rfl
theorem proved:Rows.CamShiftsSaid :=
 OpenClaim.holds_of_wide 14 Tryz.f14 rfl rfl rfl rfl rfl rfl rfl ⟨rfl,rfl,rfl,rfl,rfl⟩ rfl rfl rfl rfl rfl (by kernel_rfl) Tryz.func14 closed
  (of_decide_eq_true (by kernel_rfl)) (by unfold Func.isWrapper;first|(rw [if_pos (by decide +kernel)];kernel_rfl)|(rw [if_neg (by decide +kernel)];exact⟨rfl,rfl⟩))
  (fun os started H enc _=>lifted os started H enc)
end RowCamShifts
end Go.Proofs.YtbgkjomonebfcaaGreat.Sym
