/- The statement SturmRoots is proved, its tables tied: a product of given factors has as many roots as there are different ones, and the isolating intervals contain them; no condition. -/
import Derived.Test.YtjadajceekjeoaaGreatDoorM2
import Derived.Test.YtjadajceekjeoaaGreatDoorM0
import Derived.Test.YtjadajceekjeoaaGreatDoorRows
import Derived.Test.YtjadajceekjeoaaGreatDoorCards
import Derived.Test.YtjadajceekjeoaaGreatDoorTie
import Derived.Deep.DeepHandedRow
import Derived.SevenTiedAt
import Derived.LaidLaws
import Derived.JoinedCond
namespace Go.Proofs.YtjadajceekjeoaaGreatDoor.Sym
open Go Path CInt
set_option linter.unusedVariables false
namespace C06
theorem of(l:List Int)(h:∀n∈l,InI64 n)(hl:l.length≤1000):Contract prg 40 [lpv intCell l] (pq (l.map (fun n=>((n:Int):Rat)))):=by
 have loop:∀d t:Nat,l.length-t=d→t≤l.length→linkworklaw06_of.Loop1 (((l.take t).map (fun n=>((n:Int):Rat))).map mkR) l t (pq (l.map (fun n=>((n:Int):Rat)))):=by
  intro d
  induction d with
  |zero =>
   intro t hd ht
   have:t=l.length:=by omega
   subst this
   rw[List.take_length]
   exact linkworklaw06_of.l11 _ _ _ (Nat.le_refl _)
  |succ d ih =>
   intro t hd ht
   obtain⟨v,hv⟩:∃v,l[t]? = some v:=⟨_,List.getElem?_eq_getElem (by omega)⟩
   have:=ih (t+1) (by omega) (by omega)
   rw[List.take_add_one,hv] at this
   refine linkworklaw06_of.l10 _ l t v (mkR ((v:Int):Rat)) (by omega) hv (CRb.Of v (h v (List.mem_of_getElem? hv))) ?_ (by omega) ?_
   ·rw[List.length_append,List.length_map,List.length_map,List.length_take,List.length_singleton];omega
   ·simpa using this
 exact linkworklaw06_of.e0 l (loop _ 0 rfl (by omega))
theorem fineF{q:List Rat}(z:lastZ q=false)(h0:q≠[])(hl:q.length≤7)(hf:Fl 1 q):Fine 13 7 q:=⟨z,h0,hl,(Ch.of_fl hf).mono (by omega),by omega,by omega,by decide +kernel⟩
theorem okF:IsoOK 13 7:=by decide +kernel
abbrev exA:List Rat:=[((-2:Int):Rat),((0:Int):Rat),((1:Int):Rat)]
abbrev exB:List Rat:=[((1:Int):Rat),((0:Int):Rat),((1:Int):Rat)]
abbrev exC:List Rat:=[((0:Int):Rat),((-1:Int):Rat),((0:Int):Rat),((1:Int):Rat)]
theorem text(a b:Rat)(hab:a≤b)(ha:a.num.natAbs<100)(hb:b.num.natAbs<100)(ha2:a.den<100)(hb2:b.den<100)(s1:(ratT a).size<1000)(s2:(ratT b).size<1000):Contract prg 45 [(mkG a b).pv] (.str (ratT a++ByteArray.mk #[46,46]++ratT b)):=by
 have h1:ht a≤1:=Nat.max_le.2 ⟨len_of_lt (by omega),len_of_lt (by rw[Int.natAbs_natCast];omega)⟩
 have h2:ht b≤1:=Nat.max_le.2 ⟨len_of_lt (by omega),len_of_lt (by rw[Int.natAbs_natCast];omega)⟩
 have hc:=CIv.clean (mkG a b) (fit_mkG (Nat.le_trans h1 (by omega)) (Nat.le_trans h2 (by omega)))
 rw[loG_mk hab,hiG_mk hab] at hc
 have e2:(ByteArray.mk #[46,46]).size=2:=rfl
 exact interval_Text.e0 _ (mkG a b) _ _ hc (CTx.fText_small a ha ha2) (by omega) (CTx.fText_small b hb hb2) (by rw[ByteArray.size_append];omega)
theorem awake:Contract prg 12 [] (vB true):=by
 have a1:=of [-2,0,1] (by unfold InI64;decide) (by decide)
 have a2:=of [1,0,1] (by unfold InI64;decide) (by decide)
 have a3:=of [0, -1,0,1] (by unfold InI64;decide) (by decide)
 have fA:Fl 1 exA:=by decide +kernel
 have fB:Fl 1 exB:=by decide +kernel
 have fC:Fl 1 exC:=by decide +kernel
 have FA:Fine 13 7 exA:=fineF (by decide +kernel) (by simp) (by decide) fA
 have FB:Fine 13 7 exB:=fineF (by decide +kernel) (by simp) (by decide) fB
 have FC:Fine 13 7 exC:=fineF (by decide +kernel) (by simp) (by decide) fC
 have b1:=CSt.All FA fA.bd
 have e1:chg (chainL exA) (-bndP exA)-chg (chainL exA) (bndP exA)=2:=by decide +kernel
 rw[e1] at b1
 have b2:=CSt.All FB fB.bd
 have e2:chg (chainL exB) (-bndP exB)-chg (chainL exB) (bndP exB)=0:=by decide +kernel
 rw[e2] at b2
 have i1:=CSt.Isolate FA fA.bd okF
 have e3:isoL 13 7 exA=[(-4,0),(0,4)]:=by decide +kernel
 rw[e3] at i1
 have i2:=CSt.Isolate FC fC.bd okF
 have e4:isoL 13 7 exC=[(-1, -1),(0,0),(1,1)]:=by decide +kernel
 rw[e4] at i2
 have r1:=CSt.Refine FA (lo:=0) (hi:=4) (bits:=1) (e:=2) ⟨by decide +kernel,by decide +kernel,by decide +kernel,by decide +kernel,by decide +kernel,by decide⟩ (by decide +kernel)
 have e5:refR exA 0 4 1 2=(1,Rat.divInt 3 2):=by decide +kernel
 rw[e5] at r1
 have n0:numT 0=ByteArray.mk #[48]:=by unfold numT;rw[if_neg (by decide),show(0:Int).natAbs=0 from rfl,dig_small (by omega)];rfl
 have n1:numT 1=ByteArray.mk #[49]:=by unfold numT;rw[if_neg (by decide),show(1:Int).natAbs=1 from rfl,dig_small (by omega)];rfl
 have n2:numT 2=ByteArray.mk #[50]:=by unfold numT;rw[if_neg (by decide),show(2:Int).natAbs=2 from rfl,dig_small (by omega)];rfl
 have n3:numT 3=ByteArray.mk #[51]:=by unfold numT;rw[if_neg (by decide),show(3:Int).natAbs=3 from rfl,dig_small (by omega)];rfl
 have m1:numT (-1)=ByteArray.mk #[45,49]:=by unfold numT;rw[if_pos (by decide),show(-1:Int).natAbs=1 from rfl,dig_small (by omega)];decide +kernel
 have m4:numT (-4)=ByteArray.mk #[45,52]:=by unfold numT;rw[if_pos (by decide),show(-4:Int).natAbs=4 from rfl,dig_small (by omega)];decide +kernel
 have t0:ratT 0=ByteArray.mk #[48]:=by unfold ratT;rw[if_pos (by decide),show(0:Rat).num=0 from rfl,n0]
 have t1:ratT 1=ByteArray.mk #[49]:=by unfold ratT;rw[if_pos (by decide),show(1:Rat).num=1 from rfl,n1]
 have tm1:ratT (-1)=ByteArray.mk #[45,49]:=by unfold ratT;rw[if_pos (by decide),show(-1:Rat).num = -1 from rfl,m1]
 have tm4:ratT (-4)=ByteArray.mk #[45,52]:=by unfold ratT;rw[if_pos (by decide),show(-4:Rat).num = -4 from rfl,m4]
 have t32:ratT (Rat.divInt 3 2)=ByteArray.mk #[51,47,50]:=by
  have en:(Rat.divInt 3 2).num=3:=by decide +kernel
  have ed:((Rat.divInt 3 2).den:Int)=2:=by decide +kernel
  unfold ratT
  rw[if_neg (by rw[ed];decide),en,ed,n3,n2]
  decide +kernel
 have x1:=text (-4) 0 (by decide +kernel) (by decide +kernel) (by decide +kernel) (by decide +kernel) (by decide +kernel) (by rw[tm4];decide) (by rw[t0];decide)
 have x2:=text 1 (Rat.divInt 3 2) (by decide +kernel) (by decide +kernel) (by decide +kernel) (by decide +kernel) (by decide +kernel) (by rw[t1];decide) (by rw[t32];decide)
 have x3:=text (-1) (-1) (by decide +kernel) (by decide +kernel) (by decide +kernel) (by decide +kernel) (by decide +kernel) (by rw[tm1];decide) (by rw[tm1];decide)
 rw[tm4,t0] at x1
 rw[t1,t32] at x2
 rw[tm1] at x3
 exact linkworklaw06_awake.e3 _ _ _ _ _ _ _ (mkG 0 4) (mkG 1 (Rat.divInt 3 2)) _ _ (mkG (-4) 0) _ _ (mkG (-1) (-1)) _ a1 b1 a1 i1 a2 b2 rfl rfl rfl a1 rfl r1 a3 i2 rfl x1 (by decide +kernel) x2 (by decide +kernel) rfl rfl x3
end C06
end Go.Proofs.YtjadajceekjeoaaGreatDoor.Sym
namespace Go.Proofs.YtjadajceekjeoaaGreatDoor.Sym
open Go Path CInt
set_option linter.unusedVariables false
theorem srch_in{G:List (List Rat)}{f:List Rat}{a w:Rat}(hw:0≤w):∀(n k j:Nat) (l:List (Rat×Rat)),srchF G f a w n k j=some l→(∀r∈l,ptQ a w k j≤r.1∧r.1≤r.2∧r.2≤ptQ a w k (j+1))∧l.Pairwise (fun r s=>r.2≤s.1)
 |0,_,_,_,h=>by cases h
 |n+1,k,j,l,h=>by
  have hl:=pt_le a hw k j
  rw[srchF] at h
  split at h
  ·injection h with h;subst h;exact⟨fun r hr=>(by cases hr),List.Pairwise.nil⟩
  ·split at h
   ·split at h
    ·injection h with h;subst h
     exact⟨fun r hr=>by rw[List.mem_singleton] at hr;subst hr;exact⟨hl,Rat.le_refl,Rat.le_refl⟩,List.pairwise_singleton ..⟩
    ·injection h with h;subst h
     exact⟨fun r hr=>by rw[List.mem_singleton] at hr;subst hr;exact⟨Rat.le_refl,hl,Rat.le_refl⟩,List.pairwise_singleton ..⟩
   ·cases hx:srchF G f a w n (k+1) (2*j) with
    |none=>rw[hx] at h;cases h
    |some x =>
     cases hy:srchF G f a w n (k+1) (2*j+1) with
     |none=>rw[hx,hy] at h;cases h
     |some y =>
      rw[hx,hy] at h
      injection h with h;subst h
      obtain⟨a1,a2⟩:=srch_in hw n _ _ x hx
      obtain⟨b1,b2⟩:=srch_in hw n _ _ y hy
      rw[pt_even] at a1
      rw[show 2*j+1+1=2*(j+1) from by omega,pt_even] at b1
      have m1:=pt_le a hw (k+1) (2*j)
      rw[pt_even] at m1
      have m2:=pt_le a hw (k+1) (2*j+1)
      rw[show 2*j+1+1=2*(j+1) from by omega,pt_even] at m2
      refine⟨fun r hr => ?_,List.pairwise_append.2 ⟨a2,b2,fun r hr s hs=>Rat.le_trans (a1 r hr).2.2 (b1 s hs).1⟩⟩
      rcases List.mem_append.1 hr with hr|hr
      ·obtain⟨q1,q2,q3⟩:=a1 r hr;exact⟨q1,q2,Rat.le_trans q3 m2⟩
      ·obtain⟨q1,q2,q3⟩:=b1 r hr;exact⟨Rat.le_trans m1 q1,q2,q3⟩
namespace CSt
theorem Contains(lo hi x:Rat)(h1:ht lo≤1073741824)(h2:ht hi≤1073741824)(hx:ht x≤1073741824)(a:lo≤x)(b:x≤hi):Contract prg 42 [(mkG lo hi).pv,(mkR x).pv] (vB true):=by
 have hle:=Rat.le_trans a b
 have hc:=CIv.clean (mkG lo hi) (fit_mkG (Nat.le_trans h1 (by omega)) (Nat.le_trans h2 (by omega)))
 rw[loG_mk hle,hiG_mk hle] at hc
 have:=interval_Contains.e0 (mkG lo hi) _ (mkG lo hi) _ _ hc (QF.Cmp lo x (by omega) (by omega)) (cmpR_le.2 a) (QF.Cmp x hi (by omega) (by omega))
 rwa[decide_eq_true (cmpR_le.2 b)] at this
end CSt
end Go.Proofs.YtjadajceekjeoaaGreatDoor.Sym
namespace Go.Proofs.YtjadajceekjeoaaGreatDoor.Sym
open Go Path CInt
set_option linter.unusedVariables false
def cntL:List Rat→Rat→Int
 |[],_=>0
 |a::r,x=>(if a≤x then 1 else 0)+cntL r x
theorem cntL_none{u v:Rat}(huv:u≤v):∀D:List Rat,(∀a∈D,a≤u∨v<a)→cntL D u=cntL D v
 |[],_=>rfl
 |a::r,h=>by
  rw[cntL,cntL,cntL_none huv r (fun b hb=>h b (List.mem_cons_of_mem _ hb))]
  rcases h a (List.mem_cons_self ..) with h1|h1
  ·rw[if_pos h1,if_pos (Rat.le_trans h1 huv)]
  ·rw[if_neg (by grind),if_neg (by grind)]
theorem cntL_one{u v a:Rat}(h1:u<a)(h2:a≤v):∀D:List Rat,D.Nodup→a∈D→(∀b∈D,u<b→b≤v→b=a)→cntL D v=cntL D u+1
 |[],_,h,_=>by cases h
 |b::r,hn,hm,h=>by
  obtain⟨n1,n2⟩:=List.nodup_cons.1 hn
  rw[cntL,cntL]
  rcases List.mem_cons.1 hm with e|hm
  ·subst e
   rw[cntL_none (u:=u) (v:=v) (Rat.le_trans (Rat.le_of_lt h1) h2) r (fun c hc=>by
    rcases Rat.le_total (a:=c) (b:=u) with q|q
    ·exact Or.inl q
    ·by_cases e:c=u
     ·exact Or.inl (by rw[e];exact Rat.le_refl)
     ·right
      refine Rat.not_le.1 fun q2=>n1 ?_
      rw[←h c (List.mem_cons_of_mem _ hc) (by grind) q2];exact hc)]
   rw[if_pos h2,if_neg (by grind)]
   omega
  ·have ih:=cntL_one h1 h2 r n2 hm (fun c hc=>h c (List.mem_cons_of_mem _ hc))
   have hb:b≤u∨v<b:=by
    refine Classical.byContradiction fun hh=>n1 ?_
    have q1:u<b:=Rat.not_le.1 (fun q=>hh (Or.inl q))
    have q2:b≤v:=Rat.not_lt.1 (fun q=>hh (Or.inr q))
    rw[h b (List.mem_cons_self ..) q1 q2];exact hm
   have huv:u≤v:=Rat.le_trans (Rat.le_of_lt h1) h2
   rcases hb with q|q
   ·rw[if_pos q,if_pos (Rat.le_trans q huv)];omega
   ·rw[if_neg (by grind),if_neg (by grind)];omega
theorem cntL_ex{u v:Rat}(huv:u≤v):∀D:List Rat,cntL D u<cntL D v→∃a∈D,u<a∧a≤v
 |[],h=>absurd h (show ¬((0:Int)<0) by decide)
 |a::r,h=>by
  by_cases hm:u<a∧a≤v
  ·exact⟨a,List.mem_cons_self ..,hm⟩
  ·rw[cntL,cntL] at h
   have:(if a≤u then (1:Int) else 0)=if a≤v then 1 else 0:=by
    by_cases h1:a≤u
    ·rw[if_pos h1,if_pos (Rat.le_trans h1 huv)]
    ·rw[if_neg h1,if_neg (fun h2=>hm ⟨Rat.not_le.1 h1,h2⟩)]
   rw[this] at h
   obtain⟨b,hb,q⟩:=cntL_ex huv r (by omega)
   exact⟨b,List.mem_cons_of_mem _ hb,q⟩
theorem cntL_all{x:Rat} : ∀D:List Rat,(∀a∈D,a≤x)→cntL D x=(D.length:Int)
 |[],_=>rfl
 |a::r,h=>by
  rw[cntL,if_pos (h a (List.mem_cons_self ..)),cntL_all r (fun b hb=>h b (List.mem_cons_of_mem _ hb)),List.length_cons]
  omega
theorem cntL_zero{x:Rat} : ∀D:List Rat,(∀a∈D,x<a)→cntL D x=0
 |[],_=>rfl
 |a::r,h=>by
  have:=h a (List.mem_cons_self ..)
  rw[cntL,if_neg (by grind),cntL_zero r (fun b hb=>h b (List.mem_cons_of_mem _ hb))];rfl
structure Spl (p:List Rat) (D:List Rat):Prop where
 zp:lastZ p=false
 ne:p≠[]
 nd:D.Nodup
 root:∀x,evalL p x=0↔x∈D
 away:∀u v,u≤v→(∀a∈D,a<u∨v<a)→Away p u v
theorem Spl.count{p D:List Rat}(S:Spl p D){u v:Rat}(huv:u≤v):chg (chainL p) u+cntL D u=chg (chainL p) v+cntL D v:=by
 obtain⟨f1,f2,f3,f4,_⟩:=free_spec S.zp S.ne
 have noroot:∀x y,x≤y→(∀a∈D,a<x∨y<a)→chg (chainL p) x+cntL D x=chg (chainL p) y+cntL D y:=by
  intro x y hxy h
  have k:chg (chainL p) x=chg (chainL p) y:=chg_keep f1 f2 f3 hxy (away_dv (S.away x y hxy h) f4)
  rw[k,cntL_none hxy D (fun a ha=>by rcases h a ha with q|q;exact Or.inl (Rat.le_of_lt q);exact Or.inr q)]
 by_cases h2:deriveL (freeL p)=[]
 ·obtain⟨c,hc,hc0⟩:=derive_const f1 f2 h2
  have hD:∀a∈D,False:=by
   intro a ha
   have:=(free_root S.zp S.ne a).1 ((S.root a).2 ha)
   rw[hc,eval_c] at this
   exact hc0 this
  exact noroot u v huv (fun a ha=>(hD a ha).elim)
 ·obtain⟨R,hR,hu,hv⟩:=both_ab (a:=u) (b:=v)
  obtain⟨δ,ε,hδ,hε,hl⟩:=loc_exists f1 h2 f2 f3 hR
  refine subdiv (P:=fun u v=>chg (chainL p) u+cntL D u=chg (chainL p) v+cntL D v) hδ huv ?_ ?_
  ·intro x y h1 hxy h3 hw
   show _=_
   have hx:=ab_between (x:=x) h1 (by grind) hu hv
   have hy:=ab_between (x:=y) (by grind) h3 hu hv
   by_cases hr:∃a∈D,x≤a∧a≤y
   ·obtain⟨a,ha,a1,a2⟩:=hr
    have fa:=(free_root S.zp S.ne a).1 ((S.root a).2 ha)
    rcases hl x y hx hy hxy hw with ⟨⟨t,ht,hB⟩,_⟩|⟨t,ht,hm,e⟩
    ·have:=(hB a a1 a2).2
     rw[fa,ab_zero] at this
     exact absurd this (by grind)
    ·have hE:chg (chainL p) x+(if sg (evalL (freeL p) y) = -t then 1 else 0)=chg (chainL p) y+(if sg (evalL (freeL p) x) = -t then 1 else 0):=e
     have only:∀b∈D,x<b→b≤y→b=a:=by
      intro b hb b1 b2
      have fb:=(free_root S.zp S.ne b).1 ((S.root b).2 hb)
      refine Classical.byContradiction fun hne => ?_
      rcases Rat.le_total (a:=a) (b:=b) with q|q
      ·have:=hm a b a1 (by grind) b2
       rw[fa,fb,show(0:Rat)-0=0 from by grind,Rat.mul_zero] at this
       exact absurd this Rat.lt_irrefl
      ·have:=hm b a (Rat.le_of_lt b1) (by grind) a2
       rw[fa,fb,show(0:Rat)-0=0 from by grind,Rat.mul_zero] at this
       exact absurd this Rat.lt_irrefl
     have sy:sg (evalL (freeL p) y) ≠ -t:=by
      by_cases q:a=y
      ·rw[←q,fa]
       have e0:sg (0:Rat)=0:=by decide
       rw[e0];omega
      ·have:=hm a y a1 (by grind) Rat.le_refl
       rw[fa] at this
       rcases ht with rfl|rfl<;>rcases sg_cases (evalL (freeL p) y) with k|k|k<;>rw[k.2]<;>first|(intro h;exact absurd h (by decide))|(exfalso;rw[show ((1:Int):Rat)=1 from rfl] at this;grind)|(exfalso;rw[show ((-1:Int):Rat) = -1 from rfl] at this;grind)
     rw[if_neg sy] at hE
     by_cases q:x=a
     ·have sx:sg (evalL (freeL p) x) ≠ -t:=by
       rw[q,fa]
       have e0:sg (0:Rat)=0:=by decide
       rw[e0];omega
      rw[if_neg sx] at hE
      rw[cntL_none hxy D (fun b hb=>by
       refine Classical.byContradiction fun hh => ?_
       have q1:x<b:=Rat.not_le.1 (fun q=>hh (Or.inl q))
       have q2:b≤y:=Rat.not_lt.1 (fun q=>hh (Or.inr q))
       have:=only b hb q1 q2
       grind)]
      omega
     ·have hxa:x<a:=by grind
      have sx:sg (evalL (freeL p) x) = -t:=by
       have:=hm x a Rat.le_refl hxa a2
       rw[fa] at this
       rcases ht with rfl|rfl<;>rcases sg_cases (evalL (freeL p) x) with k|k|k<;>rw[k.2]<;>first|rfl|(exfalso;rw[show ((1:Int):Rat)=1 from rfl] at this;grind)|(exfalso;rw[show ((-1:Int):Rat) = -1 from rfl] at this;grind)
      rw[if_pos sx] at hE
      rw[cntL_one hxa a2 D S.nd ha only]
      omega
   ·exact noroot x y hxy (fun a ha=>by
     refine Classical.byContradiction fun hh=>hr ⟨a,ha,?_,?_⟩
     ·exact Rat.not_lt.1 (fun q=>hh (Or.inl q))
     ·exact Rat.not_lt.1 (fun q=>hh (Or.inr q)))
  ·intro x y z _ _ _ _ e1 e2
   have e1:_=_:=e1
   have e2:_=_:=e2
   show _=_
   omega
theorem Spl.within{p D:List Rat}(S:Spl p D){b:Rat}(hc:Cau p b)(hb:0≤b):∀a∈D, -b<a∧a<b:=by
 intro a ha
 have h0:=(S.root a).2 ha
 have key:ab a<b:=by
  refine Rat.not_le.1 fun hle => ?_
  have:=cau_big S.zp S.ne hc hb hle
  rw[h0,ab_zero] at this
  have:=ab_pos (top_ne S.zp S.ne)
  grind
 have h1:=le_ab a
 have h2:=neg_le_ab a
 constructor<;>grind
theorem Spl.all{p D:List Rat}(S:Spl p D){b:Rat}(hc:Cau p b)(hb:0≤b):chg (chainL p) (-b)-chg (chainL p) b=(D.length:Int):=by
 have h:=S.count (u := -b) (v:=b) (by grind)
 have w:=S.within hc hb
 rw[cntL_zero D (fun a ha=>(w a ha).1),cntL_all D (fun a ha=>Rat.le_of_lt (w a ha).2)] at h
 omega
theorem Spl.search{p D:List Rat}(S:Spl p D){a w:Rat}(hw:0≤w):∀(n k j:Nat) (l:List (Rat×Rat)),srchF (chainL p) (freeL p) a w n k j=some l →
  ∃A:List Rat,A.length=l.length∧(∀(i:Nat) (r:Rat×Rat) (x:Rat),l[i]? = some r→A[i]? = some x→r.1≤x∧x≤r.2)∧(∀x∈A,x∈D∧ptQ a w k j<x∧x≤ptQ a w k (j+1))∧A.Pairwise (·<·)
 |0,_,_,_,h=>by cases h
 |n+1,k,j,l,h=>by
  have hl:=pt_le a hw k j
  rw[srchF] at h
  split at h
  ·injection h with h;subst h;exact⟨[],rfl,fun i r x hr=>(by simp at hr),fun x hx=>(by cases hx),List.Pairwise.nil⟩
  ·split at h
   ·rename_i hh
    have hc:=S.count hl
    obtain⟨x,hx,x1,x2⟩:=cntL_ex hl D (by omega)
    split at h
    ·rename_i hv
     injection h with h;subst h
     have hm:=(S.root _).1 ((free_root S.zp S.ne _).2 hv)
     refine⟨[ptQ a w k (j+1)],rfl,fun i r y hr hy => ?_,fun y hy => ?_,List.pairwise_singleton ..⟩
     ·match i with
      |0=>simp at hr hy;subst hr;subst hy;exact⟨Rat.le_refl,Rat.le_refl⟩
      |i+1=>simp at hr
     ·rw[List.mem_singleton] at hy;subst hy
      exact⟨hm,by grind,Rat.le_refl⟩
    ·injection h with h;subst h
     refine⟨[x],rfl,fun i r y hr hy => ?_,fun y hy => ?_,List.pairwise_singleton ..⟩
     ·match i with
      |0=>simp at hr hy;subst hr;subst hy;exact⟨Rat.le_of_lt x1,x2⟩
      |i+1=>simp at hr
     ·rw[List.mem_singleton] at hy;subst hy;exact⟨hx,x1,x2⟩
   ·cases hx:srchF (chainL p) (freeL p) a w n (k+1) (2*j) with
    |none=>rw[hx] at h;cases h
    |some x =>
     cases hy:srchF (chainL p) (freeL p) a w n (k+1) (2*j+1) with
     |none=>rw[hx,hy] at h;cases h
     |some y =>
      rw[hx,hy] at h
      injection h with h;subst h
      obtain⟨A,a1,a2,a3,a4⟩:=S.search hw n _ _ x hx
      obtain⟨B,b1,b2,b3,b4⟩:=S.search hw n _ _ y hy
      rw[pt_even] at a3
      rw[show 2*j+1+1=2*(j+1) from by omega,pt_even] at b3
      have m1:=pt_le a hw (k+1) (2*j)
      rw[pt_even] at m1
      have m2:=pt_le a hw (k+1) (2*j+1)
      rw[show 2*j+1+1=2*(j+1) from by omega,pt_even] at m2
      refine⟨A++B,by rw[List.length_append,List.length_append,a1,b1],fun i r z hr hz => ?_,fun z hz => ?_,List.pairwise_append.2 ⟨a4,b4,fun c hc d hd=>by have:=(a3 c hc).2.2;have:=(b3 d hd).2.1;grind⟩⟩
      ·by_cases hi:i<x.length
       ·rw[List.getElem?_append_left hi] at hr
        rw[List.getElem?_append_left (by omega)] at hz
        exact a2 i r z hr hz
       ·rw[List.getElem?_append_right (by omega)] at hr
        rw[List.getElem?_append_right (by omega),a1] at hz
        exact b2 _ r z hr hz
      ·rcases List.mem_append.1 hz with hz|hz
       ·obtain⟨q1,q2,q3⟩:=a3 z hz;exact⟨q1,q2,Rat.le_trans q3 m2⟩
       ·obtain⟨q1,q2,q3⟩:=b3 z hz;exact⟨q1,by grind,q3⟩
theorem pw_nodup{A:List Rat}(h:A.Pairwise (·<·)):A.Nodup:=h.imp (fun hlt e=>by rw[e] at hlt;exact Rat.lt_irrefl hlt)
theorem rise_eq:∀(A S:List Rat),A.Pairwise (·<·)→S.Pairwise (·<·)→A.length=S.length→(∀x∈A,x∈S)→A=S
 |[],[],_,_,_,_=>rfl
 |[],_::_,_,_,h,_=>by cases h
 |_::_,[],_,_,h,_=>by cases h
 |a::A,s::S,hA,hS,hl,hm=>by
  obtain⟨a1,a2⟩:=List.pairwise_cons.1 hA
  obtain⟨s1,s2⟩:=List.pairwise_cons.1 hS
  have e:a=s:=by
   rcases List.mem_cons.1 (hm a (List.mem_cons_self ..)) with e|h
   ·exact e
   ·exfalso
    have hsub:∀x∈a::A,x∈S:=by
     intro x hx
     have hax:a≤x:=by
      rcases List.mem_cons.1 hx with q|q
      ·rw[q];exact Rat.le_refl
      ·exact Rat.le_of_lt (a1 x q)
     rcases List.mem_cons.1 (hm x hx) with q|q
     ·have:=s1 a h
      grind
     ·exact q
    have:=List.Nodup.length_le_of_subset (pw_nodup hA) hsub
    rw[hl,List.length_cons] at this
    omega
  subst e
  rw[rise_eq A S a2 s2 (by simpa using hl) (fun x hx=>by
   rcases List.mem_cons.1 (hm x (List.mem_cons_of_mem _ hx)) with q|q
   ·have:=a1 x hx
    grind
   ·exact q)]
end Go.Proofs.YtjadajceekjeoaaGreatDoor.Sym
namespace Go.Proofs.YtjadajceekjeoaaGreatDoor.Sym.Path
open Go
set_option maxRecDepth 20000
set_option linter.unusedVariables false
namespace linkworklaw06_SturmRoots
@[reducible] noncomputable def fn:Func:=Tryz.f9
noncomputable def atK1:List Itm:=focus [0,2,0,0,2,1,2,0,2,0,2,0,0,2,0,0] [.code (bodyOf fn)]
def inv1(p_5:List ARat)(site_93 roots:List Int)(t_38:Nat):St:=⟨[(5,(.pv (polyPV p_5))),(6,(.row 93 0 site_93.length 1)),(36,(.pv (lpv i8Cell roots))),(37,(eI (roots.length:Int))),(38,(eI (t_38:Int)))],[(93,(.pure ((site_93:List Int).map intCell).flatten))]⟩
@[reducible] noncomputable def Loop1(p_5:List ARat)(site_93 roots:List Int)(t_38:Nat)(r:PV):Prop:=L prg fn atK1 (inv1 p_5 site_93 roots t_38) r
noncomputable def atK2:List Itm:=focus [0,2,0,0,2,1,2,0,2,0,2,0,0,2,0,0,0,0,2,0,0,2,0,0,0,2,0,2,0,0,2,1,2,0,2,0,2,0,0,0] [.code (bodyOf fn)]
def inv2(mul:List ARat)(site_93:List Int)(v:Int)(at_11:Nat)(roots:List Int)(t_38:Nat):St:=⟨[(5,(.pv (polyPV mul))),(6,(.row 93 0 site_93.length 1)),(8,(.pv (.int .i8 v))),(11,(eI (at_11:Int))),(36,(.pv (lpv i8Cell roots))),(37,(eI (roots.length:Int))),(38,(eI (t_38:Int)))],[(93,(.pure ((site_93:List Int).map intCell).flatten))]⟩
@[reducible] noncomputable def Loop2(mul:List ARat)(site_93:List Int)(v:Int)(at_11:Nat)(roots:List Int)(t_38:Nat)(r:PV):Prop:=L prg fn atK2 (inv2 mul site_93 v at_11 roots t_38) r
noncomputable def atK3:List Itm:=focus [0,2,0,0,2,1,2,0,2,0,2,0,0,2,0,0,0,0,2,0,1,2,2,2,2,0,2,0,2,0,0,2,1,2,0,0,2,0,0] [.code (bodyOf fn)]
def inv3(p_5:List ARat)(iso:List ARange)(site_93:List Int)(t_124 t_125:Nat):St:=⟨[(5,(.pv (polyPV p_5))),(14,(.pv (lpv ARange.cells iso))),(123,(.row 93 0 site_93.length 1)),(124,(eI (t_124:Int))),(125,(eI (t_125:Int)))],[(93,(.pure ((site_93:List Int).map intCell).flatten))]⟩
@[reducible] noncomputable def Loop3(p_5:List ARat)(iso:List ARange)(site_93:List Int)(t_124 t_125:Nat)(r:PV):Prop:=L prg fn atK3 (inv3 p_5 iso site_93 t_124 t_125) r
theorem e0(roots:List Int)(lead:Int)(awa:Bool)(h1:6<roots.length)(h2:Contract prg 12 [] (vB awa)):Contract prg 9 [(lpv i8Cell roots),(.int .i8 lead)] (vB awa) :=
 Contract.ofL Tryz.func9 (by kernel_rfl) (L.done mixed tabOk (n:=84) (ns:=[1,1,1,1,1,1,1]) (tr:=[.reg [],.reg [.none,(iI (roots.length:Int)),.none,.none,.skip,.skip,(.dec true),.none,.skip,.skip],.auto,.reg [(.pv (vB awa))]]) (cj (o_len i8Cell roots) (cj (dltN_t h1) (cj (dltN_t h1) (cj (dltN_t h1) (cj (Eq.refl true) (cj (Eq.refl true) (cj h2 True.intro))))))) (by kernel_rfl))
theorem e1(roots:List Int)(lead:Int)(awa:Bool)(h1:roots.length≤6)(h2:lead=0)(h3:Contract prg 12 [] (vB awa)):Contract prg 9 [(lpv i8Cell roots),(.int .i8 lead)] (vB awa) :=
 Contract.ofL Tryz.func9 (by kernel_rfl) (L.done mixed tabOk (n:=84) (ns:=[1,1,1,1,1,1,1,1]) (tr:=[.reg [],.reg [.none,(iI (roots.length:Int)),.none,.none,.none,.none,(.dec false),.none,.skip,.skip,(.dec true)],.auto,.reg [(.pv (vB awa))]]) (cj (o_len i8Cell roots) (cj (dltN_f h1) (cj (dltN_f h1) (cj (dltN_f h1) (cj (deq_t h2) (cj (deq_t h2) (cj (deq_t h2) (cj h3 True.intro)))))))) (by kernel_rfl))
theorem e3(roots:List Int)(lead:Int)(awa:Bool)(of:List ARat){r:PV}(h1:roots.length≤6)(h2:lead≠0)(h3:Contract prg 12 [] (vB awa))(h4:awa=true)(h5:InI64 lead)(h6:Contract prg 40 [(lpv intCell [lead])] (polyPV of))(hL:Loop1 of [] roots 0 r):Contract prg 9 [(lpv i8Cell roots),(.int .i8 lead)] r :=
 Contract.ofL Tryz.func9 (by kernel_rfl) (L.go mixed tabOk (n:=108) (ns:=[1,1,1,1,1,1,1,1,1,1,3,1,1]) (tr:=[.reg [],.reg [.none,(iI (roots.length:Int)),.none,.none,.none,.none,(.dec false),.none,(.pv (vB awa)),.none,(.dec false)],.dec false,.reg [.none,(iI lead),(.slc 0 0 (([lead]:List Int).map intCell)),(.pv (polyPV of))],.reg [.nil],.adopt 6 93 1,.reg [.none,(iI (roots.length:Int))],.keep [5,6,36,37,38]]) (cj (o_len i8Cell roots) (cj (dltN_f h1) (cj (dltN_f h1) (cj (dltN_f h1) (cj (deq_f h2) (cj h3 (cj (deq_f h2) (cj (deq_f h2) (cj (bnot_f h4) (cj (cv_i64 h5) (cj (o_bs sz_int ([lead]:List Int)) (cj h6 (cj (o_len i8Cell roots) True.intro))))))))))))) (by kernel_rfl) hL)
theorem l10(p_5:List ARat)(site_93 roots:List Int)(t_38:Nat)(v:Int)(of mul:List ARat){r:PV}(h1:t_38<roots.length)(h2:roots[t_38]? = some v)(h3:InI64 v)(h4:InI64 (-v))(h5:Contract prg 40 [(lpv intCell [(-v),1])] (polyPV of))(h6:Contract prg 41 [(polyPV p_5),(polyPV of)] (.tup [(polyPV mul),.nilI]))(hL:Loop2 mul site_93 v 0 roots t_38 r):Loop1 p_5 site_93 roots t_38 r :=
 L.go mixed tabOk (n:=180) (ns:=[1,3,1,1,3,1,1]) (tr:=[.auto,.reg [],.dec true,.reg [(.row t_38 (i8Cell v))],.reg [.none,.none,(iI v),(iI (-v)),(.slc 0 0 (([(-v),1]:List Int).map intCell)),(.pv (polyPV of)),(.pv (.tup [(polyPV mul),.nilI]))],.reg [],.auto,.reg [],.reg [],.keep [5,6,8,11,36,37,38]]) (cj (dltN_t h1) (cj (o_at i8Cell (Eq.refl (((t_38:Nat):Int):Int)) h2) (cj (cv_i64 h3) (cj (us_neg h4) (cj (o_bs sz_int ([(-v),1]:List Int)) (cj h5 (cj h6 True.intro))))))) (by kernel_rfl) hL
theorem l11(p_5:List ARat)(site_93 roots:List Int)(t_38:Nat)(all:Int)(iso:List ARange){r:PV}(h1:roots.length≤t_38)(h2:Contract prg 14 [(polyPV p_5)] (.tup [(vI all),.nilI]))(h3:Contract prg 32 [(polyPV p_5)] (.tup [(lpv ARange.cells iso),.nilI]))(h4:all=(site_93.length:Int))(h5:(iso.length:Int)=all)(hL:Loop3 p_5 iso site_93 site_93.length 0 r):Loop1 p_5 site_93 roots t_38 r :=
 L.go mixed tabOk (n:=177) (ns:=[1,1,1,1,1,1,1,1,1,1,1,1,1,1,1,1]) (tr:=[.auto,.reg [],.dec false,.reg [.none,(.pv (.tup [(vI all),.nilI]))],.reg [.none,(.pv (.tup [(lpv ARange.cells iso),.nilI]))],.reg [.none,.none,.none,.none,.none,.none,.none,.none,.none,.none,.none,.none,.none,.none,(iI (iso.length:Int)),.none,.none,(.dec false)],.dec false,.reg [],.keep [5,14,123,124,125]]) (cj (dltN_f h1) (cj h2 (cj h3 (cj (Eq.refl false) (cj (Eq.refl false) (cj (Eq.refl false) (cj (Eq.refl false) (cj (Eq.refl false) (cj (Eq.refl false) (cj (dne_f h4) (cj (dne_f h4) (cj (o_len ARange.cells iso) (cj (dne_f h4) (cj (dne_f h4) (cj (dne_f h4) (cj (dne_f h5) True.intro)))))))))))))))) (by kernel_rfl) hL
theorem l20(mul:List ARat)(site_93:List Int)(v:Int)(at_11:Nat)(roots:List Int)(t_38:Nat)(v1:Int){r:PV}(h1:at_11<site_93.length)(h2:site_93[at_11]? = some v1)(h3:InI64 v)(h4:v1<v)(h5:(at_11+1)<9223372036854775808)(hL:Loop2 mul site_93 v (at_11+1) roots t_38 r):Loop2 mul site_93 v at_11 roots t_38 r :=
 L.go mixed tabOk (n:=207) (ns:=[1,1,1,2,1,1,1,1,1,1,1,1,1]) (tr:=[.auto,.reg [.none,.none,.none,.none,.none,.none,.none,(.nat at_11),(.ev (.pv (vI v1))),.none,(iI v),.none,(.dec true)],.dec true,.reg [.none,(iI (((at_11+1):Nat):Int))],.keep [5,6,8,11,36,37,38]]) (cj (dltN_t h1) (cj (dltN_t h1) (cj (dltN_t h1) (cj (cj (Eq.refl (((at_11:Nat):Int):Int)) h1) (cj (dltN_t h1) (cj (o_get (enc:=intCell) (f:=fun a=>(vI a)) (fun _=>rfl) h2) (cj (dltN_t h1) (cj (dltN_t h1) (cj (cv_i64 h3) (cj (dltN_t h1) (cj (dltN_t h1) (cj (dlt_t h4) (cj (bs_addN h5) True.intro))))))))))))) (by kernel_rfl) hL
theorem l22_any0(mul:List ARat)(site_93:List Int)(v:Int)(at_11:Nat)(roots:List Int)(t_38:Nat):anyL prg tab fn.ntmps (opsAt (focus [0,2,0,0,2,1,2,0,2,0,2,0,0,2,0,0,0,0,2,0,0,2,0,0,0,2,0,2,0,0,2,1,2,0,2,0,2,0,0,0,0,0,0,2,1,2,2,2,2,0,2,0] [.code (bodyOf fn)])) (allF (opsAt (focus [0,2,0,0,2,1,2,0,2,0,2,0,0,2,0,0,0,0,2,0,0,2,0,0,0,2,0,2,0,0,2,1,2,0,2,0,2,0,0,0,0,0,0,2,1,2,2,2,2,0,2,0] [.code (bodyOf fn)])) [0,1,3,6,7]) (downs (opsAt (focus [0,2,0,0,2,1,2,0,2,0,2,0,0,2,0,0,0,0,2,0,0,2,0,0,0,2,0,2,0,0,2,1,2,0,2,0,2,0,0,0,0,0,0,2,1,2,2,2,2,0,2,0] [.code (bodyOf fn)])) [0,1,3,6,7]) [.none,.none,(.slc 0 at_11 []),.none,(iI v),.none,.none,.none,(.slc at_11 site_93.length []),(.row (([v]:List Int).take 1++((site_93:List Int).drop at_11).take (site_93.length-at_11)).length (((([v]:List Int).take 1++((site_93:List Int).drop at_11).take (site_93.length-at_11)):List Int).map intCell).flatten),(.row ((site_93:List Int).take at_11++(((([v]:List Int).take 1++((site_93:List Int).drop at_11).take (site_93.length-at_11)):List Int).drop 0).take ((([v]:List Int).take 1++((site_93:List Int).drop at_11).take (site_93.length-at_11)).length)).length ((((site_93:List Int).take at_11++(((([v]:List Int).take 1++((site_93:List Int).drop at_11).take (site_93.length-at_11)):List Int).drop 0).take ((([v]:List Int).take 1++((site_93:List Int).drop at_11).take (site_93.length-at_11)).length)):List Int).map intCell).flatten),.none] (flS tab fn.ntmps (opsAt (focus [0,2,0,0,2,1,2,0,2,0,2,0,0,2,0,0,0,0,2,0,0,2,0,0,0,2,0,2,0,0,2,1,2,0,2,0,2,0,0,0,0,0,0,2,1,2,2,2,2,0,2,0] [.code (bodyOf fn)])) [0,1,3,6,7] ⟨[(5,(.pv (polyPV mul))),(6,(.row 93 0 site_93.length 1)),(8,(.pv (.int .i8 v))),(11,(eI (at_11:Int))),(36,(.pv (lpv i8Cell roots))),(37,(eI (roots.length:Int))),(38,(eI (t_38:Int)))],[(93,(.pure ((site_93:List Int).map intCell).flatten))]⟩)=anyR prg tab fn.ntmps (opsAt (focus [0,2,0,0,2,1,2,0,2,0,2,0,0,2,0,0,0,0,2,0,0,2,0,0,0,2,0,2,0,0,2,1,2,0,2,0,2,0,0,0,0,0,0,2,1,2,2,2,2,0,2,0] [.code (bodyOf fn)])) (allF (opsAt (focus [0,2,0,0,2,1,2,0,2,0,2,0,0,2,0,0,0,0,2,0,0,2,0,0,0,2,0,2,0,0,2,1,2,0,2,0,2,0,0,0,0,0,0,2,1,2,2,2,2,0,2,0] [.code (bodyOf fn)])) [0,1,3,6,7]) (downs (opsAt (focus [0,2,0,0,2,1,2,0,2,0,2,0,0,2,0,0,0,0,2,0,0,2,0,0,0,2,0,2,0,0,2,1,2,0,2,0,2,0,0,0,0,0,0,2,1,2,2,2,2,0,2,0] [.code (bodyOf fn)])) [0,1,3,6,7]) [.none,.none,(.slc 0 at_11 []),.none,(iI v),.none,.none,.none,(.slc at_11 site_93.length []),(.row (([v]:List Int).take 1++((site_93:List Int).drop at_11).take (site_93.length-at_11)).length (((([v]:List Int).take 1++((site_93:List Int).drop at_11).take (site_93.length-at_11)):List Int).map intCell).flatten),(.row ((site_93:List Int).take at_11++(((([v]:List Int).take 1++((site_93:List Int).drop at_11).take (site_93.length-at_11)):List Int).drop 0).take ((([v]:List Int).take 1++((site_93:List Int).drop at_11).take (site_93.length-at_11)).length)).length ((((site_93:List Int).take at_11++(((([v]:List Int).take 1++((site_93:List Int).drop at_11).take (site_93.length-at_11)):List Int).drop 0).take ((([v]:List Int).take 1++((site_93:List Int).drop at_11).take (site_93.length-at_11)).length)):List Int).map intCell).flatten),.none] (flS tab fn.ntmps (opsAt (focus [0,2,0,0,2,1,2,0,2,0,2,0,0,2,0,0,0,0,2,0,0,2,0,0,0,2,0,2,0,0,2,1,2,0,2,0,2,0,0,0,0,0,0,2,1,2,2,2,2,0,2,0] [.code (bodyOf fn)])) [0,1,3,6,7] ⟨[(5,(.pv (polyPV mul))),(6,(.row 93 0 site_93.length 1)),(8,(.pv (.int .i8 v))),(11,(eI (at_11:Int))),(36,(.pv (lpv i8Cell roots))),(37,(eI (roots.length:Int))),(38,(eI (t_38:Int)))],[(93,(.pure ((site_93:List Int).map intCell).flatten))]⟩):=by kernel_rfl
theorem l22(mul:List ARat)(site_93:List Int)(v:Int)(at_11:Nat)(roots:List Int)(t_38:Nat)(v1:Int){r:PV}(h1:at_11<site_93.length)(h2:site_93[at_11]? = some v1)(h3:InI64 v)(h4:v≤v1)(h5:at_11≠site_93.length)(h6:v1≠v)(h7:at_11≤site_93.length)(h8:at_11+(site_93.length-at_11)≤(site_93:List Int).length)(h9:(([v]:List Int).take 1++((site_93:List Int).drop at_11).take (site_93.length-at_11)).length*8≤140737488355328)(h10:at_11≤(site_93:List Int).length)(h11:0+(([v]:List Int).take 1++((site_93:List Int).drop at_11).take (site_93.length-at_11)).length≤((([v]:List Int).take 1++((site_93:List Int).drop at_11).take (site_93.length-at_11)):List Int).length)(h12:((site_93:List Int).take at_11++(((([v]:List Int).take 1++((site_93:List Int).drop at_11).take (site_93.length-at_11)):List Int).drop 0).take ((([v]:List Int).take 1++((site_93:List Int).drop at_11).take (site_93.length-at_11)).length)).length*8≤140737488355328)(h13:(t_38+1)<9223372036854775808)(hL:Loop1 mul ((site_93:List Int).take at_11++(((([v]:List Int).take 1++((site_93:List Int).drop at_11).take (site_93.length-at_11)):List Int).drop 0).take ((([v]:List Int).take 1++((site_93:List Int).drop at_11).take (site_93.length-at_11)).length)) roots (t_38+1) r):Loop2 mul site_93 v at_11 roots t_38 r :=
 L.go mixed tabOk (n:=225) (ns:=[1,1,1,2,1,1,1,1,1,1,1,1,1,1,1,2,1,1,1,1,1,1,1,1,5,1,5,6,6,1,1]) (tr:=[.auto,.reg [.none,.none,.none,.none,.none,.none,.none,(.nat at_11),(.ev (.pv (vI v1))),.none,(iI v),.none,(.dec true)],.dec false,.reg [.none,.none,.none,.none,.none,.none,.none,(.nat at_11),(.ev (.pv (vI v1))),.none,(iI v),.none,(.dec false)],.dec true,.keep [5,6,8,11,36,37,38],.any [0,1,3,6,7] [.none,.none,(.slc 0 at_11 []),.none,(iI v),.none,.none,.none,(.slc at_11 site_93.length []),(.row (([v]:List Int).take 1++((site_93:List Int).drop at_11).take (site_93.length-at_11)).length (((([v]:List Int).take 1++((site_93:List Int).drop at_11).take (site_93.length-at_11)):List Int).map intCell).flatten),(.row ((site_93:List Int).take at_11++(((([v]:List Int).take 1++((site_93:List Int).drop at_11).take (site_93.length-at_11)):List Int).drop 0).take ((([v]:List Int).take 1++((site_93:List Int).drop at_11).take (site_93.length-at_11)).length)).length ((((site_93:List Int).take at_11++(((([v]:List Int).take 1++((site_93:List Int).drop at_11).take (site_93.length-at_11)):List Int).drop 0).take ((([v]:List Int).take 1++((site_93:List Int).drop at_11).take (site_93.length-at_11)).length)):List Int).map intCell).flatten),.none],.reg [(iI (((t_38+1):Nat):Int))],.keep [5,6,36,37,38],.drop [92]]) (cj (dltN_t h1) (cj (dltN_t h1) (cj (dltN_t h1) (cj (cj (Eq.refl (((at_11:Nat):Int):Int)) h1) (cj (dltN_t h1) (cj (o_get (enc:=intCell) (f:=fun a=>(vI a)) (fun _=>rfl) h2) (cj (dltN_t h1) (cj (dltN_t h1) (cj (cv_i64 h3) (cj (dltN_t h1) (cj (dltN_t h1) (cj (dlt_f h4) (cj (deqN_f h5) (cj (deqN_f h5) (cj (deqN_f h5) (cj (cj (Eq.refl (((at_11:Nat):Int):Int)) h1) (cj (deqN_f h5) (cj (o_get (enc:=intCell) (f:=fun a=>(vI a)) (fun _=>rfl) h2) (cj (deqN_f h5) (cj (deqN_f h5) (cj (cv_i64 h3) (cj (deqN_f h5) (cj (deqN_f h5) (cj (dne_t h6) (cj (o_sr (Eq.refl (0:Int)) (Eq.refl (((at_11:Nat):Int):Int)) (Or.inl (Eq.refl 0)) (Nat.zero_le at_11) h7) (cj (cv_i64 h3) (cj (o_sr (Eq.refl (((at_11:Nat):Int):Int)) (Eq.refl (((site_93.length:Nat):Int):Int)) (Or.inr h1) h7 (Nat.le_refl site_93.length)) (cj (o_appP sz_int ([v]:List Int) (site_93:List Int) 8 (Nat.le_refl _) (show (0+at_11*1)=at_11*1 by omega) h8 h9 rfl) (cj (o_appP sz_int (site_93:List Int) ((([v]:List Int).take 1++((site_93:List Int).drop at_11).take (site_93.length-at_11)):List Int) 8 h10 (show 0=0*1 by omega) h11 h12 rfl) (cj (l22_any0 mul site_93 v at_11 roots t_38) (cj (bs_addN h13) True.intro))))))))))))))))))))))))))))))) (by kernel_rfl) hL
theorem l23(mul:List ARat)(site_93:List Int)(v:Int)(at_11:Nat)(roots:List Int)(t_38:Nat)(v1:Int){r:PV}(h1:at_11<site_93.length)(h2:site_93[at_11]? = some v1)(h3:InI64 v)(h4:v≤v1)(h5:at_11≠site_93.length)(h6:v1=v)(h7:(t_38+1)<9223372036854775808)(hL:Loop1 mul site_93 roots (t_38+1) r):Loop2 mul site_93 v at_11 roots t_38 r :=
 L.go mixed tabOk (n:=225) (ns:=[1,1,1,2,1,1,1,1,1,1,1,1,1,1,1,2,1,1,1,1,1,1,1,1,1]) (tr:=[.auto,.reg [.none,.none,.none,.none,.none,.none,.none,(.nat at_11),(.ev (.pv (vI v1))),.none,(iI v),.none,(.dec true)],.dec false,.reg [.none,.none,.none,.none,.none,.none,.none,(.nat at_11),(.ev (.pv (vI v1))),.none,(iI v),.none,(.dec false)],.dec false,.reg [(iI (((t_38+1):Nat):Int))],.keep [5,6,36,37,38]]) (cj (dltN_t h1) (cj (dltN_t h1) (cj (dltN_t h1) (cj (cj (Eq.refl (((at_11:Nat):Int):Int)) h1) (cj (dltN_t h1) (cj (o_get (enc:=intCell) (f:=fun a=>(vI a)) (fun _=>rfl) h2) (cj (dltN_t h1) (cj (dltN_t h1) (cj (cv_i64 h3) (cj (dltN_t h1) (cj (dltN_t h1) (cj (dlt_f h4) (cj (deqN_f h5) (cj (deqN_f h5) (cj (deqN_f h5) (cj (cj (Eq.refl (((at_11:Nat):Int):Int)) h1) (cj (deqN_f h5) (cj (o_get (enc:=intCell) (f:=fun a=>(vI a)) (fun _=>rfl) h2) (cj (deqN_f h5) (cj (deqN_f h5) (cj (cv_i64 h3) (cj (deqN_f h5) (cj (deqN_f h5) (cj (dne_f h6) (cj (bs_addN h7) True.intro))))))))))))))))))))))))) (by kernel_rfl) hL
theorem l24_any0(mul:List ARat)(site_93:List Int)(v:Int)(at_11:Nat)(roots:List Int)(t_38:Nat):anyL prg tab fn.ntmps (opsAt (focus [0,2,0,0,2,1,2,0,2,0,2,0,0,2,0,0,0,0,2,0,0,2,0,0,0,2,0,2,0,0,2,1,2,0,2,0,2,0,0,0,0,0,0,2,1,2,2,2,2,0,2,0] [.code (bodyOf fn)])) (allF (opsAt (focus [0,2,0,0,2,1,2,0,2,0,2,0,0,2,0,0,0,0,2,0,0,2,0,0,0,2,0,2,0,0,2,1,2,0,2,0,2,0,0,0,0,0,0,2,1,2,2,2,2,0,2,0] [.code (bodyOf fn)])) [0,1,3,6,7]) (downs (opsAt (focus [0,2,0,0,2,1,2,0,2,0,2,0,0,2,0,0,0,0,2,0,0,2,0,0,0,2,0,2,0,0,2,1,2,0,2,0,2,0,0,0,0,0,0,2,1,2,2,2,2,0,2,0] [.code (bodyOf fn)])) [0,1,3,6,7]) [.none,.none,(.slc 0 at_11 []),.none,(iI v),.none,.none,.none,(.slc at_11 site_93.length [[]]),(.row (([v]:List Int).take 1++([]:List Int)).length (((([v]:List Int).take 1++([]:List Int)):List Int).map intCell).flatten),(.row ((site_93:List Int).take at_11++(((([v]:List Int).take 1++([]:List Int)):List Int).drop 0).take ((([v]:List Int).take 1++([]:List Int)).length)).length ((((site_93:List Int).take at_11++(((([v]:List Int).take 1++([]:List Int)):List Int).drop 0).take ((([v]:List Int).take 1++([]:List Int)).length)):List Int).map intCell).flatten),.none] (flS tab fn.ntmps (opsAt (focus [0,2,0,0,2,1,2,0,2,0,2,0,0,2,0,0,0,0,2,0,0,2,0,0,0,2,0,2,0,0,2,1,2,0,2,0,2,0,0,0,0,0,0,2,1,2,2,2,2,0,2,0] [.code (bodyOf fn)])) [0,1,3,6,7] ⟨[(5,(.pv (polyPV mul))),(6,(.row 93 0 site_93.length 1)),(8,(.pv (.int .i8 v))),(11,(eI (at_11:Int))),(36,(.pv (lpv i8Cell roots))),(37,(eI (roots.length:Int))),(38,(eI (t_38:Int)))],[(93,(.pure ((site_93:List Int).map intCell).flatten))]⟩)=anyR prg tab fn.ntmps (opsAt (focus [0,2,0,0,2,1,2,0,2,0,2,0,0,2,0,0,0,0,2,0,0,2,0,0,0,2,0,2,0,0,2,1,2,0,2,0,2,0,0,0,0,0,0,2,1,2,2,2,2,0,2,0] [.code (bodyOf fn)])) (allF (opsAt (focus [0,2,0,0,2,1,2,0,2,0,2,0,0,2,0,0,0,0,2,0,0,2,0,0,0,2,0,2,0,0,2,1,2,0,2,0,2,0,0,0,0,0,0,2,1,2,2,2,2,0,2,0] [.code (bodyOf fn)])) [0,1,3,6,7]) (downs (opsAt (focus [0,2,0,0,2,1,2,0,2,0,2,0,0,2,0,0,0,0,2,0,0,2,0,0,0,2,0,2,0,0,2,1,2,0,2,0,2,0,0,0,0,0,0,2,1,2,2,2,2,0,2,0] [.code (bodyOf fn)])) [0,1,3,6,7]) [.none,.none,(.slc 0 at_11 []),.none,(iI v),.none,.none,.none,(.slc at_11 site_93.length [[]]),(.row (([v]:List Int).take 1++([]:List Int)).length (((([v]:List Int).take 1++([]:List Int)):List Int).map intCell).flatten),(.row ((site_93:List Int).take at_11++(((([v]:List Int).take 1++([]:List Int)):List Int).drop 0).take ((([v]:List Int).take 1++([]:List Int)).length)).length ((((site_93:List Int).take at_11++(((([v]:List Int).take 1++([]:List Int)):List Int).drop 0).take ((([v]:List Int).take 1++([]:List Int)).length)):List Int).map intCell).flatten),.none] (flS tab fn.ntmps (opsAt (focus [0,2,0,0,2,1,2,0,2,0,2,0,0,2,0,0,0,0,2,0,0,2,0,0,0,2,0,2,0,0,2,1,2,0,2,0,2,0,0,0,0,0,0,2,1,2,2,2,2,0,2,0] [.code (bodyOf fn)])) [0,1,3,6,7] ⟨[(5,(.pv (polyPV mul))),(6,(.row 93 0 site_93.length 1)),(8,(.pv (.int .i8 v))),(11,(eI (at_11:Int))),(36,(.pv (lpv i8Cell roots))),(37,(eI (roots.length:Int))),(38,(eI (t_38:Int)))],[(93,(.pure ((site_93:List Int).map intCell).flatten))]⟩):=by kernel_rfl
theorem l24(mul:List ARat)(site_93:List Int)(v:Int)(at_11:Nat)(roots:List Int)(t_38:Nat){r:PV}(h1:site_93.length≤at_11)(h2:at_11=site_93.length)(h3:at_11≤site_93.length)(h4:InI64 v)(h5:(([v]:List Int).take 1++([]:List Int)).length*8≤140737488355328)(h6:at_11≤(site_93:List Int).length)(h7:0+(([v]:List Int).take 1++([]:List Int)).length≤((([v]:List Int).take 1++([]:List Int)):List Int).length)(h8:((site_93:List Int).take at_11++(((([v]:List Int).take 1++([]:List Int)):List Int).drop 0).take ((([v]:List Int).take 1++([]:List Int)).length)).length*8≤140737488355328)(h9:(t_38+1)<9223372036854775808)(hL:Loop1 mul ((site_93:List Int).take at_11++(((([v]:List Int).take 1++([]:List Int)):List Int).drop 0).take ((([v]:List Int).take 1++([]:List Int)).length)) roots (t_38+1) r):Loop2 mul site_93 v at_11 roots t_38 r :=
 L.go mixed tabOk (n:=225) (ns:=[1,1,1,1,1,1,1,1,1,1,1,1,1,1,1,1,5,1,4,6,6,1,1]) (tr:=[.auto,.reg [.none,.none,.none,.none,.none,.skip,.skip,.skip,.skip,.skip,.skip,.skip,(.dec false)],.auto,.reg [.none,.none,.none,.none,.none,.skip,.skip,.skip,.skip,.skip,.skip,.skip,(.dec true)],.auto,.keep [5,6,8,11,36,37,38],.any [0,1,3,6,7] [.none,.none,(.slc 0 at_11 []),.none,(iI v),.none,.none,.none,(.slc at_11 site_93.length [[]]),(.row (([v]:List Int).take 1++([]:List Int)).length (((([v]:List Int).take 1++([]:List Int)):List Int).map intCell).flatten),(.row ((site_93:List Int).take at_11++(((([v]:List Int).take 1++([]:List Int)):List Int).drop 0).take ((([v]:List Int).take 1++([]:List Int)).length)).length ((((site_93:List Int).take at_11++(((([v]:List Int).take 1++([]:List Int)):List Int).drop 0).take ((([v]:List Int).take 1++([]:List Int)).length)):List Int).map intCell).flatten),.none],.reg [(iI (((t_38+1):Nat):Int))],.keep [5,6,36,37,38],.drop [92]]) (cj (dltN_f h1) (cj (dltN_f h1) (cj (dltN_f h1) (cj (dltN_f h1) (cj (dltN_f h1) (cj (dltN_f h1) (cj (dltN_f h1) (cj (dltN_f h1) (cj (deqN_t h2) (cj (deqN_t h2) (cj (deqN_t h2) (cj (deqN_t h2) (cj (deqN_t h2) (cj (deqN_t h2) (cj (deqN_t h2) (cj (deqN_t h2) (cj (o_sr (Eq.refl (0:Int)) (Eq.refl (((at_11:Nat):Int):Int)) (Or.inl (Eq.refl 0)) (Nat.zero_le at_11) h3) (cj (cv_i64 h4) (cj (cj (Eq.refl (((at_11:Nat):Int):Int)) (cj (Eq.refl (((site_93.length:Nat):Int):Int)) (cj h2 (Nat.le_refl site_93.length)))) (cj (o_appQ sz_int ([v]:List Int) ([]:List Int) 8 (Nat.le_refl _) h5 rfl) (cj (o_appP sz_int (site_93:List Int) ((([v]:List Int).take 1++([]:List Int)):List Int) 8 h6 (show 0=0*1 by omega) h7 h8 rfl) (cj (l24_any0 mul site_93 v at_11 roots t_38) (cj (bs_addN h9) True.intro))))))))))))))))))))))) (by kernel_rfl) hL
theorem l30(p_5:List ARat)(iso:List ARange)(site_93:List Int)(t_124 t_125:Nat)(v:Int)(v1:ARange)(of:ARat)(con:Bool)(of1 of2:ARat)(cou:Int){r:PV}(h1:t_125<t_124)(h2:t_125<site_93.length)(h3:site_93[t_125]? = some v)(h4:iso[t_125]? = some v1)(h5:Contract prg 43 [(vI v)] of.pv)(h6:Contract prg 42 [v1.pv,of.pv] (vB con))(h7:con=true)(h8:InI64 (v-1))(h9:Contract prg 43 [(vI (v-1))] of1.pv)(h10:Contract prg 43 [(vI v)] of2.pv)(h11:Contract prg 13 [(polyPV p_5),of1.pv,of2.pv] (.tup [(vI cou),.nilI]))(h12:cou=1)(h13:(t_125+1)<9223372036854775808)(hL:Loop3 p_5 iso site_93 t_124 (t_125+1) r):Loop3 p_5 iso site_93 t_124 t_125 r :=
 L.go mixed tabOk (n:=246) (ns:=[1,2,1,3,1,1,1,1,1,1,1,1,1,1,1]) (tr:=[.auto,.reg [],.dec true,.reg [.none,(.nat t_125),(.ev (.pv (vI v)))],dr 8 0 [.none,.none,(.row t_125 (ARange.cells v1)),.none,.none,(.pv of.pv),(.pv (vB con))],.dec false,.reg [.none,.none,(iI (v-1)),(.pv of1.pv),.none,(.pv of2.pv),(.pv (.tup [(vI cou),.nilI]))],.reg [],.dec false,.reg [(iI (((t_125+1):Nat):Int))],.keep [5,14,123,124,125]]) (cj (dltN_t h1) (cj (cj (Eq.refl (((t_125:Nat):Int):Int)) h2) (cj (o_get (enc:=intCell) (f:=fun a=>(vI a)) (fun _=>rfl) h3) (cj (o_at ARange.cells (Eq.refl (((t_125:Nat):Int):Int)) h4) (cj h5 (cj h6 (cj (bnot_f h7) (cj (bs_sub h8) (cj h9 (cj h10 (cj h11 (cj (Eq.refl false) (cj (Eq.refl false) (cj (dne_f h12) (cj (bs_addN h13) True.intro))))))))))))))) (by kernel_rfl) hL
theorem l31(p_5:List ARat)(iso:List ARange)(site_93:List Int)(t_124 t_125:Nat)(h1:t_124≤t_125):Loop3 p_5 iso site_93 t_124 t_125 (vB true) :=
 L.done mixed tabOk (n:=210) (ns:=[1]) (tr:=[.auto,.reg [],.dec false,.reg []]) (cj (dltN_f h1) True.intro) (by kernel_rfl)
end linkworklaw06_SturmRoots
end Go.Proofs.YtjadajceekjeoaaGreatDoor.Sym.Path
namespace Go.Proofs.YtjadajceekjeoaaGreatDoor.Sym
open Go Path CInt
set_option linter.unusedVariables false
def linL(a:Rat)(p:List Rat):List Rat:=addL (smulL (-a) p) (0::p)
theorem linL_eval(a:Rat)(p:List Rat)(x:Rat):evalL (linL a p) x=evalL p x*(x-a):=by
 have e:evalL (0::p) x=evalL p x*x+0:=rfl
 unfold linL
 rw[evalL_addL,evalL_smulL,e];grind
theorem linL_mul(a:Rat)(p:List Rat):trimL (mulL p [-a,1])=trimL (linL a p):=eval_ext (fun x=>by
 rw[evalL_mulL,linL_eval]
 have e:evalL [-a,1] x=(0*x+1)*x + -a:=rfl
 rw[e];grind)
theorem linL_len(a:Rat)(p:List Rat):(linL a p).length=p.length+1:=by
 unfold linL
 rw[len_addL,len_smulL,List.length_cons];omega
theorem lastZ_of_ne{c:Rat}(h:c≠0):lastZ [c]=false:=decide_eq_false h
theorem lastZ_of_ne2{a c:Rat}(h:c≠0):lastZ [a,c]=false:=decide_eq_false h
def IntL(p:List Rat):Prop:=∀c∈p,∃n:Int,c=((n:Int):Rat)
theorem IntL.add:∀{p q:List Rat},IntL p→IntL q→IntL (addL p q)
 |[],q,_,h=>by rw[addL];exact h
 |a::p,[],h,_=>by rw[addL];exact h
 |a::p,b::q,h,k=>by
  rw[addL]
  intro c hc
  rcases List.mem_cons.1 hc with rfl|hc
  ·obtain⟨m,hm⟩:=h a (List.mem_cons_self ..)
   obtain⟨n,hn⟩:=k b (List.mem_cons_self ..)
   exact⟨m+n,by rw[hm,hn,Rat.intCast_add]⟩
  ·exact IntL.add (fun x hx=>h x (List.mem_cons_of_mem _ hx)) (fun x hx=>k x (List.mem_cons_of_mem _ hx)) c hc
theorem IntL.smul(m:Int):∀{p:List Rat},IntL p→IntL (smulL ((m:Int):Rat) p)
 |[],_=>fun c hc=>by cases hc
 |a::p,h=>by
  intro c hc
  rcases List.mem_cons.1 hc with e|hc
  ·obtain⟨n,hn⟩:=h a (List.mem_cons_self ..)
   exact⟨m*n,by rw[e,hn,Rat.intCast_mul]⟩
  ·exact IntL.smul m (fun x hx=>h x (List.mem_cons_of_mem _ hx)) c hc
theorem nrm_trim{R:Rat}(hR:0≤R):∀p:List Rat,nrm (trimL p) R≤nrm p R
 |[]=>Rat.le_refl
 |a::r=>by
  rcases trimL_cases a r with ⟨_,_,e⟩|e
  ·rw[e];exact nrm_nonneg hR _
  ·rw[e,nrm,nrm]
   have:=Rat.mul_le_mul_of_nonneg_right (nrm_trim hR r) hR
   grind
theorem le_nrm:∀(p:List Rat) (c:Rat),c∈p→ab c≤nrm p 1
 |[],c,h=>by cases h
 |a::r,c,h=>by
  have h1:=ab_nonneg a
  have h2:=nrm_nonneg (R:=1) (by decide) r
  rw[nrm]
  rcases List.mem_cons.1 h with e|h
  ·rw[e];grind
  ·have:=le_nrm r c h;grind
structure Prod (k:Nat) (p:List Rat) (S:List Int):Prop where
 spl:Spl p (S.map (fun n=>((n:Int):Rat)))
 rng:∀s∈S, -128≤s∧s≤127
 rise:S.Pairwise (·<·)
 len:p.length≤k+1
 card:S.length≤k
 int:IntL p
 bound:nrm p 1≤(((128*129^k:Nat):Int):Rat)
theorem intm{S:List Int}{v:Int} : ((v:Int):Rat)∈S.map (fun n=>((n:Int):Rat))↔v∈S:=by
 rw[List.mem_map]
 constructor
 ·rintro ⟨x,hx,e⟩;rw[←Rat.intCast_inj.1 e];exact hx
 ·exact fun h=>⟨v,h,rfl⟩
theorem rise_map{S:List Int}(h:S.Pairwise (·<·)):(S.map (fun n=>((n:Int):Rat))).Pairwise (·<·):=List.pairwise_map.2 (h.imp (fun hlt=>Rat.intCast_lt_intCast.2 hlt))
theorem Prod.zero{c:Int}(hc : -128≤c∧c≤127)(h0:c≠0):Prod 0 [((c:Int):Rat)] []:=by
 have hne:((c:Int):Rat)≠0:=cast_ne h0
 refine⟨⟨?_,(by simp),List.nodup_nil,fun x => ?_,fun u v _ _=>⟨ab ((c:Int):Rat),ab_pos hne,fun x _ _=>(by rw[eval_c];exact Rat.le_refl)⟩⟩,fun s hs=>(by cases hs),List.Pairwise.nil,(by simp),(by simp),fun x hx=>⟨c,(by simpa using hx)⟩,?_⟩
 ·show lastZ [((c:Int):Rat)]=false
  exact lastZ_of_ne hne
 ·rw[eval_c]
  exact⟨fun h=>absurd h hne,fun h=>by cases h⟩
 ·have e:nrm [((c:Int):Rat)] 1=ab ((c:Int):Rat):=by show 0*1+_=_;grind
  rw[e,ab_int]
  exact Rat.intCast_le_intCast.2 (by have:129^0=1:=rfl;omega)
theorem Prod.next{k:Nat}{p:List Rat}{S S':List Int}(P:Prod k p S){v:Int}(hv : -128≤v∧v≤127)(hS:S'.Pairwise (·<·))(hm:∀x,x∈S'↔x∈S∨x=v)(hl:S'.length≤S.length+1):Prod (k+1) (trimL (linL ((v:Int):Rat) p)) S':=by
 have hev:∀x,evalL (trimL (linL ((v:Int):Rat) p)) x=evalL p x*(x-((v:Int):Rat)):=fun x=>by rw[evalL_trimL,linL_eval]
 have hroot:∀x,evalL (trimL (linL ((v:Int):Rat) p)) x=0↔x∈S'.map (fun n=>((n:Int):Rat)):=by
  intro x
  rw[hev,Rat.mul_eq_zero,P.spl.root,List.mem_map,List.mem_map]
  constructor
  ·rintro (⟨y,hy,rfl⟩|h)
   ·exact⟨y,(hm y).2 (Or.inl hy),rfl⟩
   ·exact⟨v,(hm v).2 (Or.inr rfl),by grind⟩
  ·rintro ⟨y,hy,rfl⟩
   rcases(hm y).1 hy with h|h
   ·exact Or.inl ⟨y,h,rfl⟩
   ·right;rw[h];grind
 refine⟨⟨lastZ_trimL _,fun e => ?_,pw_nodup (rise_map hS),hroot,fun a b hab h => ?_⟩,fun s hs => ?_,hS,?_,by have:=P.card;omega,fun c hc => ?_,?_⟩
 ·have h1:=(hroot ((1000:Int):Rat)).1 (by rw[e];rfl)
  rw[intm] at h1
  rcases(hm 1000).1 h1 with h|h
  ·have:=P.rng _ h;omega
  ·omega
 ·have hsub:∀c∈S.map (fun n=>((n:Int):Rat)),c<a∨b<c:=by
   intro c hc
   obtain⟨y,hy,rfl⟩:=List.mem_map.1 hc
   exact h _ (intm.2 ((hm y).2 (Or.inl hy)))
  obtain⟨c,c1,c2⟩:=P.spl.away a b hab hsub
  have hd:∃d:Rat,0<d∧∀x,a≤x→x≤b→d≤ab (x-((v:Int):Rat)):=by
   rcases h _ (intm.2 ((hm v).2 (Or.inr rfl))) with q|q
   ·refine⟨a-((v:Int):Rat),by grind,fun x h1 h2 => ?_⟩
    have:=le_ab (x-((v:Int):Rat));grind
   ·refine⟨((v:Int):Rat)-b,by grind,fun x h1 h2 => ?_⟩
    have:=neg_le_ab (x-((v:Int):Rat));grind
  obtain⟨d,d1,d2⟩:=hd
  refine⟨c*d,Rat.mul_pos c1 d1,fun x h1 h2 => ?_⟩
  rw[hev,ab_mul]
  exact mul_le_mul' (c2 x h1 h2) (d2 x h1 h2) (Rat.le_of_lt c1) (ab_nonneg _)
 ·rcases(hm s).1 hs with h|h
  ·exact P.rng s h
  ·omega
 ·have:=len_trimL (linL ((v:Int):Rat) p)
  rw[linL_len] at this
  have:=P.len
  omega
 ·have hc:=mem_trimL hc
  unfold linL at hc
  refine IntL.add ?_ ?_ c hc
  ·have:=IntL.smul (-v) P.int
   rwa[Rat.intCast_neg] at this
  ·intro x hx
   rcases List.mem_cons.1 hx with e|hx
   ·exact⟨0,e⟩
   ·exact P.int x hx
 ·have h1:=nrm_trim (R:=1) (by decide) (linL ((v:Int):Rat) p)
  have h2:=nrm_add (R:=1) (by decide) (smulL (-((v:Int):Rat)) p) (0::p)
  rw[nrm_smul] at h2
  have h3:nrm (0::p) 1=nrm p 1*1+ab 0:=rfl
  rw[h3,ab_zero] at h2
  have h4:ab (-((v:Int):Rat))≤(((128:Int)):Rat):=by
   rw[←Rat.intCast_neg,ab_int]
   exact Rat.intCast_le_intCast.2 (by omega)
  have h5:=Rat.mul_le_mul_of_nonneg_right h4 (nrm_nonneg (R:=1) (by decide) p)
  have h6:=P.bound
  have e:(((128*129^(k+1):Nat):Int):Rat)=129*(((128*129^k:Nat):Int):Rat):=by
   rw[show (129:Rat)=(((129:Int)):Rat) from rfl,←Rat.intCast_mul]
   congr 1
   rw[Nat.pow_succ]
   generalize 129^k=z
   omega
  have e128:(((128:Int)):Rat)=128:=rfl
  rw[e128] at h5
  rw[e]
  show nrm (trimL (linL ((v:Int):Rat) p)) 1≤_
  unfold linL at h1 ⊢
  generalize (((128*129^k:Nat):Int):Rat)=B at *
  grind
theorem Prod.small{k:Nat}{p:List Rat}{S:List Int}(P:Prod k p S)(hk:k≤6):∀c∈p,∃n:Int,c=((n:Int):Rat)∧n.natAbs≤128*129^6:=by
 intro c hc
 obtain⟨n,hn⟩:=P.int c hc
 refine⟨n,hn,?_⟩
 have h1:=Rat.le_trans (le_nrm p c hc) P.bound
 rw[hn,ab_int] at h1
 have h2:(n.natAbs:Int)≤((128*129^k:Nat):Int):=Rat.intCast_le_intCast.1 h1
 have h3:129^k≤129^6:=Nat.pow_le_pow_right (by omega) hk
 generalize 129^k=z at h2 h3
 generalize 129^6=y at h3 ⊢
 omega
theorem small_wl{n:Int}(h:n.natAbs≤128*129^6):wl n≤2:=wl_le (by
 have e:128*129^6<4294967296^2:=by decide
 omega)
theorem Prod.fl{k:Nat}{p:List Rat}{S:List Int}(P:Prod k p S)(hk:k≤6):Fl 2 p:=by
 intro c hc
 obtain⟨n,rfl,hn⟩:=P.small hk c hc
 have:=small_wl hn
 rw[ht_int];omega
theorem Prod.fine{k:Nat}{p:List Rat}{S:List Int}(P:Prod k p S)(hk:k≤6):Fine 13 7 p:=by
 refine⟨P.spl.zp,P.spl.ne,by have:=P.len;omega,⟨1,by decide,by decide,fun i => ?_⟩,by omega,by omega,by decide +kernel⟩
 by_cases hi:i<p.length
 ·obtain⟨n,hn,hb⟩:=P.small hk _ (List.mem_of_getElem? (coef_get hi))
  exact⟨n,by rw[hn];show _*1=_;grind,by have:=small_wl hb;omega⟩
 ·exact⟨0,by rw[coef_ge (by omega)];show(0:Rat)*1=0;decide +kernel,by decide⟩
theorem Prod.bd{k:Nat}{p:List Rat}{S:List Int}(P:Prod k p S)(hk:k≤6):Bd p:=by
 refine⟨fl_mono (P.fl hk) (by omega),fun c hc => ?_⟩
 have hpos:=List.length_pos_iff.2 P.spl.ne
 have htn:=top_ne P.spl.zp P.spl.ne
 obtain⟨t,ht',_⟩:=P.small hk (topL p) (by unfold topL;exact List.mem_of_getElem? (coef_get (by omega)))
 obtain⟨n,hn,hb⟩:=P.small hk c hc
 have h1:(1:Rat)≤ab (topL p):=by
  rw[ht'] at htn ⊢
  rw[ab_int]
  have:t≠0:=fun e=>htn (by rw[e];rfl)
  exact Rat.intCast_le_intCast.2 (show (1:Int)≤_ by omega)
 have h2:ab (c/topL p)*ab (topL p)=ab c:=by rw[←ab_mul,Rat.div_mul_cancel htn]
 have h3:=Rat.mul_le_mul_of_nonneg_left h1 (ab_nonneg (c/topL p))
 have h4:ab c≤twP 64:=by
  rw[hn,ab_int]
  unfold twP
  refine Rat.intCast_le_intCast.2 ?_
  have e:128*129^6≤2^64:=by decide
  generalize 2^64=z at e ⊢
  omega
 have h5:=twP_ge 64
 have h6:twP 65=twP 64+twP 64:=twP_succ 64
 grind
namespace C06
theorem mulC{p f:List Rat}(zp:lastZ p=false)(zf:lastZ f=false)(lp:p.length≤20)(lf:f.length≤20)(hp:Fl 2 p)(hf:Fl 2 f):Contract prg 41 [pq p,pq f] (.tup [pq (trimL (mulL p f)),.nilI]):=by
 have hck:=CPl.checks2 (p.map mkR) (f.map mkR) (fitQ hp (by omega)) (fitQ hf (by omega))
 rw[chk2_zero (chk_map zp (by omega)) (chk_map zf (by omega))] at hck
 have tm:=CPl.times 20 p f (by omega) (by omega) hp hf (by omega) (by omega) (Or.inl lp) (by decide)
 by_cases h1:0<p.length
 ·by_cases h2:0<f.length
  ·exact poly_Mul.e1 _ _ _ hck (by rw[lenM];exact h1) (by rw[lenM];exact h2) (by rw[lenM,lenM];omega) (by rw[lenM,lenM];unfold InI64;omega) (by rw[lenM,lenM];omega) tm
  ·exact poly_Mul.e2 _ _ _ hck (by rw[lenM];exact h1) (by rw[lenM];omega) tm
 ·exact poly_Mul.e3 _ _ _ hck (by rw[lenM];omega) tm
theorem roots_in(q:List Rat)(S:List Int)(v:Int)(roots:List Int)(t:Nat)(r:PV)(hv : -128≤v∧v≤127)(hS:S.Pairwise (·<·))(hl:S.length≤100)(ht:t≤100)
  (hN:∀S':List Int,S'.Pairwise (·<·)→(∀x,x∈S'↔x∈S∨x=v)→S'.length≤S.length+1→linkworklaw06_SturmRoots.Loop1 (q.map mkR) S' roots (t+1) r) :
  ∀d at':Nat,S.length-at'=d→at'≤S.length→(∀x∈S.take at',x<v)→linkworklaw06_SturmRoots.Loop2 (q.map mkR) S v at' roots t r:=by
 have hI:InI64 v:=by unfold InI64;omega
 intro d
 induction d with
 |zero =>
  intro at' hd hle hlt
  have e:at'=S.length:=by omega
  subst e
  rw[List.take_length] at hlt
  refine linkworklaw06_SturmRoots.l24 _ S v _ roots t (Nat.le_refl _) rfl (Nat.le_refl _) hI (by simp) (Nat.le_refl _) (by simp) (by simp;omega) (by omega) ?_
  have e:(S:List Int).take S.length++(((([v]:List Int).take 1++([]:List Int)):List Int).drop 0).take ((([v]:List Int).take 1++([]:List Int)).length)=S++[v]:=by simp
  rw[e]
  refine hN _ (List.pairwise_append.2 ⟨hS,List.pairwise_singleton ..,fun a ha b hb=>by rw[List.mem_singleton] at hb;rw[hb];exact hlt a ha⟩) (fun x=>by simp) (by simp)
 |succ d ih =>
  intro at' hd hle hlt
  obtain⟨w,hw⟩:∃w,S[at']? = some w:=⟨_,List.getElem?_eq_getElem (by omega)⟩
  have hlen:at'<S.length:=by omega
  by_cases h1:w<v
  ·refine linkworklaw06_SturmRoots.l20 _ S v at' roots t w hlen hw hI h1 (by omega) (ih (at'+1) (by omega) (by omega) (fun x hx => ?_))
   rw[List.take_add_one,hw] at hx
   rcases List.mem_append.1 hx with hx|hx
   ·exact hlt x hx
   ·have:x=w:=by simpa using hx
    rw[this];exact h1
  ·by_cases h2:w=v
   ·refine linkworklaw06_SturmRoots.l23 _ S v at' roots t w hlen hw hI (by omega) (by omega) h2 (by omega) (hN S hS (fun x=>⟨Or.inl,fun h => ?_⟩) (by omega))
    rcases h with h|h
    ·exact h
    ·rw[h,←h2];exact List.mem_of_getElem? hw
   ·refine linkworklaw06_SturmRoots.l22 _ S v at' roots t w hlen hw hI (by omega) (by omega) h2 hle (by omega) (by simp;omega) hle (by simp) (by simp;omega) (by omega) ?_
    have e:(S:List Int).take at'++(((([v]:List Int).take 1++((S:List Int).drop at').take (S.length-at')):List Int).drop 0).take ((([v]:List Int).take 1++((S:List Int).drop at').take (S.length-at')).length)=S.take at'++v::S.drop at':=by
     have e1:((S:List Int).drop at').take (S.length-at')=S.drop at':=List.take_of_length_le (by rw[List.length_drop];exact Nat.le_refl _)
     rw[e1,List.drop_zero,List.take_of_length_le (Nat.le_refl _)];rfl
    rw[e]
    have hsplit:=List.take_append_drop at' S
    have hpw:(S.take at'++S.drop at').Pairwise (·<·):=by rw[hsplit];exact hS
    obtain⟨p1,p2,p3⟩:=List.pairwise_append.1 hpw
    have hd1:S.drop at'=w::S.drop (at'+1):=drop_cons hw
    have hge:∀x∈S.drop at',v<x:=by
     intro x hx
     rw[hd1] at hx p2
     rcases List.mem_cons.1 hx with rfl|hx
     ·omega
     ·have:=(List.pairwise_cons.1 p2).1 x hx;omega
    refine hN _ (List.pairwise_append.2 ⟨p1,List.pairwise_cons.2 ⟨hge,p2⟩,fun a ha b hb => ?_⟩) (fun x => ?_) ?_
    ·rcases List.mem_cons.1 hb with rfl|hb
     ·exact hlt a ha
     ·exact p3 a ha b hb
    ·have hx:x∈S↔x∈S.take at'∨x∈S.drop at':=by rw[←List.mem_append,hsplit]
     rw[List.mem_append,List.mem_cons,hx]
     constructor
     ·rintro (h|h|h)
      ·exact Or.inl (Or.inl h)
      ·exact Or.inr h
      ·exact Or.inl (Or.inr h)
     ·rintro ((h|h)|h)
      ·exact Or.inl h
      ·exact Or.inr (Or.inr h)
      ·exact Or.inr (Or.inl h)
    ·rw[List.length_append,List.length_cons,List.length_take,List.length_drop];omega
theorem roots_end{k:Nat}{p:List Rat}{S:List Int}(P:Prod k p S)(hk:k≤6)(roots:List Int)(t:Nat)(hte:roots.length≤t):linkworklaw06_SturmRoots.Loop1 (p.map mkR) S roots t (vB true):=by
 have F:=P.fine hk
 have B:=P.bd hk
 have a1:=CSt.All F B
 have a2:=CSt.Isolate F B okF
 have hl:=CSt.iso_len F B okF
 have hb0:=bnd_pos p
 have hw:0≤bndP p+bndP p:=by grind
 have hsome:=iso_some F B okF
 have hall:=P.spl.all (bnd_cau F.zp F.ne B) (Rat.le_of_lt hb0)
 rw[List.length_map] at hall
 have hcard:=P.card
 obtain⟨A,l1,l2,l3,l4⟩:=P.spl.search hw _ 0 0 _ hsome
 have hA:A=S.map (fun n=>((n:Int):Rat)):=rise_eq A _ l4 (rise_map P.rise) (by rw[List.length_map];omega) (fun x hx=>(l3 x hx).1)
 have hhts:=iso_hts F B okF
 have hin:=(srch_in hw _ 0 0 _ hsome).1
 refine linkworklaw06_SturmRoots.l11 _ S roots t _ (mkGs (isoL 13 7 p)) hte a1 a2 (by omega) (by rw[mkGs_len];omega) ?_
 have loop:∀d u:Nat,S.length-u=d→linkworklaw06_SturmRoots.Loop3 (p.map mkR) (mkGs (isoL 13 7 p)) S S.length u (vB true):=by
  intro d
  induction d with
  |zero=>intro u hd;exact linkworklaw06_SturmRoots.l31 _ _ S _ u (by omega)
  |succ d ih =>
   intro u hd
   obtain⟨v,hv⟩:∃v,S[u]? = some v:=⟨_,List.getElem?_eq_getElem (by omega)⟩
   obtain⟨r,hr⟩:∃r,(isoL 13 7 p)[u]? = some r:=⟨_,List.getElem?_eq_getElem (by omega)⟩
   have hm:(mkGs (isoL 13 7 p))[u]? = some (mkG r.1 r.2):=by unfold mkGs;rw[List.getElem?_map,hr];rfl
   have hrng:=P.rng v (List.mem_of_getElem? hv)
   have hAv:A[u]? = some ((v:Int):Rat):=by rw[hA,List.getElem?_map,hv];rfl
   obtain⟨q1,q2⟩:=l2 u r _ hr hAv
   obtain⟨t1,t2⟩:=hhts r (List.mem_of_getElem? hr)
   have hI:InI64 v:=by unfold InI64;omega
   have hI1:InI64 (v-1):=by unfold InI64;omega
   have wv:wl v≤1:=wl_le (by omega)
   have wv1:wl (v-1)≤1:=wl_le (by omega)
   have htv:ht ((v:Int):Rat)≤1:=by rw[ht_int];omega
   have htv1:ht (((v-1:Int)):Rat)≤1:=by rw[ht_int];omega
   have hlt:(((v-1:Int)):Rat)<((v:Int):Rat):=Rat.intCast_lt_intCast.2 (by omega)
   have c1:=CSt.Contains r.1 r.2 ((v:Int):Rat) t1 t2 (by omega) q1 q2
   have c2:=CSt.Count F (((v-1:Int)):Rat) ((v:Int):Rat) (Rat.le_of_lt hlt) (by omega) (by omega)
   have hc:=P.spl.count (Rat.le_of_lt hlt)
   have h1:=cntL_one hlt Rat.le_refl (S.map (fun n=>((n:Int):Rat))) P.spl.nd (intm.2 (List.mem_of_getElem? hv)) (fun b hb b1 b2=>by
    obtain⟨y,hy,rfl⟩:=List.mem_map.1 hb
    have y1:v-1<y:=Rat.intCast_lt_intCast.1 b1
    have y2:y≤v:=Rat.intCast_le_intCast.1 b2
    rw[show y=v from by omega])
   exact linkworklaw06_SturmRoots.l30 _ _ S _ u v _ _ _ _ _ _ (by omega) (by omega) hv hm (CFr.Of v hI) c1 rfl hI1 (CFr.Of (v-1) hI1) (CFr.Of v hI) c2 (by omega) (by omega) (ih (u+1) (by omega))
 exact loop _ 0 rfl
theorem SturmRoots(roots:List Int)(lead:Int)(hr:∀v∈roots, -128≤v∧v≤127)(hlead : -128≤lead∧lead≤127):Contract prg 9 [lpv i8Cell roots,.int .i8 lead] (vB true):=by
 by_cases h6:roots.length≤6
 ·by_cases h0:lead=0
  ·exact linkworklaw06_SturmRoots.e1 roots lead _ h6 h0 awake
  ·have hI:InI64 lead:=by unfold InI64;omega
   have a1:=of [lead] (fun n hn=>by rw[List.mem_singleton] at hn;rw[hn];exact hI) (by simp)
   refine linkworklaw06_SturmRoots.e3 roots lead _ _ h6 h0 awake rfl hI a1 ?_
   have loop:∀d t:Nat,roots.length-t=d→∀(p:List Rat) (S:List Int),Prod t p S→t≤roots.length→linkworklaw06_SturmRoots.Loop1 (p.map mkR) S roots t (vB true):=by
    intro d
    induction d with
    |zero=>intro t hd p S P hle;exact roots_end P (by omega) roots t (by omega)
    |succ d ih =>
     intro t hd p S P hle
     obtain⟨v,hv⟩:∃v,roots[t]? = some v:=⟨_,List.getElem?_eq_getElem (by omega)⟩
     have hrng:=hr v (List.mem_of_getElem? hv)
     have hI:InI64 v:=by unfold InI64;omega
     have hI1:InI64 (-v):=by unfold InI64;omega
     have o1:=of [-v,1] (fun n hn=>by
      rcases List.mem_cons.1 hn with e|hn
      ·rw[e];exact hI1
      ·rw[List.mem_singleton] at hn;rw[hn];unfold InI64;omega) (by simp)
     have hlenp:=P.len
     have hfl:Fl 2 [((-v:Int):Rat),((1:Int):Rat)]:=by
      intro c hc
      rcases List.mem_cons.1 hc with e|hc
      ·have:wl (-v)≤1:=wl_le (by omega)
       rw[e,ht_int];omega
      ·rw[List.mem_singleton] at hc;rw[hc];decide
     have hm:=mulC (p:=p) (f:=[((-v:Int):Rat),((1:Int):Rat)]) P.spl.zp (lastZ_of_ne2 (by decide)) (by omega) (by simp) (P.fl (by omega)) hfl
     have el:trimL (mulL p [((-v:Int):Rat),((1:Int):Rat)])=trimL (linL ((v:Int):Rat) p):=by
      rw[Rat.intCast_neg];exact linL_mul _ _
     rw[el] at hm
     have hcard:=P.card
     exact linkworklaw06_SturmRoots.l10 _ S roots t v _ _ (by omega) hv hI hI1 o1 hm (roots_in _ S v roots t _ hrng P.rise (by omega) (by omega) (fun S' h1 h2 h3=>ih (t+1) (by omega) _ S' (P.next hrng h1 h2 h3) (by omega)) _ 0 rfl (by omega) (fun x hx=>by simp at hx))
   exact loop _ 0 rfl _ [] (Prod.zero hlead h0) (by omega)
 ·exact linkworklaw06_SturmRoots.e0 roots lead _ (by omega) awake
end C06
end Go.Proofs.YtjadajceekjeoaaGreatDoor.Sym
namespace Go.Proofs.YtjadajceekjeoaaGreatDoor.Sym
open Go Go.RowKit Go.ChangeShapes Go.WideShapes Go.ChangeAt
set_option linter.unusedVariables false
namespace RowSturmRoots
theorem own:ownKnob Tryz.prog.godebug=none:=by kernel_rfl
theorem laid:laidOutB prg=true:=by kernel_rfl
theorem okArg{P:Program}{W:World}{base:Nat}{ps:Array TypeId}{args:Array Value}(hval:∀(j:Nat) t v,ps[j]? = some t→args[j]? = some v→Value.okWide P W .any base t v)(j:Nat){t:TypeId}{v:Value}(h1:ps[j]? = some t)(h2:args[j]? = some v):Value.okWide P W .any base t v:=hval j t v h1 h2
set_option maxRecDepth 100000 in
theorem contract(H:Type)(enc:TypeId×Value→H)(W:World)(base:Nat)(args:Array Value)(ds gs:List (DataW H))(before:List MemPlace)
  (hval:∀(j:Nat) t v,Tryz.f9.params[j]? = some t→args[j]? = some v→Value.okWide Tryz.prog W .any base t v)
  (hW:DataW.Whole enc Tryz.prog Tryz.f9.params.toList Rows.sturmRootsSpec.vars false W args.toList ds gs before)
  (hz:(DataW.weightsEach Tryz.prog (Tryz.f9.params.toList++Rows.sturmRootsSpec.plain.varTypes Tryz.prog) (ds++gs)).all (·≤reachBytes)=true) :
  Calls Tryz.prog 9 args W fun e W'=>∃v,e = .returned v∧Rows.sturmRootsSpec.post enc Tryz.prog Tryz.f9 false true false false W args v W':=by
 have hW':=hW
 obtain⟨p,q,hA,hV,rfl,hfz,hnd⟩:=hW
 have hp:Tryz.f9.params = #[74,75]:=by kernel_rfl
 rw[hp] at hA hval hz
 obtain⟨v0,vs0,d0,ds0,p0,q0,hargs,rfl,rfl,h0,r0⟩:=trodAll_cons hA
 obtain⟨v1,vs1,d1,ds1,p1,q1,rfl,rfl,rfl,h1,r1⟩:=trodAll_cons r0
 obtain⟨rfl,rfl,rfl⟩:=trodAll_nil r1
 obtain rfl:args = #[v0,v1]:=by cases args;simp_all
 obtain⟨rfl,rfl⟩:=trodVars_none hV
 obtain⟨n0,hn0⟩:=h0
 have hw0:∀k∈d0.weights prg 74,k≤reachBytes:=by
  intro k hk
  have:=List.all_eq_true.1 hz k (DataW.weights_mem_each (j:=0) rfl rfl k hk)
  simpa using this
 obtain⟨x0,hx0,b0⟩:=opens_int8s enc W 0 (fun _=>true) true n0 _ _ hn0 hw0
 obtain⟨ra0,rl0,rc0,rfl⟩:=okWide_slice (show Tryz.prog.underlying 74=some (.slice 75) by kernel_rfl) (okArg hval 0 (t:=74) (v:=v0) (by simp) (by simp))
 have hrd0:Rd (Old W) W (lpv i8Cell x0) (.slice ra0 rl0 rc0):=(hx0.2 0 _ _ rfl rfl).2
 obtain⟨n1,hn1⟩:=h1
 have hw1:∀k∈d1.weights prg 75,k≤reachBytes:=by
  intro k hk
  have:=List.all_eq_true.1 hz k (DataW.weights_mem_each (j:=1) rfl rfl k hk)
  simpa using this
 obtain⟨x1,hx1,b1⟩:=(opens_int (k := .i8) (show prg.underlying 75=some (.int .i8) by kernel_rfl)) enc W 0 (fun _=>true) true n1 _ _ hn1 hw1
 obtain⟨m1,rfl,_,_,_⟩:=open_int (show Tryz.prog.underlying 75=some (.int .i8) by kernel_rfl) (okArg hval 1 (t:=75) (v:=v1) (by simp) (by simp)) (⟨n1,hn1⟩:DataW.Trod enc Tryz.prog W 0 (fun _=>true) true 75 v1 d1 p1)
 have hrd1:Rd (Old W) W (.int .i8 x1) (.int .i8 m1):=by
  have:=(hx1.2 0 _ _ rfl rfl).2
  exact this
 have hc:=C06.SturmRoots x0 x1 b0 (i8_val b1)
 refine(hc.2 (Old W) W (fun _=>none) #[.slice ra0 rl0 rc0,.int .i8 m1] (fun b hb=>hb) ⟨(fun r sc h=>by cases h),(fun r r' b h=>by obtain⟨_,h⟩:=h)⟩ rfl ?_).mono ?_
 ·intro j e v he hv
  cases j with
  |zero=>simp at he hv;subst he hv;exact hrd0
  |succ j =>
   cases j with
   |zero=>simp at he hv;subst he hv;exact hrd1
   |succ j=>simp at he
 ·intro e W' ⟨v,β',he,_,hk,_,hv,_⟩
  subst he
  have hv:Rd _ W' (vB true) v:=hv
  cases hv
  have hk':Keeps (fun _=>False) W W':=⟨hk.os,hk.tape,hk.output,hk.size,fun k h1 _=>hk.block k h1 (fun ⟨y,hy,_⟩=>by obtain⟨_,hy⟩:=hy),hk.shape,hk.drawn⟩
  refine⟨_,rfl,post_true (tb:=4) hW' hk' rfl (by kernel_rfl) (by kernel_rfl) rfl rfl rfl laid ?_⟩
  rw[hp]
  intro t ht
  have:t=74∨t=75:=by simpa using ht
  rcases this with rfl|rfl
  all_goals exact⟨by kernel_rfl,of_decide_eq_true (by kernel_rfl)⟩
def tabCells:DataW Unit→Array Value
 |.agg l=>(l.map fun d=>match d with
  |.lit (.int k n)=>Value.int k n
  |_=>Value.nilIface).toArray
 |_ => #[]
def setTab(b:Nat)(d:DataW Unit)(h:Array Obj):Array Obj:=h.modify b fun
 |.cells _ t fr => .cells (tabCells d) t fr
 |o=>o
noncomputable def laidWorld(os:Os):World :=
 { World.holding Tryz.prog os ⟨#[],#[],[]⟩ with heap:=setTab 0 Rows.laid_internal_strconv_uint64pow10 (setTab 2 Rows.laid_math_bits_deBruijn32tab (setTab 3 Rows.laid_math_bits_deBruijn64tab (World.holding Tryz.prog os ⟨#[],#[],[]⟩).heap)) }
theorem laid_met(os:Os):laidMet Tryz.prog Rows.sturmRootsRow.laid ((laidWorld os).forCall (fun _ _=>0) ⟨#[],#[.slice none 0 0,.int .i8 0],[]⟩).memory :=
 laidMet_of_run' 8 (by kernel_rfl) (by kernel_rfl)
theorem reads(os:Os){H:Type}(enc:TypeId×Value→H):(DataW.whole enc Tryz.prog ((laidWorld os).forCall (fun _ _=>0) ⟨#[],#[.slice none 0 0,.int .i8 0],[]⟩).memory Tryz.f9.params.toList Rows.sturmRootsSpec.vars false (#[.slice none 0 0,.int .i8 0]:Array Value).toList 8).isSome=true:=by kernel_rfl
set_option maxRecDepth 100000 in
theorem lifted(os:Os)(started:os.Started)(H:Type)(enc:TypeId×Value→H)(F:Stop.Interp) :
  ReturnsInHanded {} Tryz.checked os 9 .any ((OpenSpec.ofChange Rows.sturmRootsSpec).preRow enc Tryz.prog Tryz.f9 Rows.sturmRootsRow.domain false Rows.sturmRootsRow.laid) (((OpenSpec.ofChange Rows.sturmRootsSpec).at F).post enc Tryz.prog Tryz.f9 false true false false):=by
 obtain⟨x,hx⟩:=Option.isSome_iff_exists.1 (reads os enc)
 refine returnsInHanded_of_row (C:=Tryz.checked) (s:=OpenSpec.ofChange Rows.sturmRootsSpec) own started (by kernel_rfl) Tryz.func9
  (witness_row_at (enc:=enc) (C:=Tryz.checked) false (laidWorld os) #[.slice none 0 0,.int .i8 0] rfl (by kernel_rfl) (by kernel_rfl) (by kernel_rfl)
   (OpenSpec.preRow_of_cond 8 hx (by kernel_rfl) (fun k hk=>by cases hk) (by kernel_rfl) (laid_met os))) ?_
 intro W base args ds gs before hval hW _ _ hz hL _ _
 exact contract H enc W base args ds gs before hval hW hz
theorem j1:(Rows.sturmRootsRow.inPlace==Tryz.prog.inPlace 9)=true:=by kernel_rfl
theorem j2:(Rows.sturmRootsRow.unfollowed==Tryz.prog.unfollowed 9)=true:=by kernel_rfl
theorem j3:(Rows.sturmRootsRow.recurses==Tryz.prog.recurses 9)=true:=by kernel_rfl
theorem j4:(Rows.sturmRootsRow.named==Tryz.prog.varsNamed 9)=true:=by kernel_rfl
theorem closed:joinedFacts Tryz.prog 9 Tryz.f9 Rows.sturmRootsSpec Rows.sturmRootsRow=true:=by
 unfold joinedFacts
 rw[j1,j2,j3,j4]
 kernel_rfl
set_option maxRecDepth 100000 in
theorem said:Rows.SturmRootsSaid :=
 OpenClaim.holds_of_cond 9 Tryz.f9 rfl rfl rfl rfl rfl rfl rfl ⟨rfl,rfl,rfl,rfl,rfl⟩ rfl rfl rfl rfl rfl (by kernel_rfl) Tryz.func9 closed
  (of_decide_eq_true (by kernel_rfl)) (by unfold Func.isWrapper;first|(rw [if_pos (by decide +kernel)];kernel_rfl)|(rw [if_neg (by decide +kernel)];exact⟨rfl,rfl⟩))
  (fun os started H enc _ F=>by rw[OpenClaim.pre_eq_preRow];exact lifted os started H enc F)
theorem plainL(f:FuncId)(fn:Func)(hf:Tryz.pinned.checked.prog.funcNamed Rows.sturmRootsRow.func=some f)(hfn:Tryz.pinned.checked.prog.funcs[f]? = some fn) :
  true=Tryz.pinned.checked.prog.looks []∧∀(j:Nat) t,fn.params[j]? = some t→Tryz.pinned.checked.prog.wantsStandIn t=false:=by
 obtain rfl:f=9:=Option.some.inj ((show Tryz.prog.funcNamed Rows.sturmRootsRow.func=some 9 by kernel_rfl).symm.trans hf) |>.symm
 obtain rfl:fn=Tryz.f9:=(Option.some.inj (Tryz.func9.symm.trans hfn)).symm
 refine⟨by kernel_rfl,fun j t ht => ?_⟩
 have hp:Tryz.f9.params = #[74,75]:=by kernel_rfl
 rw[hp] at ht
 have:t=74∨t=75:=by simpa using Array.mem_of_getElem? ht
 rcases this with rfl|rfl
 all_goals exact(show Tryz.prog.wantsStandIn _=false by kernel_rfl)
theorem proved:Rows.SturmRootsCardSaid :=
 Claim7.holds_tied_plain_at .later [] _ _ _ _ said (fun _ h=>by cases h) (by kernel_rfl) (fun _ h=>by cases h) sturmRoots_row_tie rfl ⟨rfl,rfl⟩ (by kernel_rfl) rfl plainL (by kernel_rfl)
end RowSturmRoots
end Go.Proofs.YtjadajceekjeoaaGreatDoor.Sym
