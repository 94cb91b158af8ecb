/- Lemmas for the statements of this seat. -/
import Derived.Test.YtfjfekodeplcoaaGreatG4
import Derived.Test.YtfjfekodeplcoaaGreatG3
import Derived.Test.YtfjfekodeplcoaaGreatP5
import Derived.Test.YtfjfekodeplcoaaGreatP6
namespace Go.Proofs.YtfjfekodeplcoaaGreat.Sym
open Go Path fi Go.RowKit
set_option linter.unusedVariables false
theorem FD{l:aj}{k:Nat}{b:ab}(h:l.aa[k]? = some b)(hn:(l.aa.map ab.name).Nodup):∃q:Nat,gO l (k:Int)=(q:Int)∧q<l.aa.length:=by
 have:=C0 (nm:=l.name) (js:=l.an) (ds:=l.ak) hn (i:=(k:Int)) (b:=b) (by rw[ke];exact h)
 obtain⟨q,h1,h2⟩:=bX this
 refine⟨q,h1,?_⟩
 have:=(List.getElem?_eq_some_iff.1 h2).1
 rwa[ov] at this
namespace pA
theorem Df{α:Type}{xs:List α}{j:Nat}{v:α}(f:α→α)(h:xs[j]? = some v):((xs.take j).map f++xs.drop j).set j (f v)=(xs.take (j+1)).map f++xs.drop (j+1):=by
 have cN:=(List.getElem?_eq_some_iff.1 h).1
 have hl:((xs.take j).map f).length=j:=by rw[List.length_map,List.length_take];omega
 have e:xs.drop j=v::xs.drop (j+1):=by
  rw[List.drop_eq_getElem_cons cN,(List.getElem?_eq_some_iff.1 h).2]
 rw[e,sl hl,ep h,List.map_append,List.append_assoc];rfl
theorem Dg{α:Type}{xs:List α}{j:Nat}{v:α}(f:α→α)(h:xs[j]? = some v):((xs.take j).map f++xs.drop j)[j]? = some v:=by
 have cN:=(List.getElem?_eq_some_iff.1 h).1
 have hl:((xs.take j).map f).length=j:=by rw[List.length_map,List.length_take];omega
 have e:xs.drop j=v::xs.drop (j+1):=by
  rw[List.drop_eq_getElem_cons cN,(List.getElem?_eq_some_iff.1 h).2]
 rw[e];exact eY hl
theorem IU{α:Type}{xs:List α}{j:Nat}(f:α→α):((xs.take j).map f++xs.drop j).length=xs.length:=by
 rw[List.length_append,List.length_map,List.length_take,List.length_drop];omega
theorem norm{l:aj}(hl:Ok l)(hf:iM l):Cp 64 [l.pv] (bY l).pv:=by
 have hlen:=hl.len
 have Gt:=hl.pos
 refine bV.e0 l l.name l.aa l.an l.ak (copied hl hf) ?_
 have s6:∀(m d:Nat),d+m=l.ak.length→bV.CJ (TO l) l.ak d l.name l.aa l.an (eJ l.aa) ((l.ak.take d).map (dN l)++l.ak.drop d) (l.an.map (jN l)) (bY l).pv:=by
  intro m
  induction m with
  |zero =>
   intro d hd
   have e:(l.ak.take d).map (dN l)++l.ak.drop d=l.ak.map (dN l):=by
    rw[List.take_of_length_le (by omega),List.drop_eq_nil_of_le (by omega),List.append_nil]
   rw[e]
   have hJ:=O0 (l.an.map (jN l)) (by rw[List.length_map];exact hl.jl) (by rw[kD];exact hl.jn)
   have hD:=O1 (l.ak.map (dN l)) (by rw[List.length_map];exact hl.dl) (by rw[kE];exact hl.dn)
   rw[List.length_map] at hJ hD
   exact bV.Uv (TO l) l.ak d l.name l.aa l.an (eJ l.aa) _ _ _ _ (by omega) hJ hD (ov _).symm (by rw[gh,List.length_map]) (by rw[gh,List.length_map])
  |succ m ih =>
   intro d hd
   have hv:=List.getElem?_eq_getElem (l:=l.ak) (i:=d) (by omega)
   generalize l.ak[d]=v at hv
   obtain⟨_,⟨b,hb⟩,_⟩:=hl.ak v (List.mem_of_getElem? hv)
   obtain⟨k,ek,hk⟩:=bX hb
   have h:=ih (d+1) (by omega)
   rw[←Df (dN l) hv] at h
   have e:dN l v=⟨v.name,gO l (k:Int)⟩:=by unfold dN;rw[ek]
   rw[e] at h
   exact bV.Uu (TO l) l.ak d l.name l.aa l.an _ _ _ v k _ (by omega) (Dg (dN l) hv) ek (lW hk) (by have:=hl.dl;omega) h
 have s5:∀(m j:Nat),j+m=l.an.length→bV.ja (EI l) (TO l) l.an.length l.an j l.name l.aa l.ak (eJ l.aa) ((l.an.take j).map (jN l)++l.an.drop j) (bY l).pv:=by
  intro m
  induction m with
  |zero =>
   intro j hj
   have e:(l.an.take j).map (jN l)++l.an.drop j=l.an.map (jN l):=by
    rw[List.take_of_length_le (by omega),List.drop_eq_nil_of_le (by omega),List.append_nil]
   rw[e]
   refine bV.Ut (EI l) (TO l) _ l.an j l.name l.aa l.ak _ _ (by omega) ?_
   have h:=s6 l.ak.length 0 (by omega)
   rw[List.take_zero,List.map_nil,List.nil_append,List.drop_zero] at h
   exact h
  |succ m ih =>
   intro j hj
   have hv:=List.getElem?_eq_getElem (l:=l.an) (i:=j) (by omega)
   generalize l.an[j]=v at hv
   obtain⟨A,B,P,Q,hA,hB,iO,hP,hQ,hk⟩:=(hl.an v (List.mem_of_getElem? hv)).2
   obtain⟨kA,eA,gA⟩:=bX hA
   obtain⟨kB,eB,gB⟩:=bX hB
   obtain⟨kP,eP,gP⟩:=bX hP
   obtain⟨kQ,eQ,gQ⟩:=bX hQ
   have h:=ih (j+1) (by omega)
   rw[←Df (jN l) hv] at h
   have pP:nJ l v.a v.bq=o9 A (kP:Int):=by unfold nJ;rw[hA,eP]
   have pQ:nJ l v.b v.fD=o9 B (kQ:Int):=by unfold nJ;rw[hB,eQ]
   have dA:gO l v.a=gO l (kA:Int):=by rw[eA]
   have dB:gO l v.b=gO l (kB:Int):=by rw[eB]
   have hg:=Dg (jN l) hv
   have zq:((l.an.take j).map (jN l)++l.an.drop j).length=l.an.length:=IU (jN l)
   have lA:kA<(EI l).length:=by rw[List.length_map];exact(List.getElem?_eq_some_iff.1 gA).1
   have lB:kB<(EI l).length:=by rw[List.length_map];exact(List.getElem?_eq_some_iff.1 gB).1
   have DW:=hl.jl
   rcases hk with ⟨h0,ht⟩|⟨h1,R,hR,_⟩
   ·have KH:v.kind≠1:=by omega
    by_cases cN:gO l (kB:Int)<gO l (kA:Int)
    ·have e:jN l v=⟨v.name,v.kind,gO l (kB:Int),o9 B (kQ:Int),gO l (kA:Int),o9 A (kP:Int),v.fj⟩:=by
      unfold jN uM;rw[if_neg KH,pP,pQ,dA,dB,if_pos cN]
     rw[e] at h
     exact bV.Uq (EI l) (TO l) _ l.an j l.name l.aa l.ak _ _ v kA _ kP _ kB _ kQ _ kA _ kB _ (by omega) (by omega) hg eA lA (rW gA) eP (fZ gP) eB lB (rW gB) eQ (fZ gQ) KH eA (lW gA) eB (lW gB) h0 cN (by omega) (by omega) h
    ·have e:jN l v=⟨v.name,v.kind,gO l (kA:Int),o9 A (kP:Int),gO l (kB:Int),o9 B (kQ:Int),v.fj⟩:=by
      unfold jN uM;rw[if_neg KH,pP,pQ,dA,dB,if_neg cN]
     rw[e] at h
     exact bV.Ur (EI l) (TO l) _ l.an j l.name l.aa l.ak _ _ v kA _ kP _ kB _ kQ _ kA _ kB _ (by omega) (by omega) hg eA lA (rW gA) eP (fZ gP) eB lB (rW gB) eQ (fZ gQ) KH eA (lW gA) eB (lW gB) h0 (by omega) (by omega) (by omega) h
   ·obtain⟨kR,eR,gR⟩:=bX hR
    have pR:nJ l v.b v.fj=o9 B (kR:Int):=by unfold nJ;rw[hB,eR]
    have e:jN l v=⟨v.name,v.kind,gO l (kA:Int),o9 A (kP:Int),gO l (kB:Int),min (o9 B (kQ:Int)) (o9 B (kR:Int)),max (o9 B (kQ:Int)) (o9 B (kR:Int))⟩:=by
     unfold jN;rw[if_pos h1,pP,pQ,pR,dA,dB]
    rw[e] at h
    exact bV.Q0 (EI l) (TO l) _ l.an j l.name l.aa l.ak _ _ v kA _ kP _ kB _ kQ _ kB _ kR _ kA _ kB _ (by omega) (by omega) hg eA lA (rW gA) eP (fZ gP) eB lB (rW gB) eQ (fZ gQ) h1 eB lB (rW gB) eR (fZ gR) eA (lW gA) eB (lW gB) (by omega) (by omega) (by omega) h
 have s3:∀(m g:Nat) (o:List ab),g+m=l.aa.length→o.length=l.aa.length→(∀(i:Nat) b,i<g→l.aa[i]? = some b→∀k:Nat,gO l (i:Int)=(k:Int)→o[k]? = some (nb b)) →
   bV.cL (EI l) (TO l) l.aa g l.name l.an l.ak o (bY l).pv:=by
  intro m
  induction m with
  |zero =>
   intro g o hg ho h
   have e:o=eJ l.aa:=De (nm:=l.name) (js:=l.an) (ds:=l.ak) hl.bn ho (fun i b hb k hk=>h i b (by have:=(List.getElem?_eq_some_iff.1 hb).1;omega) hb k hk)
   rw[e]
   refine bV.Gb (EI l) (TO l) l.aa g l.name l.an l.ak _ (by omega) ?_
   have h5:=s5 l.an.length 0 (by omega)
   rw[List.take_zero,List.map_nil,List.nil_append,List.drop_zero] at h5
   exact h5
  |succ m ih =>
   intro g o hg ho h
   have hv:=List.getElem?_eq_getElem (l:=l.aa) (i:=g) (by omega)
   generalize l.aa[g]=v at hv
   have sr:=(hl.aa v (List.mem_of_getElem? hv)).2
   have h8:=sr.len
   refine bV.H3 (EI l) (TO l) l.aa g l.name l.an l.ak o v (by omega) hv (by omega) ?_
   have s4:∀(m j:Nat) (p:List au),j+m=v.points.length→p.length=v.points.length→(∀(i:Nat) x,i<j→v.points[i]? = some x→p[rk au.name v.points x.name]? = some x) →
     bV.fE (EI l) (TO l) g l.aa g v j l.name l.an l.ak o p (bY l).pv:=by
    intro m
    induction m with
    |zero =>
     intro j p hj hp hi
     have e:p=b8 au.name v.points:=rR sr.nodup hp (fun i x hx=>hi i x (by have:=(List.getElem?_eq_some_iff.1 hx).1;omega) hx)
     rw[e]
     obtain⟨q,hq,z8⟩:=FD hv hl.bn
     refine bV.Ke (EI l) (TO l) g l.aa g v j l.name l.an l.ak o _ _ q (by omega) (by rw[gh]) (lW hv) hq (by omega) (by omega) (by omega) ?_
     refine ih (g+1) _ (by omega) (by rw[List.length_set];exact ho) (fun i b HI hb k hk => ?_)
     rw[List.getElem?_set]
     by_cases hqk:q=k
     ·have:(i:Int)=(g:Int):=qQ hl.bn (by rw[ke];exact hb) (by rw[ke];exact hv) (by rw[hk,hq,hqk])
      have:i=g:=by omega
      subst this
      rw[hv] at hb;injection hb with hb;subst hb
      rw[if_pos hqk,if_pos (by omega)];rfl
     ·rw[if_neg hqk]
      have UZ:i≠g:=fun e=>by
       subst e
       rw[hq] at hk;omega
      exact h i b (by omega) hb k hk
    |succ m ih4 =>
     intro j p hj hp hi
     have hx:=List.getElem?_eq_getElem (l:=v.points) (i:=j) (by omega)
     generalize v.points[j]=x at hx
     have GS:=CS sr.nodup (List.mem_of_getElem? hx)
     have e2:o9 v (j:Int)=((rk au.name v.points x.name:Nat):Int):=by unfold o9;rw[ke,hx]
     refine bV.Kd (EI l) (TO l) g l.aa g v j l.name l.an l.ak o p x _ _ (rk au.name v.points x.name) (by omega) hx (by rw[List.length_map];omega) (rW hv) (fZ hx) e2 GS (by omega) (by omega) ?_
     refine ih4 (j+1) _ (by omega) (by rw[List.length_set];exact hp) (fun i y HI hy => ?_)
     rw[List.getElem?_set]
     by_cases hqk:rk au.name v.points x.name=rk au.name v.points y.name
     ·have:=wv sr.nodup hx hy hqk
      subst this
      rw[hx] at hy;injection hy with hy;subst hy
      rw[if_pos rfl,if_pos (by omega)]
     ·rw[if_neg hqk]
      refine hi i y ?_ hy
      rcases Nat.lt_or_ge i j with h1|h1
      ·exact h1
      ·have:i=j:=by omega
       subst this
       rw[hx] at hy;injection hy with hy;subst hy
       exact absurd rfl hqk
   exact s4 v.points.length 0 _ (by omega) (by rw[List.length_replicate]) (fun i x hi=>by omega)
 have s1:∀(m g:Nat),g+m=l.aa.length→bV.ar ((l.aa.take g).map ab.name) ((l.aa.take g).map zj) l.aa g l.name l.an l.ak (bY l).pv:=by
  intro m
  induction m with
  |zero =>
   intro g hg
   rw[List.take_of_length_le (by omega)]
   have hS:=sorted (l.aa.map ab.name) 1 (by rw[List.length_map];omega) (by rw[List.length_map];omega) (hl.bn.sublist (List.drop_sublist 1 _))
   refine bV.dD _ _ l.aa g l.name l.an l.ak _ (by omega) hS (by omega) ?_
   exact s3 l.aa.length 0 _ (by omega) (by rw[List.length_replicate]) (fun i b hi=>by omega)
  |succ m ih =>
   intro g hg
   have hv:=List.getElem?_eq_getElem (l:=l.aa) (i:=g) (by omega)
   generalize l.aa[g]=v at hv
   have sr:=(hl.aa v (List.mem_of_getElem? hv)).2
   have h8:=sr.len
   refine bV.dC _ _ l.aa g l.name l.an l.ak v (by omega) hv (by rw[List.length_append,List.length_map,List.length_take,List.length_singleton];omega) ?_
   have h:=ih (g+1) (by omega)
   rw[ep hv,List.map_append,List.map_append] at h
   have s2:∀(m j:Nat),j+m=v.points.length→bV.aJ ((l.aa.take g).map ab.name++[v.name]) ((l.aa.take g).map zj) ((v.points.take j).map au.name) l.aa g v j l.name l.an l.ak (bY l).pv:=by
    intro m
    induction m with
    |zero =>
     intro j hj
     rw[List.take_of_length_le (show v.points.length≤j by omega)]
     have hS:=sorted (v.points.map au.name) 0 (Nat.zero_le _) (by rw[List.length_map];omega) sr.nodup
     exact bV.nL _ _ _ l.aa g v j l.name l.an l.ak _ (by omega) hS (by rw[List.length_append,List.length_map,List.length_take,List.length_singleton];omega) (by omega) h
    |succ m Hv =>
     intro j hj
     have hx:=List.getElem?_eq_getElem (l:=v.points) (i:=j) (by omega)
     generalize v.points[j]=x at hx
     have h2:=Hv (j+1) (by omega)
     rw[ep hx,List.map_append] at h2
     exact bV.nK _ _ _ l.aa g v j l.name l.an l.ak x (by omega) hx (by rw[List.length_append,List.length_map,List.length_take,List.length_singleton];omega) (by omega) h2
   exact s2 v.points.length 0 (by omega)
 exact s1 l.aa.length 0 (by omega)
end pA
end Go.Proofs.YtfjfekodeplcoaaGreat.Sym
namespace Go.Proofs.YtfjfekodeplcoaaGreat.Sym
open Go Path fi
set_option linter.unusedVariables false
theorem dV{α:Type}{xs:List α}{c g:Nat}{w:α}(h:(xs.take c)[g]? = some w):xs[g]? = some w∧g<c:=by
 rw[List.getElem?_take] at h
 split at h
 ·rename_i h1;exact⟨h,h1⟩
 ·cases h
namespace BK
theorem index(i n:Int):Cp 86 [vI i,vI n] (vB (pA.Jr i n)):=by
 by_cases h:0≤i
 ·rw[show pA.Jr i n=decide (i<n) by unfold pA.Jr;rw[Bool.eq_iff_iff,decide_eq_true_iff,decide_eq_true_iff];omega]
  exact jU.e0 i n h
 ·rw[show pA.Jr i n=false from decide_eq_false (by omega)]
  exact jU.e1 i n (by omega)
theorem points(b:ab)(hf:∀m∈b.points,m.name.size<9223372036854775808∧gC m.x∧gC m.y):Cp 85 [b.pv] (vI (jC b.points)):=by
 unfold jC
 by_cases h8:8<b.points.length
 ·rw[if_pos h8];exact bD.e0 b h8
 ·rw[if_neg h8]
  refine bD.e1 b (by omega) ?_
  rw[←RJ]
  refine jG (L:=fun c r=>bD.ar c b r) (R:=fun e=>vI e) (r0:=vI 0) (fun c r hc hn => ?_) b.points.length 0 (by omega) (fun h0=>bD.kM b.points.length b (Nat.le_refl _))
  have vC:=List.getElem?_eq_getElem hc
  generalize b.points[c]=v1 at vC
  obtain⟨f1,f2,f3⟩:=hf v1 (List.mem_of_getElem? vC)
  have e:Ax b.points c=if dU v1.name=false then 5 else if (b.points.take c).any (fun x=>decide (x.name=v1.name))=true then 6 else if v1.x.valid=true∧v1.y.valid=true then 0 else 3:=by unfold Ax;rw[vC]
  rw[e] at hn ⊢
  by_cases h1:dU v1.name=false
  ·rw[if_pos h1]
   exact bD.dC c b v1 _ hc vC (Name _ f1) h1
  ·rw[if_neg h1] at hn ⊢
   refine bD.dD c b v1 _ hc vC (Name _ f1) (by simpa using h1) ?_
   have cN:(b.points.take c).length=c:=by rw[List.length_take];omega
   have key:=ji (p:=fun x=>decide (x.name=v1.name)) (xs:=b.points.take c) (L:=fun g r=>bD.aJ c g b v1 r) (A:=vI 6) (B:=if (if v1.x.valid=true∧v1.y.valid=true then (0:Int) else 3)=0 then r else vI (if v1.x.valid=true∧v1.y.valid=true then 0 else 3))
    (fun g w hg hw hp=>bD.nK c g b v1 w (dV hw).2 (dV hw).1 (of_decide_eq_true hp))
    (fun g w r hg hw hp hL=>bD.nL c g b v1 w (dV hw).2 (dV hw).1 (of_decide_eq_false hp) (by omega) hL)
    (fun sH => ?_)
   ·by_cases ha:(b.points.take c).any (fun x=>decide (x.name=v1.name))=true
    ·rw[if_pos ha] at key ⊢
     exact key
    ·rw[if_neg ha] at key ⊢
     exact key
   ·rw[if_neg (by rw[sH];simp)] at hn
    rw[cN]
    by_cases hx:v1.x.valid=true
    ·by_cases hy:v1.y.valid=true
     ·have ev:(if v1.x.valid=true∧v1.y.valid=true then (0:Int) else 3)=0:=if_pos ⟨hx,hy⟩
      rw[if_pos ev]
      exact bD.NB c c b v1 _ _ (Nat.le_refl _) (IH.Valid _ f2.r) hx (IH.Valid _ f3.r) hy (by omega) (hn ev)
     ·have ev:(if v1.x.valid=true∧v1.y.valid=true then (0:Int) else 3)=3:=if_neg (fun h=>hy h.2)
      rw[ev,if_neg (by decide)]
      exact bD.HY c c b v1 _ _ (Nat.le_refl _) (IH.Valid _ f2.r) hx (IH.Valid _ f3.r) (by simpa using hy)
    ·have ev:(if v1.x.valid=true∧v1.y.valid=true then (0:Int) else 3)=3:=if_neg (fun h=>hx h.1)
     rw[ev,if_neg (by decide)]
     exact bD.vv c c b v1 _ (Nat.le_refl _) (IH.Valid _ f2.r) (by simpa using hx)
theorem aa(l:aj)(hf:iM l)(hlen:l.aa.length<9223372036854775808):Cp 40 [l.pv] (vI (nH l.aa)):=by
 refine bS.e0 l ?_
 unfold nH
 rw[←RJ]
 refine jG (L:=fun i r=>bS.ar i l r) (R:=fun e=>vI e) (r0:=vI 0) (fun i r hi hn => ?_) l.aa.length 0 (by omega) (fun _=>bS.kM l.aa.length l (Nat.le_refl _))
 have hv:=List.getElem?_eq_getElem hi
 generalize l.aa[i]=v at hv
 have sr:=hf.aa v (List.mem_of_getElem? hv)
 have e:Ay l.aa i=if dU v.name=false then 5 else if (l.aa.take i).any (fun x=>decide (x.name=v.name))=true then 6 else jC v.points:=by unfold Ay;rw[hv]
 rw[e] at hn ⊢
 by_cases h1:dU v.name=false
 ·rw[if_pos h1]
  exact bS.dC i l v _ hi hv (Name _ sr.1) h1
 ·rw[if_neg h1] at hn ⊢
  refine bS.dD i l v _ hi hv (Name _ sr.1) (by simpa using h1) ?_
  have cN:(l.aa.take i).length=i:=by rw[List.length_take];omega
  have key:=ji (p:=fun x=>decide (x.name=v.name)) (xs:=l.aa.take i) (L:=fun g r=>bS.aJ i g l r) (A:=vI 6) (B:=if jC v.points=0 then r else vI (jC v.points))
   (fun g w hg hw hp=>bS.nK i g l w v (dV hw).2 (dV hw).1 hv (of_decide_eq_true hp))
   (fun g w r hg hw hp hL=>bS.nL i g l w v (dV hw).2 (dV hw).1 hv (of_decide_eq_false hp) (by omega) hL)
   (fun sH => ?_)
  ·by_cases ha:(l.aa.take i).any (fun x=>decide (x.name=v.name))=true
   ·rw[if_pos ha] at key ⊢
    exact key
   ·rw[if_neg ha] at key ⊢
    exact key
  ·rw[if_neg (by rw[sH];simp)] at hn
   rw[cN]
   have hp:=points v sr.2
   by_cases h0:jC v.points=0
   ·rw[if_pos h0]
    exact bS.HY i i l v _ (Nat.le_refl _) hv hp h0 (by omega) (hn h0)
   ·rw[if_neg h0]
    exact bS.vv i i l v _ (Nat.le_refl _) hv hp h0
theorem same(p q:au)(hp:gC p.x∧gC p.y)(hq:gC q.x∧gC q.y):Cp 87 [p.pv,q.pv] (vB (decide (kO p.x.val q.x.val=0∧kO p.y.val q.y.val=0))):=by
 have h1:=IH.EC p.x q.x (by have:=hp.1;unfold gC at this;omega) (by have:=hq.1;unfold gC at this;omega)
 have h2:=IH.EC p.y q.y (by have:=hp.2;unfold gC at this;omega) (by have:=hq.2;unfold gC at this;omega)
 by_cases h:kO p.x.val q.x.val=0
 ·rw[show decide (kO p.x.val q.x.val=0∧kO p.y.val q.y.val=0)=(kO p.y.val q.y.val==0) by rw[Bool.eq_iff_iff,decide_eq_true_iff,beq_iff_eq];simp[h]]
  exact ko.e0 p q _ _ h1 h h2
 ·rw[show decide (kO p.x.val q.x.val=0∧kO p.y.val q.y.val=0)=false from decide_eq_false (fun e=>h e.1)]
  exact ko.e1 p q _ h1 h
open pA (dg dH)
theorem M7(l:aj)(hf:iM l)(i:Nat)(j:ag):aV.ar (i:Int) i l j (vI (jE l j)):=by
 unfold jE
 by_cases h0:j.kind=0
 ·rw[if_neg (by omega)]
  cases hA:nth l.aa j.a with
  |none=>exact aV.Q8 (i:Int) i l j _ (Int.le_refl _) h0 (index _ _) (dH hA)
  |some A =>
   have iA:=dg hA
   obtain⟨kA,eA,gA⟩:=bX hA
   cases hB:nth l.aa j.b with
   |none=>exact aV.Q9 (i:Int) i l j _ _ (Int.le_refl _) h0 (index _ _) iA (index _ _) (dH hB)
   |some B =>
    have iB:=dg hB
    obtain⟨kB,eB,gB⟩:=bX hB
    dsimp only
    by_cases iO:j.a=j.b
    ·rw[if_pos iO];exact aV.Ra (i:Int) i l j _ _ (Int.le_refl _) h0 (index _ _) iA (index _ _) iB iO
    rw[if_neg iO]
    cases hP:nth A.points j.bq with
    |none=>exact aV.Rb (i:Int) i l j _ _ _ _ _ _ _ (Int.le_refl _) h0 (index _ _) iA (index _ _) iB iO eA gA eB gB (index _ _) (dH hP)
    |some P =>
     have iP:=dg hP
     cases hQ:nth B.points j.fD with
     |none=>exact aV.Rc (i:Int) i l j _ _ _ _ _ _ _ _ (Int.le_refl _) h0 (index _ _) iA (index _ _) iB iO eA gA eB gB (index _ _) iP (index _ _) (dH hQ)
     |some Q =>
      have iQ:=dg hQ
      dsimp only
      rw[if_pos h0]
      by_cases ht:j.fj=0
      ·rw[if_neg (by omega)];exact aV.Rf (i:Int) i l j _ _ _ _ _ _ _ _ (Int.le_refl _) h0 (index _ _) iA (index _ _) iB iO eA gA eB gB (index _ _) iP (index _ _) iQ ht
      ·rw[if_pos ht];exact aV.Re (i:Int) i l j _ _ _ _ _ _ _ _ (Int.le_refl _) h0 (index _ _) iA (index _ _) iB iO eA gA eB gB (index _ _) iP (index _ _) iQ ht
 ·by_cases h1:j.kind=1
  ·rw[if_neg (by omega)]
   cases hA:nth l.aa j.a with
   |none=>exact aV.An (i:Int) i l j _ (Int.le_refl _) h0 h1 (index _ _) (dH hA)
   |some A =>
    have iA:=dg hA
    obtain⟨kA,eA,gA⟩:=bX hA
    cases hB:nth l.aa j.b with
    |none=>exact aV.OA (i:Int) i l j _ _ (Int.le_refl _) h0 h1 (index _ _) iA (index _ _) (dH hB)
    |some B =>
     have iB:=dg hB
     obtain⟨kB,eB,gB⟩:=bX hB
     dsimp only
     by_cases iO:j.a=j.b
     ·rw[if_pos iO];exact aV.Um (i:Int) i l j _ _ (Int.le_refl _) h0 h1 (index _ _) iA (index _ _) iB iO
     rw[if_neg iO]
     cases hP:nth A.points j.bq with
     |none=>exact aV.Un (i:Int) i l j _ _ _ _ _ _ _ (Int.le_refl _) h0 h1 (index _ _) iA (index _ _) iB iO eA gA eB gB (index _ _) (dH hP)
     |some P =>
      have iP:=dg hP
      cases hQ:nth B.points j.fD with
      |none=>exact aV.Uo (i:Int) i l j _ _ _ _ _ _ _ _ (Int.le_refl _) h0 h1 (index _ _) iA (index _ _) iB iO eA gA eB gB (index _ _) iP (index _ _) (dH hQ)
      |some Q =>
       have iQ:=dg hQ
       dsimp only
       rw[if_neg h0]
       obtain⟨kQ,eQ,gQ⟩:=bX hQ
       cases hR:nth B.points j.fj with
       |none=>exact aV.Q5 (i:Int) i l j _ _ _ _ _ _ _ _ _ (Int.le_refl _) h0 h1 (index _ _) iA (index _ _) iB iO eA gA eB gB (index _ _) iP (index _ _) iQ (index _ _) (dH hR)
       |some R =>
        have iR:=dg hR
        obtain⟨kR,eR,gR⟩:=bX hR
        dsimp only
        have fQ:=(hf.aa B (mq hB)).2 Q (mq hQ)
        have fR:=(hf.aa B (mq hB)).2 R (mq hR)
        have hs:=same Q R fQ.2 fR.2
        by_cases hx:kO Q.x.val R.x.val=0∧kO Q.y.val R.y.val=0
        ·rw[if_pos hx];exact aV.Q6 (i:Int) i l j _ _ _ _ _ _ _ _ _ _ _ _ _ _ (Int.le_refl _) h0 h1 (index _ _) iA (index _ _) iB iO eA gA eB gB (index _ _) iP (index _ _) iQ (index _ _) iR eQ gQ eR gR hs (decide_eq_true hx)
        ·rw[if_neg hx];exact aV.Q7 (i:Int) i l j _ _ _ _ _ _ _ _ _ _ _ _ _ _ (Int.le_refl _) h0 h1 (index _ _) iA (index _ _) iB iO eA gA eB gB (index _ _) iP (index _ _) iQ (index _ _) iR eQ gQ eR gR hs (decide_eq_false hx)
  ·rw[if_pos ⟨h0,h1⟩];exact aV.kM (i:Int) i l j (Int.le_refl _) h0 h1
theorem IK(l:aj)(hf:iM l)(i:Nat)(hlen:l.an.length<9223372036854775808)(hi:i<l.an.length):Cp 41 [l.pv,vI (i:Int)] (vI (pz l i)):=by
 have hv:=List.getElem?_eq_getElem hi
 generalize l.an[i]=v at hv
 have sr:=hf.an v (List.mem_of_getElem? hv)
 have e:pz l i=if dU v.name=false then 5 else if (l.an.take i).any (fun x=>decide (x.name=v.name))=true then 6 else jE l v:=by unfold pz;rw[hv]
 rw[e]
 by_cases h1:dU v.name=false
 ·rw[if_pos h1]
  exact aV.e0 l i i v _ rfl hv (Name _ sr) h1
 ·rw[if_neg h1]
  refine aV.e1 l i i v _ rfl hv (Name _ sr) (by simpa using h1) ?_
  have cN:(l.an.take i).length=i:=by rw[List.length_take];omega
  have key:=ji (p:=fun x=>decide (x.name=v.name)) (xs:=l.an.take i) (L:=fun g r=>aV.ar i g l v r) (A:=vI 6) (B:=vI (jE l v))
   (fun g w hg hw hp=>aV.dC i g l v w (by have:=(dV hw).2;omega) (dV hw).1 (of_decide_eq_true hp))
   (fun g w r hg hw hp hL=>aV.dD i g l v w (by have:=(dV hw).2;omega) (dV hw).1 (of_decide_eq_false hp) (by omega) hL)
   (fun sH=>by rw[cN];exact M7 l hf i v)
  by_cases ha:(l.an.take i).any (fun x=>decide (x.name=v.name))=true
  ·rw[if_pos ha] at key ⊢
   exact key
  ·rw[if_neg ha] at key ⊢
   exact key
theorem M8(l:aj)(hf:iM l)(i:Nat)(hlen:l.ak.length<9223372036854775808)(hi:i<l.ak.length):Cp 42 [l.pv,vI (i:Int)] (vI (nI l i)):=by
 have hv:=List.getElem?_eq_getElem hi
 generalize l.ak[i]=v at hv
 have sr:=hf.ak v (List.mem_of_getElem? hv)
 have e:nI l i=if dU v.name=false then 5 else if (l.ak.take i).any (fun x=>decide (x.name=v.name))=true then 6 else dE l i v:=by unfold nI;rw[hv]
 rw[e]
 by_cases h1:dU v.name=false
 ·rw[if_pos h1]
  exact bE.e0 l i i v _ rfl hv (Name _ sr) h1
 ·rw[if_neg h1]
  refine bE.e1 l i i v _ rfl hv (Name _ sr) (by simpa using h1) ?_
  have cN:(l.ak.take i).length=i:=by rw[List.length_take];omega
  have key:=ji (p:=fun x=>decide (x.name=v.name)) (xs:=l.ak.take i) (L:=fun g r=>bE.ar i g l v r) (A:=vI 6) (B:=vI (dE l i v))
   (fun g w hg hw hp=>bE.dC i g l v w (by have:=(dV hw).2;omega) (dV hw).1 (of_decide_eq_true hp))
   (fun g w r hg hw hp hL=>bE.dD i g l v w (by have:=(dV hw).2;omega) (dV hw).1 (of_decide_eq_false hp) (by omega) hL)
   (fun sH => ?_)
  ·by_cases ha:(l.ak.take i).any (fun x=>decide (x.name=v.name))=true
   ·rw[if_pos ha] at key ⊢
    exact key
   ·rw[if_neg ha] at key ⊢
    exact key
  ·rw[cN]
   unfold dE
   cases hb:nth l.aa v.body with
   |none=>exact bE.kM i i l v _ (Int.le_refl _) (index _ _) (dH hb)
   |some b =>
    dsimp only
    by_cases h0:v.body=0
    ·rw[if_pos h0]
     exact bE.An i i l v _ (Int.le_refl _) (index _ _) (dg hb) h0
    ·rw[if_neg h0]
     refine bE.OA i i l v _ (Int.le_refl _) (index _ _) (dg hb) h0 ?_
     have key:=ji (p:=fun x=>decide (x.body=v.body)) (xs:=l.ak.take i) (L:=fun g r=>bE.aJ i g l v r) (A:=vI 6) (B:=vI 0)
      (fun g w hg hw hp=>bE.nK i g l v w (by have:=(dV hw).2;omega) (dV hw).1 (of_decide_eq_true hp))
      (fun g w r hg hw hp hL=>bE.nL i g l v w (by have:=(dV hw).2;omega) (dV hw).1 (of_decide_eq_false hp) (by omega) hL)
      (fun sH=>bE.vv i _ l v (by omega))
     by_cases hc:(l.ak.take i).any (fun x=>decide (x.body=v.body))=true
     ·rw[if_pos hc] at key ⊢
      exact key
     ·rw[if_neg hc] at key ⊢
      exact key
theorem Check(l:aj)(hf:iM l):Cp 14 [l.pv] (vI (gN l)):=by
 unfold gN
 have hN:=Name _ hf.name
 by_cases h1:dU l.name=false
 ·rw[if_pos h1];exact bj.e0 l _ hN h1
 ·rw[if_neg h1]
  have h1:dU l.name=true:=by simpa using h1
  by_cases h2:l.aa.length=0
  ·rw[if_pos h2];exact bj.e1 l _ hN h1 h2
  ·rw[if_neg h2]
   by_cases h3:8<l.aa.length
   ·rw[if_pos h3];exact bj.e2 l _ hN h1 h2 h3
   ·rw[if_neg h3]
    have hB:=aa l hf (by omega)
    by_cases h4:nH l.aa=0
    ·rw[if_neg (by omega)]
     unfold o8
     by_cases gu:16<l.an.length
     ·rw[if_pos gu,if_pos (by decide)]
      exact bj.e4 l _ _ hN h1 h2 (by omega) hB h4 gu
     ·rw[if_neg gu]
      refine bj.e5 l _ _ hN h1 h2 (by omega) hB h4 (by omega) ?_
      have key:=jG (f:=pz l) (len:=l.an.length) (L:=fun i r=>bj.ar i l r) (R:=fun e=>vI e) (r0:=vI (ou l)) (fun i r hi hn => ?_) l.an.length 0 (by omega) (fun h0 => ?_)
      ·by_cases h0:scan (pz l) l.an.length 0=0
       ·rw[if_pos h0] at key
        rw[if_neg (by omega)]
        exact key
       ·rw[if_neg h0] at key
        rw[if_pos h0]
        exact key
      ·have hj:=IK l hf i (by omega) hi
       by_cases h0:pz l i=0
       ·rw[if_pos h0]
        exact bj.dD i l _ hi hj h0 (by omega) (hn h0)
       ·rw[if_neg h0]
        exact bj.dC i l _ hi hj h0
      ·unfold ou
       by_cases hd:2<l.ak.length
       ·rw[if_pos hd]
        exact bj.kM _ l (Nat.le_refl _) hd
       ·rw[if_neg hd]
        refine bj.An _ l (Nat.le_refl _) (by omega) ?_
        rw[←RJ]
        refine jG (f:=nI l) (len:=l.ak.length) (L:=fun i r=>bj.aJ i l r) (R:=fun e=>vI e) (r0:=vI 0) (fun i r hi hn => ?_) l.ak.length 0 (by omega) (fun _=>bj.vv _ l (Nat.le_refl _))
        have hj:=M8 l hf i (by omega) hi
        by_cases h0:nI l i=0
        ·rw[if_pos h0]
         exact bj.nL i l _ hi hj h0 (by omega) (hn h0)
        ·rw[if_neg h0]
         exact bj.nK i l _ hi hj h0
    ·rw[if_pos h4]
     exact bj.e3 l _ _ hN h1 h2 (by omega) hB h4
end BK
open Go.RowKit
def xp(names:List ByteArray):List Int:=names.map fun s=>(rk id names s:Int)
theorem FF(names:List ByteArray):rV names 0=xp names:=by
 unfold rV xp
 rw[show castL (List.range 0)=[] from rfl,List.nil_append,List.drop_zero]
 exact List.map_congr_left fun s _=>by rw[Nat.zero_add]
theorem sv(names:List ByteArray):(xp names).length=names.length:=List.length_map ..
theorem EJ{α:Type}{key:α→ByteArray}{xs:List α}{d:Nat}{x:α}(h:xs[d]? = some x):(xp (xs.map key))[d]? = some (rk key xs (key x):Int):=by
 unfold xp
 rw[List.getElem?_map,List.getElem?_map,h]
 show some (rk id (xs.map key) (key x):Int)=_
 rw[tH (key:=key) (key':=id) key (fun _=>rfl)]
theorem vN{α:Type}{key:α→ByteArray}{xs out:List α}(hn:(xs.map key).Nodup){d:Nat}{x:α}(hx:xs[d]? = some x)(hl:out.length=xs.length)
  (h:∀(i:Nat) y,i<d→xs[i]? = some y→out[rk key xs (key y)]? = some y):∀(i:Nat) y,i<d+1→xs[i]? = some y→(out.set (rk key xs (key x)) x)[rk key xs (key y)]? = some y:=by
 intro i y hi hy
 have GS:=CS hn (List.mem_of_getElem? hx)
 rw[List.getElem?_set]
 by_cases hqk:rk key xs (key x)=rk key xs (key y)
 ·have:=wv hn hx hy hqk
  subst this
  rw[hx] at hy;injection hy with hy;subst hy
  rw[if_pos rfl,if_pos (by omega)]
 ·rw[if_neg hqk]
  refine h i y ?_ hy
  rcases Nat.lt_or_ge i d with h1|h1
  ·exact h1
  ·have:i=d:=by omega
   subst this
   rw[hx] at hy;injection hy with hy;subst hy
   exact absurd rfl hqk
namespace BK
theorem FH(names:List ByteArray)(VO:names.length≤1000):Cp 70 [aZ aC names] (aZ aq (xp names)):=by
 refine cw.e0 names ?_
 have s1:∀(m d:Nat),d+m=names.length→cw.ar names ((names.take d).map fun s=>(rk id names s:Int)) d (aZ aq (xp names)):=by
  intro m
  induction m with
  |zero =>
   intro d hd
   rw[List.take_of_length_le (by omega)]
   exact cw.dD names _ d (by omega)
  |succ m ih =>
   intro d hd
   have hv:=List.getElem?_eq_getElem (l:=names) (i:=d) (by omega)
   generalize names[d]=v at hv
   refine cw.dC names _ d (by omega) ?_
   have h:=ih (d+1) (by omega)
   rw[ep hv,List.map_append] at h
   have s2:∀(m i:Nat),i+m=names.length→cw.aJ names ((names.take d).map fun s=>(rk id names s:Int)) d (rk id (names.take i) v) i (aZ aq (xp names)):=by
    intro m
    induction m with
    |zero =>
     intro i hi
     rw[List.take_of_length_le (show names.length≤i by omega)]
     exact cw.vv names _ d _ i (by omega) (by rw[List.length_append,List.length_map,List.length_take,List.length_singleton];omega) (by omega) h
    |succ m Hv =>
     intro i hi
     have hw:=List.getElem?_eq_getElem (l:=names) (i:=i) (by omega)
     generalize names[i]=w at hw
     have h2:=Hv (i+1) (by omega)
     have e:rk id (names.take (i+1)) v=rk id (names.take i) v+(if strLt w v=true then 1 else 0):=by
      unfold rk
      rw[ep hw,List.countP_append]
      congr 1
      by_cases hc:strLt w v=true
      ·rw[if_pos hc,List.countP_cons_of_pos (by exact hc)];rfl
      ·rw[if_neg hc,List.countP_cons_of_neg (by exact hc)];rfl
     rw[e] at h2
     have hle:rk id (names.take i) v≤(names.take i).length:=Ld _ _
     rw[List.length_take] at hle
     by_cases hc:strLt w v=true
     ·rw[if_pos hc] at h2
      exact cw.nK names _ d _ i w v (by omega) hw hv hc (by omega) (by omega) h2
     ·rw[if_neg hc,Nat.add_zero] at h2
      exact cw.nL names _ d _ i w v (by omega) hw hv (by simpa using hc) (by omega) h2
   exact s2 names.length 0 (by omega)
 exact s1 names.length 0 (by omega)
theorem KI(l:aj)(h8:l.aa.length≤8)(Gt:0<l.aa.length):Cp 69 [l.pv] (aZ aq (TO l)):=by
 refine cE.e0 l ?_
 have s2:∀(m d:Nat),d+m=(xp ((l.aa.drop 1).map ab.name)).length→cE.aJ ([0]++((xp ((l.aa.drop 1).map ab.name)).take d).map (·+1)) (xp ((l.aa.drop 1).map ab.name)) d (aZ aq (TO l)):=by
  intro m
  have GS:(xp ((l.aa.drop 1).map ab.name)).length≤8:=by rw[sv,List.length_map,List.length_drop];omega
  induction m with
  |zero =>
   intro d hd
   rw[List.take_of_length_le (by omega)]
   have e:[0]++(xp ((l.aa.drop 1).map ab.name)).map (·+1)=TO l:=by
    unfold TO rV xp
    rw[show castL (List.range 1)=[0] from rfl,List.map_map,List.map_drop]
    congr 1
    refine List.map_congr_left fun s _ => ?_
    show(rk id ((l.aa.map ab.name).drop 1) s:Int)+1=_
    omega
   rw[e]
   exact cE.nL _ _ d (by omega)
  |succ m ih =>
   intro d hd
   have hv:=List.getElem?_eq_getElem (l:=xp ((l.aa.drop 1).map ab.name)) (i:=d) (by omega)
   generalize (xp ((l.aa.drop 1).map ab.name))[d]=v at hv
   have h:=ih (d+1) (by omega)
   rw[ep hv,List.map_append,←List.append_assoc] at h
   have VP:0≤v∧v≤8:=by
    obtain⟨s,_,rfl⟩:=List.mem_map.1 (List.mem_of_getElem? hv)
    have:=Ld (key:=id) ((l.aa.drop 1).map ab.name) s
    rw[List.length_map,List.length_drop] at this
    omega
   exact cE.nK _ _ d v (by omega) hv (by unfold aK;omega) (by simp only[List.length_append,List.length_map,List.length_take,List.length_singleton];omega) (by omega) h
 have s1:∀(m c:Nat),c+1+m=l.aa.length→cE.ar (((l.aa.drop 1).take c).map ab.name) (c+1) l (aZ aq (TO l)):=by
  intro m
  induction m with
  |zero =>
   intro c hc
   rw[List.take_of_length_le (by rw[List.length_drop];omega)]
   refine cE.dD _ (c+1) l _ (by omega) (FH _ (by rw[List.length_map,List.length_drop];omega)) ?_
   have h:=s2 _ 0 (Nat.zero_add _)
   rw[List.take_zero,List.map_nil,List.append_nil] at h
   exact h
  |succ m ih =>
   intro c hc
   have hv:=List.getElem?_eq_getElem (l:=l.aa) (i:=c+1) (by omega)
   generalize l.aa[c+1]=v at hv
   have zn:(l.aa.drop 1)[c]? = some v:=by rw[List.getElem?_drop,show 1+c=c+1 by omega];exact hv
   have h:=ih (c+1) (by omega)
   rw[ep zn,List.map_append] at h
   exact cE.dC _ (c+1) l v (by omega) hv (by rw[List.length_append,List.length_map,List.length_take,List.length_singleton];omega) (by omega) h
 exact s1 (l.aa.length-1) 0 (by omega)
theorem BN(b:ab)(h8:b.points.length≤8):Cp 114 [b.pv] (aZ aq (zj b)):=by
 refine eS.e0 b ?_
 have s1:∀(m d:Nat),d+m=b.points.length→eS.ar ((b.points.take d).map au.name) d b (aZ aq (zj b)):=by
  intro m
  induction m with
  |zero =>
   intro d hd
   rw[List.take_of_length_le (by omega)]
   have h:=FH (b.points.map au.name) (by rw[List.length_map];omega)
   rw[←FF] at h
   exact eS.dD _ d b _ (by omega) h
  |succ m ih =>
   intro d hd
   have hv:=List.getElem?_eq_getElem (l:=b.points) (i:=d) (by omega)
   generalize b.points[d]=v at hv
   have h:=ih (d+1) (by omega)
   rw[ep hv,List.map_append] at h
   exact eS.dC _ d b v (by omega) hv (by rw[List.length_append,List.length_map,List.length_take,List.length_singleton];omega) (by omega) h
 exact s1 b.points.length 0 (by omega)
theorem body(b:ab)(hb:GP b.points):Cp 71 [b.pv] (nb b).pv:=by
 have h8:=hb.len
 refine fW.e0 b _ (by omega) (BN b h8) ?_
 have e0:zj b=xp (b.points.map au.name):=FF _
 have VQ:(zj b).length=b.points.length:=by rw[e0,sv,List.length_map]
 have s1:∀(m d:Nat) (g:List au),d+m=b.points.length→g.length=b.points.length→(∀(i:Nat) x,i<d→b.points[i]? = some x→g[rk au.name b.points x.name]? = some x) →
   fW.ar (zj b) d b g (nb b).pv:=by
  intro m
  induction m with
  |zero =>
   intro d g hd hg h
   have e:g=b8 au.name b.points:=rR hb.nodup hg (fun i x hx=>h i x (by have:=(List.getElem?_eq_some_iff.1 hx).1;omega) hx)
   rw[e]
   exact fW.dD _ d b _ (by omega) (by rw[gh])
  |succ m ih =>
   intro d g hd hg h
   have hv:=List.getElem?_eq_getElem (l:=b.points) (i:=d) (by omega)
   generalize b.points[d]=v at hv
   have GS:=CS hb.nodup (List.mem_of_getElem? hv)
   exact fW.dC _ d b g _ v (rk au.name b.points v.name) (by omega) (by rw[e0];exact EJ hv) hv rfl GS (by omega) (by omega) (ih (d+1) _ (by omega) (by rw[List.length_set];exact hg) (vN hb.nodup hv hg h))
 exact s1 b.points.length 0 _ (by omega) (by rw[List.length_replicate]) (fun i x hi=>by omega)
theorem M9{l:aj}(hl:Ok l){j:ag}(hj:Jp l j):Cp 72 [l.pv,j.pv,aZ aq (TO l)] (jN l j).pv:=by
 obtain⟨A,B,P,Q,hA,hB,iO,hP,hQ,hk⟩:=hj
 obtain⟨kA,eA,gA⟩:=bX hA
 obtain⟨kB,eB,gB⟩:=bX hB
 obtain⟨kP,eP,gP⟩:=bX hP
 obtain⟨kQ,eQ,gQ⟩:=bX hQ
 have pP:nJ l j.a j.bq=o9 A (kP:Int):=by unfold nJ;rw[hA,eP]
 have pQ:nJ l j.b j.fD=o9 B (kQ:Int):=by unfold nJ;rw[hB,eQ]
 have dA:gO l j.a=gO l (kA:Int):=by rw[eA]
 have dB:gO l j.b=gO l (kB:Int):=by rw[eB]
 have cA:=BN A (hl.Jq hA).len
 have cB:=BN B (hl.Jq hB).len
 rcases hk with ⟨h0,ht⟩|⟨h1,R,hR,_⟩
 ·have KH:j.kind≠1:=by omega
  by_cases cN:gO l (kB:Int)<gO l (kA:Int)
  ·have e:jN l j=⟨j.name,j.kind,gO l (kB:Int),o9 B (kQ:Int),gO l (kA:Int),o9 A (kP:Int),0⟩:=by
    unfold jN uM;rw[if_neg KH,pP,pQ,dA,dB,if_pos cN,ht]
   rw[e]
   exact ft.e2 l j _ kA A _ kB B _ kA _ kP _ kB _ kQ _ eA gA cA eB gB cB eA (lW gA) eP (fZ gP) eB (lW gB) eQ (fZ gQ) KH cN
  ·have e:jN l j=⟨j.name,j.kind,gO l (kA:Int),o9 A (kP:Int),gO l (kB:Int),o9 B (kQ:Int),0⟩:=by
    unfold jN uM;rw[if_neg KH,pP,pQ,dA,dB,if_neg cN,ht]
   rw[e]
   exact ft.e3 l j _ kA A _ kB B _ kA _ kP _ kB _ kQ _ eA gA cA eB gB cB eA (lW gA) eP (fZ gP) eB (lW gB) eQ (fZ gQ) KH (by omega)
 ·obtain⟨kR,eR,gR⟩:=bX hR
  have pR:nJ l j.b j.fj=o9 B (kR:Int):=by unfold nJ;rw[hB,eR]
  have e:jN l j=⟨j.name,j.kind,gO l (kA:Int),o9 A (kP:Int),gO l (kB:Int),min (o9 B (kQ:Int)) (o9 B (kR:Int)),max (o9 B (kQ:Int)) (o9 B (kR:Int))⟩:=by
   unfold jN;rw[if_pos h1,pP,pQ,pR,dA,dB]
  rw[e]
  by_cases cN:o9 B (kR:Int)<o9 B (kQ:Int)
  ·rw[Int.min_eq_right (by omega),Int.max_eq_left (by omega)]
   exact ft.e0 l j _ kA A _ kB B _ kA _ kP _ kB _ kQ _ kR _ eA gA cA eB gB cB eA (lW gA) eP (fZ gP) eB (lW gB) eQ (fZ gQ) h1 eR (fZ gR) cN
  ·rw[Int.min_eq_left (by omega),Int.max_eq_right (by omega)]
   exact ft.e1 l j _ kA A _ kB B _ kA _ kP _ kB _ kQ _ kR _ eA gA cA eB gB cB eA (lW gA) eP (fZ gP) eB (lW gB) eQ (fZ gQ) h1 eR (fZ gR) (by omega)
theorem Norm{l:aj}(hl:Ok l):Cp 30 [l.pv] (bY l).pv:=by
 have h8:=hl.len
 have Gt:=hl.pos
 have gu:=hl.jl
 have h2:=hl.dl
 have VR:(TO l).length=l.aa.length:=by unfold TO;rw[Dd (by rw[List.length_map];omega),List.length_map]
 have NH:((l.an.map (jN l)).map ag.name).Nodup:=by rw[kD];exact hl.jn
 have NI:((l.ak.map (dN l)).map af.name).Nodup:=by rw[kE];exact hl.dn
 refine bl.e0 l (TO l) (KI l h8 Gt) (by omega) (by omega) (by omega) ?_
 have s5:∀(m d:Nat) (j:List af),d+m=l.ak.length→j.length=l.ak.length→(∀(i:Nat) y,i<d→(l.ak.map (dN l))[i]? = some y→j[rk af.name (l.ak.map (dN l)) y.name]? = some y) →
   bl.ja (TO l) (xp (l.ak.map af.name)) d l (eJ l.aa) (b8 ag.name (l.an.map (jN l))) j (bY l).pv:=by
  intro m
  induction m with
  |zero =>
   intro d j hd hj h
   have e:j=b8 af.name (l.ak.map (dN l)):=rR NI (by rw[List.length_map];exact hj) (fun i y hy=>h i y (by have:=(List.getElem?_eq_some_iff.1 hy).1;rw[List.length_map] at this;omega) hy)
   rw[e]
   exact bl.QZ _ _ d l _ _ _ (by rw[sv,List.length_map];omega) (ov _).symm (by rw[gh,List.length_map]) (by rw[gh,List.length_map])
  |succ m ih =>
   intro d j hd hj h
   have hv:=List.getElem?_eq_getElem (l:=l.ak) (i:=d) (by omega)
   generalize l.ak[d]=v at hv
   obtain⟨_,⟨b,hb⟩,_⟩:=hl.ak v (List.mem_of_getElem? hv)
   obtain⟨k,ek,hk⟩:=bX hb
   have hx:(l.ak.map (dN l))[d]? = some (dN l v):=by rw[List.getElem?_map,hv];rfl
   have e:dN l v=⟨v.name,gO l (k:Int)⟩:=by unfold dN;rw[ek]
   have GS:=CS NI (List.mem_of_getElem? hx)
   rw[List.length_map] at GS
   have hn:=ih (d+1) _ (by omega) (by rw[List.length_set];exact hj) (vN NI hx (by rw[List.length_map];exact hj) h)
   have ec:(xp (l.ak.map af.name))[d]? = some (rk af.name (l.ak.map (dN l)) (dN l v).name:Int):=by
    rw[←kE l];exact EJ hx
   generalize rk af.name (l.ak.map (dN l)) (dN l v).name=q at GS hn ec
   rw[e] at hn
   exact bl.QY _ _ d l _ _ j _ v k _ q (by rw[sv,List.length_map];omega) ec hv ek (lW hk) rfl GS (by omega) (by omega) hn
 have s4:∀(m d:Nat) (j:List ag),d+m=l.an.length→j.length=l.an.length→(∀(i:Nat) y,i<d→(l.an.map (jN l))[i]? = some y→j[rk ag.name (l.an.map (jN l)) y.name]? = some y) →
   bl.fE (TO l) (xp (l.an.map ag.name)) (xp (l.ak.map af.name)) d l (eJ l.aa) j (bY l).pv:=by
  intro m
  induction m with
  |zero =>
   intro d j hd hj h
   have e:j=b8 ag.name (l.an.map (jN l)):=rR NH (by rw[List.length_map];exact hj) (fun i y hy=>h i y (by have:=(List.getElem?_eq_some_iff.1 hy).1;rw[List.length_map] at this;omega) hy)
   rw[e]
   refine bl.Ke _ _ _ d l _ _ (by rw[sv,List.length_map];omega) ?_
   exact s5 l.ak.length 0 _ (by omega) (by rw[List.length_replicate]) (fun i y hi=>by omega)
  |succ m ih =>
   intro d j hd hj h
   have hv:=List.getElem?_eq_getElem (l:=l.an) (i:=d) (by omega)
   generalize l.an[d]=v at hv
   have hx:(l.an.map (jN l))[d]? = some (jN l v):=by rw[List.getElem?_map,hv];rfl
   have GS:=CS NH (List.mem_of_getElem? hx)
   rw[List.length_map] at GS
   have hn:=ih (d+1) _ (by omega) (by rw[List.length_set];exact hj) (vN NH hx (by rw[List.length_map];exact hj) h)
   have ec:(xp (l.an.map ag.name))[d]? = some (rk ag.name (l.an.map (jN l)) (jN l v).name:Int):=by
    rw[←kD l];exact EJ hx
   exact bl.Kd _ _ _ d l _ j _ v (jN l v) _ (by rw[sv,List.length_map];omega) ec hv (M9 hl (hl.an v (List.mem_of_getElem? hv)).2) rfl GS (by omega) (by omega) hn
 have s3:∀(m g:Nat) (o:List ab),g+m=l.aa.length→o.length=l.aa.length→(∀(i:Nat) b,i<g→l.aa[i]? = some b→∀k:Nat,gO l (i:Int)=(k:Int)→o[k]? = some (nb b)) →
   bl.cL (TO l) (xp (l.an.map ag.name)) (xp (l.ak.map af.name)) g l o (bY l).pv:=by
  intro m
  induction m with
  |zero =>
   intro g o hg ho h
   have e:o=eJ l.aa:=De (nm:=l.name) (js:=l.an) (ds:=l.ak) hl.bn ho (fun i b hb k hk=>h i b (by have:=(List.getElem?_eq_some_iff.1 hb).1;omega) hb k hk)
   rw[e]
   refine bl.Gb _ _ _ g l _ (by omega) ?_
   exact s4 l.an.length 0 _ (by omega) (by rw[List.length_replicate]) (fun i y hi=>by omega)
  |succ m ih =>
   intro g o hg ho h
   have hv:=List.getElem?_eq_getElem (l:=l.aa) (i:=g) (by omega)
   generalize l.aa[g]=v at hv
   have sr:=(hl.aa v (List.mem_of_getElem? hv)).2
   obtain⟨q,hq,z8⟩:=FD hv hl.bn
   refine bl.H3 _ _ _ g l o _ v (nb v) q (by omega) (lW hv) hv (body v sr) hq (by omega) (by omega) (by omega) ?_
   refine ih (g+1) _ (by omega) (by rw[List.length_set];exact ho) (fun i b HI hb k hk => ?_)
   rw[List.getElem?_set]
   by_cases hqk:q=k
   ·have:(i:Int)=(g:Int):=qQ hl.bn (by rw[ke];exact hb) (by rw[ke];exact hv) (by rw[hk,hq,hqk])
    have:i=g:=by omega
    subst this
    rw[hv] at hb;injection hb with hb;subst hb
    rw[if_pos hqk,if_pos (by omega)]
   ·rw[if_neg hqk]
    have UZ:i≠g:=fun e=>by
     subst e
     rw[hq] at hk;omega
    exact h i b (by omega) hb k hk
 have s2:∀(m g:Nat),g+m=l.ak.length→bl.aJ (TO l) (l.an.map ag.name) ((l.ak.take g).map af.name) g l (bY l).pv:=by
  intro m
  induction m with
  |zero =>
   intro g hg
   rw[List.take_of_length_le (by omega)]
   refine bl.nL _ _ _ g l _ _ (by omega) (FH _ (by rw[List.length_map];omega)) (FH _ (by rw[List.length_map];omega)) ?_
   exact s3 l.aa.length 0 _ (by omega) (by rw[List.length_replicate]) (fun i b hi=>by omega)
  |succ m ih =>
   intro g hg
   have hv:=List.getElem?_eq_getElem (l:=l.ak) (i:=g) (by omega)
   generalize l.ak[g]=v at hv
   have h:=ih (g+1) (by omega)
   rw[ep hv,List.map_append] at h
   exact bl.nK _ _ _ g l v (by omega) hv (by rw[List.length_append,List.length_map,List.length_take,List.length_singleton];omega) (by omega) h
 have s1:∀(m g:Nat),g+m=l.an.length→bl.ar (TO l) ((l.an.take g).map ag.name) g l (bY l).pv:=by
  intro m
  induction m with
  |zero =>
   intro g hg
   rw[List.take_of_length_le (by omega)]
   exact bl.dD _ _ g l (by omega) (s2 l.ak.length 0 (by omega))
  |succ m ih =>
   intro g hg
   have hv:=List.getElem?_eq_getElem (l:=l.an) (i:=g) (by omega)
   generalize l.an[g]=v at hv
   have h:=ih (g+1) (by omega)
   rw[ep hv,List.map_append] at h
   exact bl.dC _ _ g l v (by omega) hv (by rw[List.length_append,List.length_map,List.length_take,List.length_singleton];omega) (by omega) h
 exact s1 l.an.length 0 (by omega)
end BK
end Go.Proofs.YtfjfekodeplcoaaGreat.Sym
namespace Go.Proofs.YtfjfekodeplcoaaGreat.Sym
open Go Path fi
set_option linter.unusedVariables false
def Lr(a b:aW):Bool:=decide (a.neg=b.neg)&&(decide (a.num=b.num)&&decide (a.den=b.den))
theorem sw{a b:aW} : Lr a b=true↔a=b:=by
 obtain⟨n,m,d⟩:=a
 obtain⟨n',m',d'⟩:=b
 unfold Lr
 simp only[Bool.and_eq_true,decide_eq_true_eq,aW.mk.injEq]
theorem zk(a:aW):Lr a a=true:=sw.2 rfl
def zl:List aW→List aW→Bool
 |[],[]=>true
 |a::r,b::s=>Lr a b&&zl r s
 |_,_=>false
theorem uR:∀{p q:List aW},zl p q=true↔p=q
 |[],[]=>by simp[zl]
 |a::r,b::s=>by
  show(Lr a b&&zl r s)=true↔_
  rw[Bool.and_eq_true,sw,uR,List.cons.injEq]
 |[],b::s=>by simp[zl]
 |a::r,[]=>by simp[zl]
theorem Gu(p:List aW):zl p p=true:=uR.2 rfl
theorem FI{p q:List aW}(h:p≠q):zl p q=false:=by
 cases hb:zl p q with
 |true=>exact absurd (uR.1 hb) h
 |false=>rfl
namespace DB
theorem Words(a b:Sym.Words)(hl:a.length<9223372036854775807):Cp 60 [ae a,ae b] (vB (decide (a=b))):=by
 by_cases h:a.length=b.length
 ·have loop:∀(j t:Nat),a.length-t=j→t≤a.length→a.take t=b.take t→dM.ar a b t (vB (decide (a=b))):=by
   intro j
   induction j with
   |zero =>
    intro t hj ht he
    rw[List.take_of_length_le (by omega),List.take_of_length_le (by omega)] at he
    rw[decide_eq_true he]
    exact dM.kM a b t (by omega)
   |succ j ih =>
    intro t hj ht he
    obtain⟨v,hv⟩:∃v,a[t]? = some v:=⟨_,List.getElem?_eq_getElem (by omega)⟩
    obtain⟨w,hw⟩:∃w,b[t]? = some w:=⟨_,List.getElem?_eq_getElem (by omega)⟩
    by_cases h0:v.toNat=w.toNat
    ·exact dM.dD a b t v w (by omega) hv hw h0 (by omega) (ih (t+1) (by omega) (by omega) (by rw[List.take_add_one,List.take_add_one,he,hv,hw,MI h0]))
    ·have iN:a≠b:=by
      intro e;subst e
      rw[hv] at hw;injection hw with hw
      exact h0 (by rw[hw])
     rw[decide_eq_false iN]
     exact dM.dC a b t v w (by omega) hv hw h0
  exact dM.e1 a b h (loop _ 0 rfl (by omega) rfl)
 ·rw[decide_eq_false (fun e=>h (by rw[e]))]
  exact dM.e0 a b h
theorem Rat(a b:aW)(h1:a.num.length<9223372036854775807)(h2:a.den.length<9223372036854775807):Cp 25 [a.pv,b.pv] (vB (Lr a b)):=by
 unfold Lr
 by_cases hn:a.neg=b.neg
 ·rw[decide_eq_true hn,Bool.true_and]
  have w1:=Words a.num b.num h1
  have w2:=Words a.den b.den h2
  cases hw:decide (a.num=b.num) with
  |true=>rw[Bool.true_and];rw[hw] at w1;exact jy.e0 a b _ _ hn w1 rfl w2
  |false=>rw[Bool.false_and];rw[hw] at w1;exact jy.e1 a b _ hn w1 rfl
 ·rw[decide_eq_false hn,Bool.false_and]
  exact jy.e2 a b hn
theorem R0(p q:List aW)(hl:p.length<9223372036854775807)(hf:∀a∈p,a.num.length<9223372036854775807∧a.den.length<9223372036854775807):Cp 21 [jQ p,jQ q] (vB (zl p q)):=by
 by_cases h:p.length=q.length
 ·have loop:∀(j t:Nat),p.length-t=j→t≤p.length→p.take t=q.take t→eh.ar p q t (vB (zl p q)):=by
   intro j
   induction j with
   |zero =>
    intro t hj ht he
    rw[List.take_of_length_le (by omega),List.take_of_length_le (by omega)] at he
    rw[uR.2 he]
    exact eh.kM p q t (by omega)
   |succ j ih =>
    intro t hj ht he
    obtain⟨v,hv⟩:∃v,p[t]? = some v:=⟨_,List.getElem?_eq_getElem (by omega)⟩
    obtain⟨w,hw⟩:∃w,q[t]? = some w:=⟨_,List.getElem?_eq_getElem (by omega)⟩
    have PJ:=hf v (List.mem_of_getElem? hv)
    have hr:=Rat v w PJ.1 PJ.2
    cases h0:Lr v w with
    |true =>
     rw[h0] at hr
     exact eh.dD p q t v w _ (by omega) hv hw hr rfl (by omega) (ih (t+1) (by omega) (by omega) (by rw[List.take_add_one,List.take_add_one,he,hv,hw,sw.1 h0]))
    |false =>
     have iN:p≠q:=by
      intro e;subst e
      rw[hv] at hw;injection hw with hw
      rw[hw,zk] at h0;cases h0
     rw[FI iN]
     rw[h0] at hr
     exact eh.dC p q t v w _ (by omega) hv hw hr rfl
  exact eh.e1 p q h (loop _ 0 rfl (by omega) rfl)
 ·rw[FI (fun e=>h (by rw[e]))]
  exact eh.e0 p q h
theorem Jt(e:Option Int):Cp 17 [di e] (vI (e.getD 0)):=by
 cases e with
 |none=>exact me.e0
 |some n=>exact me.e1 n
end DB
open Go.RowKit
noncomputable def cB(p:Prop):Bool:=@decide p (Classical.propDecidable p)
theorem dZ{p:Prop}(h:p):cB p=true:=@decide_eq_true p (Classical.propDecidable p) h
theorem cK{p:Prop}(h:¬p):cB p=false:=@decide_eq_false p (Classical.propDecidable p) h
theorem pd{α:Type}{xs ys:List α}(hl:xs.length=ys.length){L:Nat→PV→Prop}{F T:PV}
  (ne:∀(c:Nat) v w,c<xs.length→xs[c]? = some v→ys[c]? = some w→v≠w→L c F)
  (eq:∀(c:Nat) v w r,c<xs.length→xs[c]? = some v→ys[c]? = some w→v=w→L (c+1) r→L c r)
  (stop:xs=ys→L xs.length T):(xs=ys→L 0 T)∧(xs≠ys→L 0 F):=by
 have key:∀(n c:Nat),c+n=xs.length→(xs.drop c=ys.drop c→(xs=ys→L xs.length T)→xs=ys→L c T)∧(xs.drop c≠ys.drop c→L c F):=by
  intro n
  induction n with
  |zero =>
   intro c hc
   have e1:xs.drop c=[]:=List.drop_eq_nil_of_le (by omega)
   have e2:ys.drop c=[]:=List.drop_eq_nil_of_le (by omega)
   have:c=xs.length:=by omega
   refine⟨fun _ hs h=>by rw[this];exact hs h,fun h=>absurd (by rw[e1,e2]) h⟩
  |succ n ih =>
   intro c hc
   have h1:c<xs.length:=by omega
   have h2:c<ys.length:=by omega
   have g1:=List.getElem?_eq_getElem h1
   have g2:=List.getElem?_eq_getElem h2
   obtain⟨i1,i2⟩:=ih (c+1) (by omega)
   rw[List.drop_eq_getElem_cons h1,List.drop_eq_getElem_cons h2]
   refine⟨fun h hs hx => ?_,fun h => ?_⟩
   ·injection h with e1 e2
    exact eq c _ _ _ h1 g1 g2 e1 (i1 e2 hs hx)
   ·by_cases e1:xs[c]=ys[c]
    ·refine eq c _ _ _ h1 g1 g2 e1 (i2 (fun e2=>h ?_))
     rw[e1,e2]
    ·exact ne c _ _ h1 g1 g2 e1
 obtain⟨k1,k2⟩:=key xs.length 0 (by omega)
 rw[List.drop_zero,List.drop_zero] at k1 k2
 exact⟨fun h=>k1 h stop h,k2⟩
theorem PK{v w:ag} : ((decide (v.name=w.name))&&((decide (v.kind=w.kind))&&((decide (v.a=w.a))&&((decide (v.bq=w.bq))&&((decide (v.b=w.b))&&((decide (v.fD=w.fD))&&((decide (v.fj=w.fj))&&true)))))))=true↔v=w:=by
 cases v;cases w;simp
theorem PL{v w:af} : ((decide (v.name=w.name))&&((decide (v.body=w.body))&&true))=true↔v=w:=by
 cases v;cases w;simp
theorem sA{b:Bool}{p:Prop}(h:b=true↔p)(hp:¬p):b=false:=by
 cases b with
 |false=>rfl
 |true=>exact absurd (h.1 rfl) hp
structure Ju (l:aj):Prop where
 b:l.aa.length≤40
 j:l.an.length≤60
 d:l.ak.length≤40
 p:∀b∈l.aa,b.points.length≤40
theorem Dh(a b:ab)(ha:a.points.length≤40∧∀m∈a.points,gC m.x∧gC m.y):Cp 49 [a.pv,b.pv] (vB (cB (a=b))):=by
 by_cases hn:a.name=b.name
 ·by_cases hl:a.points.length=b.points.length
  ·refine cC.e2 a b hn hl ?_
   obtain⟨k1,k2⟩:=pd (xs:=a.points) (ys:=b.points) hl (L:=fun c r=>cC.ar c a b r) (F:=vB false) (T:=vB true)
    (fun c v w hc hv hw iN=>by
     obtain⟨fx,fy⟩:=ha.2 v (List.mem_of_getElem? hv)
     have rx:=DB.Rat v.x w.x (by have:=fx.1;omega) (by have:=fx.2;omega)
     have ry:=DB.Rat v.y w.y (by have:=fy.1;omega) (by have:=fy.2;omega)
     by_cases h1:v.name=w.name
     ·by_cases h2:v.x=w.x
      ·have h3:v.y≠w.y:=fun h3=>iN (by cases v;cases w;simp_all)
       exact cC.kM c a b v w _ _ hc hv hw h1 rx (sw.2 h2) ry (sA sw h3)
      ·exact cC.dD c a b v w _ hc hv hw h1 rx (sA sw h2)
     ·exact cC.dC c a b v w hc hv hw h1)
    (fun c v w r hc hv hw he hL=>by
     obtain⟨fx,fy⟩:=ha.2 v (List.mem_of_getElem? hv)
     have rx:=DB.Rat v.x w.x (by have:=fx.1;omega) (by have:=fx.2;omega)
     have ry:=DB.Rat v.y w.y (by have:=fy.1;omega) (by have:=fy.2;omega)
     subst he
     exact cC.An c a b v v _ _ hc hv hw rfl rx (zk _) ry (zk _) (by have:=ha.1;omega) hL)
    (fun _=>cC.OA _ a b (Nat.le_refl _))
   by_cases he:a.points=b.points
   ·rw[dZ (show a=b by cases a;cases b;simp_all)];exact k1 he
   ·rw[cK (fun e=>he (by rw[e]))];exact k2 he
  ·rw[cK (fun e=>hl (by rw[e]))];exact cC.e1 a b hn hl
 ·rw[cK (fun e=>hn (by rw[e]))];exact cC.e0 a b hn
theorem jk(a b:aj)(ha:Ju a)(hf:iM a):Cp 19 [a.pv,b.pv] (vB (cB (a=b))):=by
 have iO:=ha.b
 have VS:=ha.j
 have VT:=ha.d
 by_cases hn:a.name=b.name
 ·by_cases h1:a.aa.length=b.aa.length
  ·by_cases h2:a.an.length=b.an.length
   ·by_cases h3:a.ak.length=b.ak.length
    ·refine bb.e4 a b hn h1 h2 h3 ?_
     obtain⟨d1,d2⟩:=pd (xs:=a.ak) (ys:=b.ak) h3 (L:=fun c r=>bb.cL c a b r) (F:=vB false) (T:=vB true)
      (fun c v w hc hv hw iN=>bb.H3 c a b v w hc hv hw (sA PL iN))
      (fun c v w r hc hv hw he hL=>bb.Gb c a b v w hc hv hw (PL.2 he) (by omega) hL)
      (fun _=>bb.Oy _ a b (Nat.le_refl _))
     obtain⟨j1,j2⟩:=pd (xs:=a.an) (ys:=b.an) h2 (L:=fun c r=>bb.aJ c a b r) (F:=vB false) (T:=vB (cB (a.ak=b.ak)))
      (fun c v w hc hv hw iN=>bb.nK c a b v w hc hv hw (sA PK iN))
      (fun c v w r hc hv hw he hL=>bb.nL c a b v w hc hv hw (PK.2 he) (by omega) hL)
      (fun _=>bb.vv _ a b (Nat.le_refl _) (by
       by_cases e:a.ak=b.ak
       ·rw[dZ e];exact d1 e
       ·rw[cK e];exact d2 e))
     obtain⟨b1,b2⟩:=pd (xs:=a.aa) (ys:=b.aa) h1 (L:=fun c r=>bb.ar c a b r) (F:=vB false) (T:=vB (cB (a.an=b.an∧a.ak=b.ak)))
      (fun c v w hc hv hw iN=>by
       have hm:=List.mem_of_getElem? hv
       exact bb.dC c a b v w _ hc hv hw (Dh v w ⟨ha.p v hm,fun m FW=>((hf.aa v hm).2 m FW).2⟩) (cK iN))
      (fun c v w r hc hv hw he hL=>by
       have hm:=List.mem_of_getElem? hv
       exact bb.dD c a b v w _ hc hv hw (Dh v w ⟨ha.p v hm,fun m FW=>((hf.aa v hm).2 m FW).2⟩) (dZ he) (by omega) hL)
      (fun _=>bb.kM _ a b (Nat.le_refl _) (by
       by_cases e:a.an=b.an
       ·by_cases e2:a.ak=b.ak
        ·rw[dZ ⟨e,e2⟩];have:=j1 e;rwa[dZ e2] at this
        ·rw[cK (fun h=>e2 h.2)];have:=j1 e;rwa[cK e2] at this
       ·rw[cK (fun h=>e h.1)];exact j2 e))
     by_cases e:a.aa=b.aa
     ·by_cases e2:a.an=b.an∧a.ak=b.ak
      ·rw[dZ (show a=b by cases a;cases b;simp_all)];have:=b1 e;rwa[dZ e2] at this
      ·rw[cK (fun h=>e2 (by rw[h];exact⟨rfl,rfl⟩))];have:=b1 e;rwa[cK e2] at this
     ·rw[cK (fun h=>e (by rw[h]))];exact b2 e
    ·rw[cK (fun e=>h3 (by rw[e]))];exact bb.e3 a b hn h1 h2 h3
   ·rw[cK (fun e=>h2 (by rw[e]))];exact bb.e2 a b hn h1 h2
  ·rw[cK (fun e=>h1 (by rw[e]))];exact bb.e1 a b hn h1
 ·rw[cK (fun e=>hn (by rw[e]))];exact bb.e0 a b hn
abbrev jm:aj:=⟨(ByteArray.mk #[]),[],[],[]⟩
theorem Ok.IV{l:aj}(hl:Ok l):Ju l:=⟨by have:=hl.len;omega,by have:=hl.jl;omega,by have:=hl.dl;omega,fun b hb=>by have:=(hl.aa b hb).2.len;omega⟩
theorem kH{l:aj}(hf:iM l):iM (bY l) where
 name:=hf.name
 aa b hb:=by
  obtain⟨c,hc,rfl⟩:=List.mem_map.1 ((kG l.aa).mem_iff.1 hb)
  exact⟨(hf.aa c hc).1,fun m hm=>(hf.aa c hc).2 m (kC.1 hm)⟩
 an j hj:=by
  obtain⟨i,hi,rfl⟩:=List.mem_map.1 (kC.1 hj)
  rw[xn];exact hf.an i hi
 ak d hd:=by
  obtain⟨i,hi,rfl⟩:=List.mem_map.1 (kC.1 hd)
  exact hf.ak i hi
namespace pA
theorem rX{l:aj}(hl:Ok l)(hf:iM l):Cp 28 [l.pv] (.bh [(bY l).pv,.bK]):=by
 have h:=Check l hf
 rw[fG.2 hl] at h
 exact rN.e0 l _ h (norm hl hf)
theorem BO{l:aj}(hf:iM l)(h0:gN l≠0):Cp 28 [l.pv] (.bh [jm.pv,iE (gN l)]):=by
 have h:=Check l hf
 rw[mV h0] at h
 exact rN.e1 l _ h
theorem IW(p q:au)(hp:gC p.x∧gC p.y)(hq:gC q.x∧gC q.y)(vp:p.x.valid=true∧p.y.valid=true)(vq:q.x.valid=true∧q.y.valid=true):Cp 112 [p.pv,q.pv] (vB (cB (p=q))):=by
 have cx:=BL.EC p.x q.x hp.1.r hq.1.r
 have cy:=BL.EC p.y q.y hp.2.r hq.2.r
 have ex:kO p.x.val q.x.val=0↔p.x=q.x:=⟨fun h=>by rw[←vJ vp.1,←vJ vq.1,kd.1 h],fun h=>by rw[h];exact kd.2 rfl⟩
 have ey:kO p.y.val q.y.val=0↔p.y=q.y:=⟨fun h=>by rw[←vJ vp.2,←vJ vq.2,kd.1 h],fun h=>by rw[h];exact kd.2 rfl⟩
 by_cases h1:p.name=q.name
 ·by_cases h2:p.x=q.x
  ·have:cB (p=q)=(kO p.y.val q.y.val==0):=by
    by_cases h3:p.y=q.y
    ·rw[dZ (show p=q by cases p;cases q;simp_all)];rw[ey.2 h3];rfl
    ·rw[cK (fun e=>h3 (by rw[e]))]
     have:kO p.y.val q.y.val≠0:=fun e=>h3 (ey.1 e)
     simp[this]
   rw[this]
   exact lF.e0 p q _ _ h1 cx (ex.2 h2) cy
  ·rw[cK (fun e=>h2 (by rw[e]))]
   exact lF.e1 p q _ h1 cx (fun e=>h2 (ex.1 e))
 ·rw[cK (fun e=>h1 (by rw[e]))]
  exact lF.e2 p q h1
def O5(b:ab):Prop:=b.points.length≤8∧∀m∈b.points,(gC m.x∧gC m.y)∧m.x.valid=true∧m.y.valid=true
theorem KJ(s1 s2:List au)(U3:s1.length≤8)(h1:∀m∈s1,(gC m.x∧gC m.y)∧m.x.valid=true∧m.y.valid=true)(h2:∀m∈s2,(gC m.x∧gC m.y)∧m.x.valid=true∧m.y.valid=true) :
  Cp 111 [aZ au.cells s1,aZ au.cells s2,(.fn 112)] (vB (cB (s1=s2))):=by
 by_cases hl:s1.length=s2.length
 ·refine cV.e1 s1 s2 hl ?_
  obtain⟨k1,k2⟩:=pd (xs:=s1) (ys:=s2) hl (L:=fun c r=>cV.ar s2 s1 c r) (F:=vB false) (T:=vB true)
   (fun c v w hc hv hw iN=>by
    obtain⟨a1,a2⟩:=h1 v (List.mem_of_getElem? hv)
    obtain⟨b1,b2⟩:=h2 w (List.mem_of_getElem? hw)
    exact cV.dC s2 s1 c v w _ hc hv hw (IW v w a1 b1 a2 b2) (cK iN))
   (fun c v w r hc hv hw he hL=>by
    obtain⟨a1,a2⟩:=h1 v (List.mem_of_getElem? hv)
    obtain⟨b1,b2⟩:=h2 w (List.mem_of_getElem? hw)
    exact cV.dD s2 s1 c v w _ hc hv hw (IW v w a1 b1 a2 b2) (dZ he) (by omega) hL)
   (fun _=>cV.kM s2 s1 _ (Nat.le_refl _))
  by_cases he:s1=s2
  ·rw[dZ he];exact k1 he
  ·rw[cK he];exact k2 he
 ·rw[cK (fun e=>hl (by rw[e]))];exact cV.e0 s1 s2 hl
theorem equal(a b:ab)(ha:O5 a)(hb:O5 b):Cp 66 [a.pv,b.pv] (vB (cB (a=b))):=by
 by_cases hn:a.name=b.name
 ·have:=KJ a.points b.points ha.1 ha.2 hb.2
  have e:cB (a=b)=cB (a.points=b.points):=by
   by_cases he:a.points=b.points
   ·rw[dZ he,dZ (show a=b by cases a;cases b;simp_all)]
   ·rw[cK he,cK (fun e=>he (by rw[e]))]
  rw[e]
  exact qL.e0 a b _ hn this
 ·rw[cK (fun e=>hn (by rw[e]))];exact qL.e1 a b hn
theorem IX(s1 s2:List ab)(U3:s1.length≤8)(h1:∀b∈s1,O5 b)(h2:∀b∈s2,O5 b) :
  Cp 65 [aZ ab.cells s1,aZ ab.cells s2,(.fn 66)] (vB (cB (s1=s2))):=by
 by_cases hl:s1.length=s2.length
 ·refine cU.e1 s1 s2 hl ?_
  obtain⟨k1,k2⟩:=pd (xs:=s1) (ys:=s2) hl (L:=fun c r=>cU.ar s2 s1 c r) (F:=vB false) (T:=vB true)
   (fun c v w hc hv hw iN=>cU.dC s2 s1 c v w _ hc hv hw (equal v w (h1 v (List.mem_of_getElem? hv)) (h2 w (List.mem_of_getElem? hw))) (cK iN))
   (fun c v w r hc hv hw he hL=>cU.dD s2 s1 c v w _ hc hv hw (equal v w (h1 v (List.mem_of_getElem? hv)) (h2 w (List.mem_of_getElem? hw))) (dZ he) (by omega) hL)
   (fun _=>cU.kM s2 s1 _ (Nat.le_refl _))
  by_cases he:s1=s2
  ·rw[dZ he];exact k1 he
  ·rw[cK he];exact k2 he
 ·rw[cK (fun e=>hl (by rw[e]))];exact cU.e0 s1 s2 hl
theorem IY(s1 s2:List ag)(gu:s1.length≤16):Cp 67 [aZ ag.cells s1,aZ ag.cells s2] (vB (cB (s1=s2))):=by
 by_cases hl:s1.length=s2.length
 ·refine dO.e1 s1 s2 hl ?_
  obtain⟨k1,k2⟩:=pd (xs:=s1) (ys:=s2) hl (L:=fun c r=>dO.ar s1 s2 c r) (F:=vB false) (T:=vB true)
   (fun c v w hc hv hw iN=>dO.dC s1 s2 c v w hc hv hw (sA PK iN))
   (fun c v w r hc hv hw he hL=>dO.dD s1 s2 c v w hc hv hw (PK.2 he) (by omega) hL)
   (fun _=>dO.kM s1 s2 _ (Nat.le_refl _))
  by_cases he:s1=s2
  ·rw[dZ he];exact k1 he
  ·rw[cK he];exact k2 he
 ·rw[cK (fun e=>hl (by rw[e]))];exact dO.e0 s1 s2 hl
theorem Gv(s1 s2:List af)(gu:s1.length≤16):Cp 68 [aZ af.cells s1,aZ af.cells s2] (vB (cB (s1=s2))):=by
 by_cases hl:s1.length=s2.length
 ·refine dp.e1 s1 s2 hl ?_
  obtain⟨k1,k2⟩:=pd (xs:=s1) (ys:=s2) hl (L:=fun c r=>dp.ar s1 s2 c r) (F:=vB false) (T:=vB true)
   (fun c v w hc hv hw iN=>dp.dC s1 s2 c v w hc hv hw (sA PL iN))
   (fun c v w r hc hv hw he hL=>dp.dD s1 s2 c v w hc hv hw (PL.2 he) (by omega) hL)
   (fun _=>dp.kM s1 s2 _ (Nat.le_refl _))
  by_cases he:s1=s2
  ·rw[dZ he];exact k1 he
  ·rw[cK he];exact k2 he
 ·rw[cK (fun e=>hl (by rw[e]))];exact dp.e0 s1 s2 hl
theorem okB{l:aj}(hl:Ok l)(hf:iM l){b:ab}(hb:b∈l.aa):O5 b :=
 ⟨(hl.aa b hb).2.len,fun m hm=>⟨((hf.aa b hb).2 m hm).2,((hl.aa b hb).2.all m hm).2⟩⟩
theorem Gw{a b:aj}(ha:Ok a)(hb:Ok b)(fa:iM a)(fb:iM b):Cp 29 [a.pv,b.pv] (.bh [vB (cB (bY a=bY b)),.bK]):=by
 have na:=rX ha fa
 have PM:=rX hb fb
 have oa:=ha.norm
 have ob:=hb.norm
 have hB:=IX (bY a).aa (bY b).aa oa.len (fun x hx=>okB oa (kH fa) hx) (fun x hx=>okB ob (kH fb) hx)
 have hJ:=IY (bY a).an (bY b).an oa.jl
 have hD:=Gv (bY a).ak (bY b).ak (by have:=oa.dl;omega)
 generalize bY a=x at *
 generalize bY b=y at *
 by_cases hn:x.name=y.name
 ·by_cases h1:x.aa=y.aa
  ·by_cases h2:x.an=y.an
   ·have e:cB (x=y)=cB (x.ak=y.ak):=by
     by_cases he:x.ak=y.ak
     ·rw[dZ he,dZ (show x=y by cases x;cases y;simp_all)]
     ·rw[cK he,cK (fun e=>he (by rw[e]))]
    rw[e]
    exact je.e0 a b x y _ _ _ na PM hn hB (dZ h1) hJ (dZ h2) hD
   ·rw[cK (fun e=>h2 (by rw[e]))]
    exact je.e1 a b x y _ _ na PM hn hB (dZ h1) hJ (cK h2)
  ·rw[cK (fun e=>h1 (by rw[e]))]
   exact je.e2 a b x y _ na PM hn hB (cK h1)
 ·rw[cK (fun e=>hn (by rw[e]))]
  exact je.e3 a b x y na PM hn
theorem IZ{a b:aj}(ha:Ok a)(fa:iM a)(fb:iM b)(h0:gN b≠0):Cp 29 [a.pv,b.pv] (.bh [vB false,iE (gN b)]) :=
 je.e4 a b _ jm _ (rX ha fa) (BO fb h0)
theorem I2{a b:aj}(fa:iM a)(h0:gN a≠0):Cp 29 [a.pv,b.pv] (.bh [vB false,iE (gN a)]) :=
 je.e5 a b jm _ (BO fa h0)
end pA
theorem BK.Gw{a b:aj}(ha:Ok a)(hb:Ok b)(fa:iM a):Cp 31 [a.pv,b.pv] (vB (cB (bY a=bY b))) :=
 oq.e0 a b _ _ _ (BK.Norm ha) (BK.Norm hb) (jk _ _ ha.norm.IV (kH fa))
end Go.Proofs.YtfjfekodeplcoaaGreat.Sym
