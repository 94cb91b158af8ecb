/- Lemmas for the statements of this seat. -/
import Derived.Test.YtfjfekodeplcoaaGreatG3
import Derived.Test.YtfjfekodeplcoaaGreatG4
import Derived.Test.YtfjfekodeplcoaaGreatP5
import Derived.Test.YtfjfekodeplcoaaGreatG0
import Derived.Test.YtfjfekodeplcoaaGreatT0
noncomputable section
namespace Go.Proofs.YtfjfekodeplcoaaGreat.Sym
open Go Path fB
set_option linter.unusedVariables false
theorem dR{α:Type}{xs:List α}{c g:Nat}{w:α}(h:(xs.take c)[g]? = some w):xs[g]? = some w∧g<c:=by
 rw[List.getElem?_take] at h
 split at h
 ·rename_i h1;exact⟨h,h1⟩
 ·cases h
namespace HA
theorem index(i n:Int):Cp 86 [vI i,vI n] (vB (fF.JA i n)):=by
 by_cases h:0≤i
 ·rw[show fF.JA i n=decide (i<n) by unfold fF.JA;rw[Bool.eq_iff_iff,decide_eq_true_iff,decide_eq_true_iff];omega]
  exact jY.e0 i n h
 ·rw[show fF.JA i n=false from decide_eq_false (by omega)]
  exact jY.e1 i n (by omega)
theorem points(b:ah)(hf:∀m∈b.points,m.name.size<9223372036854775808∧fi m.x∧fi m.y):Cp 85 [b.pv] (vI (jQ b.points)):=by
 unfold jQ
 by_cases h8:8<b.points.length
 ·rw[if_pos h8];exact bI.e0 b h8
 ·rw[if_neg h8]
  refine bI.e1 b (by omega) ?_
  rw[←Ta]
  refine jR (L:=fun c r=>bI.au c b r) (R:=fun e=>vI e) (r0:=vI 0) (fun c r hc hn => ?_) b.points.length 0 (by omega) (fun h0=>bI.nr b.points.length b (Nat.le_refl _))
  have vm:=List.getElem?_eq_getElem hc
  generalize b.points[c]=v1 at vm
  obtain⟨f1,f2,f3⟩:=hf v1 (List.mem_of_getElem? vm)
  have e:Bo b.points c=if dQ v1.name=false then 5 else if (b.points.take c).any (fun x=>decide (x.name=v1.name))=true then 6 else if v1.x.valid=true∧v1.y.valid=true then 0 else 3:=by unfold Bo;rw[vm]
  rw[e] at hn ⊢
  by_cases h1:dQ v1.name=false
  ·rw[if_pos h1]
   exact bI.eo c b v1 _ hc vm (Name _ f1) h1
  ·rw[if_neg h1] at hn ⊢
   refine bI.ew c b v1 _ hc vm (Name _ f1) (by simpa using h1) ?_
   have cQ:(b.points.take c).length=c:=by rw[List.length_take];omega
   have key:=jA (p:=fun x=>decide (x.name=v1.name)) (xs:=b.points.take c) (L:=fun g r=>bI.aM c g b v1 r) (A:=vI 6) (B:=if (if v1.x.valid=true∧v1.y.valid=true then (0:Int) else 3)=0 then r else vI (if v1.x.valid=true∧v1.y.valid=true then 0 else 3))
    (fun g w hg hw hp=>bI.mX c g b v1 w (dR hw).2 (dR hw).1 (of_decide_eq_true hp))
    (fun g w r hg hw hp hL=>bI.mY c g b v1 w (dR hw).2 (dR hw).1 (of_decide_eq_false hp) (by omega) hL)
    (fun s7 => ?_)
   ·by_cases ha:(b.points.take c).any (fun x=>decide (x.name=v1.name))=true
    ·rw[if_pos ha] at key ⊢
     exact key
    ·rw[if_neg ha] at key ⊢
     exact key
   ·rw[if_neg (by rw[s7];simp)] at hn
    rw[cQ]
    by_cases hx:v1.x.valid=true
    ·by_cases hy:v1.y.valid=true
     ·have ev:(if v1.x.valid=true∧v1.y.valid=true then (0:Int) else 3)=0:=if_pos ⟨hx,hy⟩
      rw[if_pos ev]
      exact bI.OL c c b v1 _ _ (Nat.le_refl _) (yi.Valid _ f2.r) hx (yi.Valid _ f3.r) hy (by omega) (hn ev)
     ·have ev:(if v1.x.valid=true∧v1.y.valid=true then (0:Int) else 3)=3:=if_neg (fun h=>hy h.2)
      rw[ev,if_neg (by decide)]
      exact bI.IS c c b v1 _ _ (Nat.le_refl _) (yi.Valid _ f2.r) hx (yi.Valid _ f3.r) (by simpa using hy)
    ·have ev:(if v1.x.valid=true∧v1.y.valid=true then (0:Int) else 3)=3:=if_neg (fun h=>hx h.1)
     rw[ev,if_neg (by decide)]
     exact bI.xR c c b v1 _ (Nat.le_refl _) (yi.Valid _ f2.r) (by simpa using hx)
theorem ab(l:aj)(hf:lM l)(hlen:l.ab.length<9223372036854775808):Cp 40 [l.pv] (vI (nE l.ab)):=by
 refine bX.e0 l ?_
 unfold nE
 rw[←Ta]
 refine jR (L:=fun i r=>bX.au i l r) (R:=fun e=>vI e) (r0:=vI 0) (fun i r hi hn => ?_) l.ab.length 0 (by omega) (fun _=>bX.nr l.ab.length l (Nat.le_refl _))
 have hv:=List.getElem?_eq_getElem hi
 generalize l.ab[i]=v at hv
 have rl:=hf.ab v (List.mem_of_getElem? hv)
 have e:Bp l.ab i=if dQ v.name=false then 5 else if (l.ab.take i).any (fun x=>decide (x.name=v.name))=true then 6 else jQ v.points:=by unfold Bp;rw[hv]
 rw[e] at hn ⊢
 by_cases h1:dQ v.name=false
 ·rw[if_pos h1]
  exact bX.eo i l v _ hi hv (Name _ rl.1) h1
 ·rw[if_neg h1] at hn ⊢
  refine bX.ew i l v _ hi hv (Name _ rl.1) (by simpa using h1) ?_
  have cQ:(l.ab.take i).length=i:=by rw[List.length_take];omega
  have key:=jA (p:=fun x=>decide (x.name=v.name)) (xs:=l.ab.take i) (L:=fun g r=>bX.aM i g l r) (A:=vI 6) (B:=if jQ v.points=0 then r else vI (jQ v.points))
   (fun g w hg hw hp=>bX.mX i g l w v (dR hw).2 (dR hw).1 hv (of_decide_eq_true hp))
   (fun g w r hg hw hp hL=>bX.mY i g l w v (dR hw).2 (dR hw).1 hv (of_decide_eq_false hp) (by omega) hL)
   (fun s7 => ?_)
  ·by_cases ha:(l.ab.take i).any (fun x=>decide (x.name=v.name))=true
   ·rw[if_pos ha] at key ⊢
    exact key
   ·rw[if_neg ha] at key ⊢
    exact key
  ·rw[if_neg (by rw[s7];simp)] at hn
   rw[cQ]
   have hp:=points v rl.2
   by_cases h0:jQ v.points=0
   ·rw[if_pos h0]
    exact bX.IS i i l v _ (Nat.le_refl _) hv hp h0 (by omega) (hn h0)
   ·rw[if_neg h0]
    exact bX.xR i i l v _ (Nat.le_refl _) hv hp h0
theorem same(p q:ai)(hp:fi p.x∧fi p.y)(hq:fi q.x∧fi q.y):Cp 87 [p.pv,q.pv] (vB (decide (iM p.x.val q.x.val=0∧iM p.y.val q.y.val=0))):=by
 have h1:=yi.Hd p.x q.x (by have:=hp.1;unfold fi at this;omega) (by have:=hq.1;unfold fi at this;omega)
 have h2:=yi.Hd p.y q.y (by have:=hp.2;unfold fi at this;omega) (by have:=hq.2;unfold fi at this;omega)
 by_cases h:iM p.x.val q.x.val=0
 ·rw[show decide (iM p.x.val q.x.val=0∧iM p.y.val q.y.val=0)=(iM p.y.val q.y.val==0) by rw[Bool.eq_iff_iff,decide_eq_true_iff,beq_iff_eq];simp[h]]
  exact kr.e0 p q _ _ h1 h h2
 ·rw[show decide (iM p.x.val q.x.val=0∧iM p.y.val q.y.val=0)=false from decide_eq_false (fun e=>h e.1)]
  exact kr.e1 p q _ h1 h
open fF (dh dF)
theorem Oc(l:aj)(hf:lM l)(i:Nat)(j:ak):aX.au (i:Int) i l j (vI (jE l j)):=by
 unfold jE
 by_cases h0:j.kind=0
 ·rw[if_neg (by omega)]
  cases hA:nth l.ab j.a with
  |none=>exact aX.SB (i:Int) i l j _ (Int.le_refl _) h0 (index _ _) (dF hA)
  |some A =>
   have iA:=dh hA
   obtain⟨kA,eA,gA⟩:=dg hA
   cases hB:nth l.ab j.b with
   |none=>exact aX.SD (i:Int) i l j _ _ (Int.le_refl _) h0 (index _ _) iA (index _ _) (dF hB)
   |some B =>
    have iB:=dh hB
    obtain⟨kB,eB,gB⟩:=dg hB
    dsimp only
    by_cases lE:j.a=j.b
    ·rw[if_pos lE];exact aX.SE (i:Int) i l j _ _ (Int.le_refl _) h0 (index _ _) iA (index _ _) iB lE
    rw[if_neg lE]
    cases hP:nth A.points j.dx with
    |none=>exact aX.SF (i:Int) i l j _ _ _ _ _ _ _ (Int.le_refl _) h0 (index _ _) iA (index _ _) iB lE eA gA eB gB (index _ _) (dF hP)
    |some P =>
     have iP:=dh hP
     cases hQ:nth B.points j.ou with
     |none=>exact aX.SG (i:Int) i l j _ _ _ _ _ _ _ _ (Int.le_refl _) h0 (index _ _) iA (index _ _) iB lE eA gA eB gB (index _ _) iP (index _ _) (dF hQ)
     |some Q =>
      have iQ:=dh hQ
      dsimp only
      rw[if_pos h0]
      by_cases ht:j.mR=0
      ·rw[if_neg (by omega)];exact aX.SI (i:Int) i l j _ _ _ _ _ _ _ _ (Int.le_refl _) h0 (index _ _) iA (index _ _) iB lE eA gA eB gB (index _ _) iP (index _ _) iQ ht
      ·rw[if_pos ht];exact aX.SH (i:Int) i l j _ _ _ _ _ _ _ _ (Int.le_refl _) h0 (index _ _) iA (index _ _) iB lE eA gA eB gB (index _ _) iP (index _ _) iQ ht
 ·by_cases h1:j.kind=1
  ·rw[if_neg (by omega)]
   cases hA:nth l.ab j.a with
   |none=>exact aX.Bf (i:Int) i l j _ (Int.le_refl _) h0 h1 (index _ _) (dF hA)
   |some A =>
    have iA:=dh hA
    obtain⟨kA,eA,gA⟩:=dg hA
    cases hB:nth l.ab j.b with
    |none=>exact aX.PS (i:Int) i l j _ _ (Int.le_refl _) h0 h1 (index _ _) iA (index _ _) (dF hB)
    |some B =>
     have iB:=dh hB
     obtain⟨kB,eB,gB⟩:=dg hB
     dsimp only
     by_cases lE:j.a=j.b
     ·rw[if_pos lE];exact aX.V1 (i:Int) i l j _ _ (Int.le_refl _) h0 h1 (index _ _) iA (index _ _) iB lE
     rw[if_neg lE]
     cases hP:nth A.points j.dx with
     |none=>exact aX.V2 (i:Int) i l j _ _ _ _ _ _ _ (Int.le_refl _) h0 h1 (index _ _) iA (index _ _) iB lE eA gA eB gB (index _ _) (dF hP)
     |some P =>
      have iP:=dh hP
      cases hQ:nth B.points j.ou with
      |none=>exact aX.V3 (i:Int) i l j _ _ _ _ _ _ _ _ (Int.le_refl _) h0 h1 (index _ _) iA (index _ _) iB lE eA gA eB gB (index _ _) iP (index _ _) (dF hQ)
      |some Q =>
       have iQ:=dh hQ
       dsimp only
       rw[if_neg h0]
       obtain⟨kQ,eQ,gQ⟩:=dg hQ
       cases hR:nth B.points j.mR with
       |none=>exact aX.Sx (i:Int) i l j _ _ _ _ _ _ _ _ _ (Int.le_refl _) h0 h1 (index _ _) iA (index _ _) iB lE eA gA eB gB (index _ _) iP (index _ _) iQ (index _ _) (dF hR)
       |some R =>
        have iR:=dh hR
        obtain⟨kR,eR,gR⟩:=dg hR
        dsimp only
        have fQ:=(hf.ab B (pc hB)).2 Q (pc hQ)
        have fR:=(hf.ab B (pc hB)).2 R (pc hR)
        have hs:=same Q R fQ.2 fR.2
        by_cases hx:iM Q.x.val R.x.val=0∧iM Q.y.val R.y.val=0
        ·rw[if_pos hx];exact aX.Sy (i:Int) i l j _ _ _ _ _ _ _ _ _ _ _ _ _ _ (Int.le_refl _) h0 h1 (index _ _) iA (index _ _) iB lE eA gA eB gB (index _ _) iP (index _ _) iQ (index _ _) iR eQ gQ eR gR hs (decide_eq_true hx)
        ·rw[if_neg hx];exact aX.SA (i:Int) i l j _ _ _ _ _ _ _ _ _ _ _ _ _ _ (Int.le_refl _) h0 h1 (index _ _) iA (index _ _) iB lE eA gA eB gB (index _ _) iP (index _ _) iQ (index _ _) iR eQ gQ eR gR hs (decide_eq_false hx)
  ·rw[if_pos ⟨h0,h1⟩];exact aX.nr (i:Int) i l j (Int.le_refl _) h0 h1
theorem JB(l:aj)(hf:lM l)(i:Nat)(hlen:l.aq.length<9223372036854775808)(hi:i<l.aq.length):Cp 41 [l.pv,vI (i:Int)] (vI (pC l i)):=by
 have hv:=List.getElem?_eq_getElem hi
 generalize l.aq[i]=v at hv
 have rl:=hf.aq v (List.mem_of_getElem? hv)
 have e:pC l i=if dQ v.name=false then 5 else if (l.aq.take i).any (fun x=>decide (x.name=v.name))=true then 6 else jE l v:=by unfold pC;rw[hv]
 rw[e]
 by_cases h1:dQ v.name=false
 ·rw[if_pos h1]
  exact aX.e0 l i i v _ rfl hv (Name _ rl) h1
 ·rw[if_neg h1]
  refine aX.e1 l i i v _ rfl hv (Name _ rl) (by simpa using h1) ?_
  have cQ:(l.aq.take i).length=i:=by rw[List.length_take];omega
  have key:=jA (p:=fun x=>decide (x.name=v.name)) (xs:=l.aq.take i) (L:=fun g r=>aX.au i g l v r) (A:=vI 6) (B:=vI (jE l v))
   (fun g w hg hw hp=>aX.eo i g l v w (by have:=(dR hw).2;omega) (dR hw).1 (of_decide_eq_true hp))
   (fun g w r hg hw hp hL=>aX.ew i g l v w (by have:=(dR hw).2;omega) (dR hw).1 (of_decide_eq_false hp) (by omega) hL)
   (fun s7=>by rw[cQ];exact Oc l hf i v)
  by_cases ha:(l.aq.take i).any (fun x=>decide (x.name=v.name))=true
  ·rw[if_pos ha] at key ⊢
   exact key
  ·rw[if_neg ha] at key ⊢
   exact key
theorem Od(l:aj)(hf:lM l)(i:Nat)(hlen:l.an.length<9223372036854775808)(hi:i<l.an.length):Cp 42 [l.pv,vI (i:Int)] (vI (nG l i)):=by
 have hv:=List.getElem?_eq_getElem hi
 generalize l.an[i]=v at hv
 have rl:=hf.an v (List.mem_of_getElem? hv)
 have e:nG l i=if dQ v.name=false then 5 else if (l.an.take i).any (fun x=>decide (x.name=v.name))=true then 6 else dE l i v:=by unfold nG;rw[hv]
 rw[e]
 by_cases h1:dQ v.name=false
 ·rw[if_pos h1]
  exact bJ.e0 l i i v _ rfl hv (Name _ rl) h1
 ·rw[if_neg h1]
  refine bJ.e1 l i i v _ rfl hv (Name _ rl) (by simpa using h1) ?_
  have cQ:(l.an.take i).length=i:=by rw[List.length_take];omega
  have key:=jA (p:=fun x=>decide (x.name=v.name)) (xs:=l.an.take i) (L:=fun g r=>bJ.au i g l v r) (A:=vI 6) (B:=vI (dE l i v))
   (fun g w hg hw hp=>bJ.eo i g l v w (by have:=(dR hw).2;omega) (dR hw).1 (of_decide_eq_true hp))
   (fun g w r hg hw hp hL=>bJ.ew i g l v w (by have:=(dR hw).2;omega) (dR hw).1 (of_decide_eq_false hp) (by omega) hL)
   (fun s7 => ?_)
  ·by_cases ha:(l.an.take i).any (fun x=>decide (x.name=v.name))=true
   ·rw[if_pos ha] at key ⊢
    exact key
   ·rw[if_neg ha] at key ⊢
    exact key
  ·rw[cQ]
   unfold dE
   cases hb:nth l.ab v.body with
   |none=>exact bJ.nr i i l v _ (Int.le_refl _) (index _ _) (dF hb)
   |some b =>
    dsimp only
    by_cases h0:v.body=0
    ·rw[if_pos h0]
     exact bJ.Bf i i l v _ (Int.le_refl _) (index _ _) (dh hb) h0
    ·rw[if_neg h0]
     refine bJ.PS i i l v _ (Int.le_refl _) (index _ _) (dh hb) h0 ?_
     have key:=jA (p:=fun x=>decide (x.body=v.body)) (xs:=l.an.take i) (L:=fun g r=>bJ.aM i g l v r) (A:=vI 6) (B:=vI 0)
      (fun g w hg hw hp=>bJ.mX i g l v w (by have:=(dR hw).2;omega) (dR hw).1 (of_decide_eq_true hp))
      (fun g w r hg hw hp hL=>bJ.mY i g l v w (by have:=(dR hw).2;omega) (dR hw).1 (of_decide_eq_false hp) (by omega) hL)
      (fun s7=>bJ.xR i _ l v (by omega))
     by_cases hc:(l.an.take i).any (fun x=>decide (x.body=v.body))=true
     ·rw[if_pos hc] at key ⊢
      exact key
     ·rw[if_neg hc] at key ⊢
      exact key
theorem Check(l:aj)(hf:lM l):Cp 14 [l.pv] (vI (sZ l)):=by
 unfold sZ
 have hN:=Name _ hf.name
 by_cases h1:dQ l.name=false
 ·rw[if_pos h1];exact bw.e0 l _ hN h1
 ·rw[if_neg h1]
  have h1:dQ l.name=true:=by simpa using h1
  by_cases h2:l.ab.length=0
  ·rw[if_pos h2];exact bw.e1 l _ hN h1 h2
  ·rw[if_neg h2]
   by_cases h3:8<l.ab.length
   ·rw[if_pos h3];exact bw.e2 l _ hN h1 h2 h3
   ·rw[if_neg h3]
    have hB:=ab l hf (by omega)
    by_cases h4:nE l.ab=0
    ·rw[if_neg (by omega)]
     unfold pd
     by_cases fP:16<l.aq.length
     ·rw[if_pos fP,if_pos (by decide)]
      exact bw.e4 l _ _ hN h1 h2 (by omega) hB h4 fP
     ·rw[if_neg fP]
      refine bw.e5 l _ _ hN h1 h2 (by omega) hB h4 (by omega) ?_
      have key:=jR (f:=pC l) (len:=l.aq.length) (L:=fun i r=>bw.au i l r) (R:=fun e=>vI e) (r0:=vI (oi l)) (fun i r hi hn => ?_) l.aq.length 0 (by omega) (fun h0 => ?_)
      ·by_cases h0:scan (pC l) l.aq.length 0=0
       ·rw[if_pos h0] at key
        rw[if_neg (by omega)]
        exact key
       ·rw[if_neg h0] at key
        rw[if_pos h0]
        exact key
      ·have hj:=JB l hf i (by omega) hi
       by_cases h0:pC l i=0
       ·rw[if_pos h0]
        exact bw.ew i l _ hi hj h0 (by omega) (hn h0)
       ·rw[if_neg h0]
        exact bw.eo i l _ hi hj h0
      ·unfold oi
       by_cases hd:2<l.an.length
       ·rw[if_pos hd]
        exact bw.nr _ l (Nat.le_refl _) hd
       ·rw[if_neg hd]
        refine bw.Bf _ l (Nat.le_refl _) (by omega) ?_
        rw[←Ta]
        refine jR (f:=nG l) (len:=l.an.length) (L:=fun i r=>bw.aM i l r) (R:=fun e=>vI e) (r0:=vI 0) (fun i r hi hn => ?_) l.an.length 0 (by omega) (fun _=>bw.xR _ l (Nat.le_refl _))
        have hj:=Od l hf i (by omega) hi
        by_cases h0:nG l i=0
        ·rw[if_pos h0]
         exact bw.mY i l _ hi hj h0 (by omega) (hn h0)
        ·rw[if_neg h0]
         exact bw.mX i l _ hi hj h0
    ·rw[if_pos h4]
     exact bw.e3 l _ _ hN h1 h2 (by omega) hB h4
end HA
theorem D5{q:Rat}{k:Nat}(h:ht q≤k):(gN q).num.length≤k∧(gN q).den.length≤k:=by
 by_cases h0:q=0
 ·subst h0;constructor<;>simp[sh]
 ·rw[pB h0]
  exact⟨Nat.le_trans (gn q) h,Nat.le_trans (ir q) h⟩
def Mj(a b:aK):Bool:=decide (a.neg=b.neg)&&(decide (a.num=b.num)&&decide (a.den=b.den))
theorem sO{a b:aK} : Mj a b=true↔a=b:=by
 obtain⟨n,m,d⟩:=a
 obtain⟨n',m',d'⟩:=b
 unfold Mj
 simp only[Bool.and_eq_true,decide_eq_true_eq,aK.mk.injEq]
theorem vv(a:aK):Mj a a=true:=sO.2 rfl
def Al:List aK→List aK→Bool
 |[],[]=>true
 |a::r,b::s=>Mj a b&&Al r s
 |_,_=>false
theorem vw:∀{p q:List aK},Al p q=true↔p=q
 |[],[]=>by simp[Al]
 |a::r,b::s=>by
  show(Mj a b&&Al r s)=true↔_
  rw[Bool.and_eq_true,sO,vw,List.cons.injEq]
 |[],b::s=>by simp[Al]
 |a::r,[]=>by simp[Al]
theorem Bw(p:List aK):Al p p=true:=vw.2 rfl
theorem Gx{p q:List aK}(h:p≠q):Al p q=false:=by
 cases hb:Al p q with
 |true=>exact absurd (vw.1 hb) h
 |false=>rfl
namespace vC
theorem Words(a b:Sym.Words)(hl:a.length<9223372036854775807):Cp 60 [aa a,aa b] (vB (decide (a=b))):=by
 by_cases h:a.length=b.length
 ·have loop:∀(j t:Nat),a.length-t=j→t≤a.length→a.take t=b.take t→dK.au a b t (vB (decide (a=b))):=by
   intro j
   induction j with
   |zero =>
    intro t hj ht he
    rw[List.take_of_length_le (by omega),List.take_of_length_le (by omega)] at he
    rw[decide_eq_true he]
    exact dK.nr a b t (by omega)
   |succ j ih =>
    intro t hj ht he
    obtain⟨v,hv⟩:∃v,a[t]? = some v:=⟨_,List.getElem?_eq_getElem (by omega)⟩
    obtain⟨w,hw⟩:∃w,b[t]? = some w:=⟨_,List.getElem?_eq_getElem (by omega)⟩
    by_cases h0:v.toNat=w.toNat
    ·exact dK.ew a b t v w (by omega) hv hw h0 (by omega) (ih (t+1) (by omega) (by omega) (by rw[List.take_add_one,List.take_add_one,he,hv,hw,NT h0]))
    ·have iO:a≠b:=by
      intro e;subst e
      rw[hv] at hw;injection hw with hw
      exact h0 (by rw[hw])
     rw[decide_eq_false iO]
     exact dK.eo a b t v w (by omega) hv hw h0
  exact dK.e1 a b h (loop _ 0 rfl (by omega) rfl)
 ·rw[decide_eq_false (fun e=>h (by rw[e]))]
  exact dK.e0 a b h
theorem Rat(a b:aK)(h1:a.num.length<9223372036854775807)(h2:a.den.length<9223372036854775807):Cp 25 [a.pv,b.pv] (vB (Mj a b)):=by
 unfold Mj
 by_cases hn:a.neg=b.neg
 ·rw[decide_eq_true hn,Bool.true_and]
  have w1:=Words a.num b.num h1
  have w2:=Words a.den b.den h2
  cases hw:decide (a.num=b.num) with
  |true=>rw[Bool.true_and];rw[hw] at w1;exact jL.e0 a b _ _ hn w1 rfl w2
  |false=>rw[Bool.false_and];rw[hw] at w1;exact jL.e1 a b _ hn w1 rfl
 ·rw[decide_eq_false hn,Bool.false_and]
  exact jL.e2 a b hn
theorem Qp(p q:List aK)(hl:p.length<9223372036854775807)(hf:∀a∈p,a.num.length<9223372036854775807∧a.den.length<9223372036854775807):Cp 21 [bD p,bD q] (vB (Al p q)):=by
 by_cases h:p.length=q.length
 ·have loop:∀(j t:Nat),p.length-t=j→t≤p.length→p.take t=q.take t→ec.au p q t (vB (Al p q)):=by
   intro j
   induction j with
   |zero =>
    intro t hj ht he
    rw[List.take_of_length_le (by omega),List.take_of_length_le (by omega)] at he
    rw[vw.2 he]
    exact ec.nr p q t (by omega)
   |succ j ih =>
    intro t hj ht he
    obtain⟨v,hv⟩:∃v,p[t]? = some v:=⟨_,List.getElem?_eq_getElem (by omega)⟩
    obtain⟨w,hw⟩:∃w,q[t]? = some w:=⟨_,List.getElem?_eq_getElem (by omega)⟩
    have Ho:=hf v (List.mem_of_getElem? hv)
    have hr:=Rat v w Ho.1 Ho.2
    cases h0:Mj v w with
    |true =>
     rw[h0] at hr
     exact ec.ew p q t v w _ (by omega) hv hw hr rfl (by omega) (ih (t+1) (by omega) (by omega) (by rw[List.take_add_one,List.take_add_one,he,hv,hw,sO.1 h0]))
    |false =>
     have iO:p≠q:=by
      intro e;subst e
      rw[hv] at hw;injection hw with hw
      rw[hw,vv] at h0;cases h0
     rw[Gx iO]
     rw[h0] at hr
     exact ec.eo p q t v w _ (by omega) hv hw hr rfl
  exact ec.e1 p q h (loop _ 0 rfl (by omega) rfl)
 ·rw[Gx (fun e=>h (by rw[e]))]
  exact ec.e0 p q h
theorem Bx(e:Option Int):Cp 17 [bL e] (vI (e.getD 0)):=by
 cases e with
 |none=>exact l4.e0
 |some n=>exact l4.e1 n
end vC
open Go.RowKit
def cB(p:Prop):Bool:=@decide p (Classical.propDecidable p)
theorem oo{p:Prop}(h:p):cB p=true:=@decide_eq_true p (Classical.propDecidable p) h
theorem kz{p:Prop}(h:¬p):cB p=false:=@decide_eq_false p (Classical.propDecidable p) h
theorem yk{α:Type}{xs ys:List α}(hl:xs.length=ys.length){L:Nat→PV→Prop}{F T:PV}
  (ne:∀(c:Nat) v w,c<xs.length→xs[c]? = some v→ys[c]? = some w→v≠w→L c F)
  (eq:∀(c:Nat) v w r,c<xs.length→xs[c]? = some v→ys[c]? = some w→v=w→L (c+1) r→L c r)
  (stop:xs=ys→L xs.length T):(xs=ys→L 0 T)∧(xs≠ys→L 0 F):=by
 have key:∀(n c:Nat),c+n=xs.length→(xs.drop c=ys.drop c→(xs=ys→L xs.length T)→xs=ys→L c T)∧(xs.drop c≠ys.drop c→L c F):=by
  intro n
  induction n with
  |zero =>
   intro c hc
   have e1:xs.drop c=[]:=List.drop_eq_nil_of_le (by omega)
   have e2:ys.drop c=[]:=List.drop_eq_nil_of_le (by omega)
   have:c=xs.length:=by omega
   refine⟨fun _ hs h=>by rw[this];exact hs h,fun h=>absurd (by rw[e1,e2]) h⟩
  |succ n ih =>
   intro c hc
   have h1:c<xs.length:=by omega
   have h2:c<ys.length:=by omega
   have g1:=List.getElem?_eq_getElem h1
   have g2:=List.getElem?_eq_getElem h2
   obtain⟨i1,i2⟩:=ih (c+1) (by omega)
   rw[List.drop_eq_getElem_cons h1,List.drop_eq_getElem_cons h2]
   refine⟨fun h hs hx => ?_,fun h => ?_⟩
   ·injection h with e1 e2
    exact eq c _ _ _ h1 g1 g2 e1 (i1 e2 hs hx)
   ·by_cases e1:xs[c]=ys[c]
    ·refine eq c _ _ _ h1 g1 g2 e1 (i2 (fun e2=>h ?_))
     rw[e1,e2]
    ·exact ne c _ _ h1 g1 g2 e1
 obtain⟨k1,k2⟩:=key xs.length 0 (by omega)
 rw[List.drop_zero,List.drop_zero] at k1 k2
 exact⟨fun h=>k1 h stop h,k2⟩
theorem UG{v w:ak} : ((decide (v.name=w.name))&&((decide (v.kind=w.kind))&&((decide (v.a=w.a))&&((decide (v.dx=w.dx))&&((decide (v.b=w.b))&&((decide (v.ou=w.ou))&&((decide (v.mR=w.mR))&&true)))))))=true↔v=w:=by
 cases v;cases w;simp
theorem UH{v w:ag} : ((decide (v.name=w.name))&&((decide (v.body=w.body))&&true))=true↔v=w:=by
 cases v;cases w;simp
theorem yl{b:Bool}{p:Prop}(h:b=true↔p)(hp:¬p):b=false:=by
 cases b with
 |false=>rfl
 |true=>exact absurd (h.1 rfl) hp
structure Mk (l:aj):Prop where
 b:l.ab.length≤40
 j:l.aq.length≤60
 d:l.an.length≤40
 p:∀b∈l.ab,b.points.length≤40
theorem D6(a b:ah)(ha:a.points.length≤40∧∀m∈a.points,fi m.x∧fi m.y):Cp 49 [a.pv,b.pv] (vB (cB (a=b))):=by
 by_cases hn:a.name=b.name
 ·by_cases hl:a.points.length=b.points.length
  ·refine cK.e2 a b hn hl ?_
   obtain⟨k1,k2⟩:=yk (xs:=a.points) (ys:=b.points) hl (L:=fun c r=>cK.au c a b r) (F:=vB false) (T:=vB true)
    (fun c v w hc hv hw iO=>by
     obtain⟨fx,fy⟩:=ha.2 v (List.mem_of_getElem? hv)
     have rx:=vC.Rat v.x w.x (by have:=fx.1;omega) (by have:=fx.2;omega)
     have ry:=vC.Rat v.y w.y (by have:=fy.1;omega) (by have:=fy.2;omega)
     by_cases h1:v.name=w.name
     ·by_cases h2:v.x=w.x
      ·have h3:v.y≠w.y:=fun h3=>iO (by cases v;cases w;simp_all)
       exact cK.nr c a b v w _ _ hc hv hw h1 rx (sO.2 h2) ry (yl sO h3)
      ·exact cK.ew c a b v w _ hc hv hw h1 rx (yl sO h2)
     ·exact cK.eo c a b v w hc hv hw h1)
    (fun c v w r hc hv hw he hL=>by
     obtain⟨fx,fy⟩:=ha.2 v (List.mem_of_getElem? hv)
     have rx:=vC.Rat v.x w.x (by have:=fx.1;omega) (by have:=fx.2;omega)
     have ry:=vC.Rat v.y w.y (by have:=fy.1;omega) (by have:=fy.2;omega)
     subst he
     exact cK.Bf c a b v v _ _ hc hv hw rfl rx (vv _) ry (vv _) (by have:=ha.1;omega) hL)
    (fun _=>cK.PS _ a b (Nat.le_refl _))
   by_cases he:a.points=b.points
   ·rw[oo (show a=b by cases a;cases b;simp_all)];exact k1 he
   ·rw[kz (fun e=>he (by rw[e]))];exact k2 he
  ·rw[kz (fun e=>hl (by rw[e]))];exact cK.e1 a b hn hl
 ·rw[kz (fun e=>hn (by rw[e]))];exact cK.e0 a b hn
theorem pg(a b:aj)(ha:Mk a)(hf:lM a):Cp 19 [a.pv,b.pv] (vB (cB (a=b))):=by
 have lE:=ha.b
 have Xs:=ha.j
 have Xt:=ha.d
 by_cases hn:a.name=b.name
 ·by_cases h1:a.ab.length=b.ab.length
  ·by_cases h2:a.aq.length=b.aq.length
   ·by_cases h3:a.an.length=b.an.length
    ·refine bk.e4 a b hn h1 h2 h3 ?_
     obtain⟨d1,d2⟩:=yk (xs:=a.an) (ys:=b.an) h3 (L:=fun c r=>bk.fp c a b r) (F:=vB false) (T:=vB true)
      (fun c v w hc hv hw iO=>bk.KV c a b v w hc hv hw (yl UH iO))
      (fun c v w r hc hv hw he hL=>bk.KW c a b v w hc hv hw (UH.2 he) (by omega) hL)
      (fun _=>bk.PR _ a b (Nat.le_refl _))
     obtain⟨j1,j2⟩:=yk (xs:=a.aq) (ys:=b.aq) h2 (L:=fun c r=>bk.aM c a b r) (F:=vB false) (T:=vB (cB (a.an=b.an)))
      (fun c v w hc hv hw iO=>bk.mX c a b v w hc hv hw (yl UG iO))
      (fun c v w r hc hv hw he hL=>bk.mY c a b v w hc hv hw (UG.2 he) (by omega) hL)
      (fun _=>bk.xR _ a b (Nat.le_refl _) (by
       by_cases e:a.an=b.an
       ·rw[oo e];exact d1 e
       ·rw[kz e];exact d2 e))
     obtain⟨b1,b2⟩:=yk (xs:=a.ab) (ys:=b.ab) h1 (L:=fun c r=>bk.au c a b r) (F:=vB false) (T:=vB (cB (a.aq=b.aq∧a.an=b.an)))
      (fun c v w hc hv hw iO=>by
       have hm:=List.mem_of_getElem? hv
       exact bk.eo c a b v w _ hc hv hw (D6 v w ⟨ha.p v hm,fun m GM=>((hf.ab v hm).2 m GM).2⟩) (kz iO))
      (fun c v w r hc hv hw he hL=>by
       have hm:=List.mem_of_getElem? hv
       exact bk.ew c a b v w _ hc hv hw (D6 v w ⟨ha.p v hm,fun m GM=>((hf.ab v hm).2 m GM).2⟩) (oo he) (by omega) hL)
      (fun _=>bk.nr _ a b (Nat.le_refl _) (by
       by_cases e:a.aq=b.aq
       ·by_cases e2:a.an=b.an
        ·rw[oo ⟨e,e2⟩];have:=j1 e;rwa[oo e2] at this
        ·rw[kz (fun h=>e2 h.2)];have:=j1 e;rwa[kz e2] at this
       ·rw[kz (fun h=>e h.1)];exact j2 e))
     by_cases e:a.ab=b.ab
     ·by_cases e2:a.aq=b.aq∧a.an=b.an
      ·rw[oo (show a=b by cases a;cases b;simp_all)];have:=b1 e;rwa[oo e2] at this
      ·rw[kz (fun h=>e2 (by rw[h];exact⟨rfl,rfl⟩))];have:=b1 e;rwa[kz e2] at this
     ·rw[kz (fun h=>e (by rw[h]))];exact b2 e
    ·rw[kz (fun e=>h3 (by rw[e]))];exact bk.e3 a b hn h1 h2 h3
   ·rw[kz (fun e=>h2 (by rw[e]))];exact bk.e2 a b hn h1 h2
  ·rw[kz (fun e=>h1 (by rw[e]))];exact bk.e1 a b hn h1
 ·rw[kz (fun e=>hn (by rw[e]))];exact bk.e0 a b hn
abbrev oq:aj:=⟨(ByteArray.mk #[]),[],[],[]⟩
namespace fF
theorem Oe{l:aj}(hl:Ok l)(hf:lM l):Cp 28 [l.pv] (.bx [(vp l).pv,.cd]):=by
 have h:=Check l hf
 rw[kJ.2 hl] at h
 exact xe.e0 l _ h (norm hl hf)
end fF
namespace fF
def CA(p q:ai):Rat:=(p.x.val-q.x.val)*(p.x.val-q.x.val)+(p.y.val-q.y.val)*(p.y.val-q.y.val)
def gd(ms:List ai)(c:Nat):List aK:=match ms[c]? with
 |some q=>(ms.take c).map fun p=>gN (CA p q)
 |none=>[]
def gi(ms:List ai):List aK:=(List.range ms.length).flatMap (gd ms)
theorem Hq(ms:List ai)(c:Nat):(gd ms c).length≤c:=by
 unfold gd
 split
 ·rw[List.length_map,List.length_take];omega
 ·exact Nat.zero_le _
theorem sj(ms:List ai):∀c,((List.range c).flatMap (gd ms)).length≤c*c
 |0=>by simp
 |c+1=>by
  rw[List.range_succ,List.flatMap_append,List.length_append]
  have h1:=sj ms c
  have h2:=Hq ms c
  simp only[List.flatMap_cons,List.flatMap_nil,List.append_nil]
  have:(c+1)*(c+1)=c*c+c+c+1:=by rw[Nat.add_mul,Nat.mul_add];omega
  omega
theorem JO{p q:ai}(hp:fi p.x∧fi p.y)(hq:fi q.x∧fi q.y):∃a b c d:aK,
  Cp 37 [p.x.pv,q.x.pv] a.pv∧Cp 37 [p.y.pv,q.y.pv] b.pv∧Cp 24 [a.pv,a.pv] c.pv∧Cp 24 [b.pv,b.pv] d.pv∧Cp 38 [c.pv,d.pv] (gN (CA p q)).pv:=by
 have h:∀{a:aK},fi a→ht a.val≤1000:=fun h=>eY h.1 h.2 (by omega)
 have f1:ht (p.x.val-q.x.val)≤2001:=by have:=ug p.x.val q.x.val;have:=h hp.1;have:=h hq.1;omega
 have f2:ht (p.y.val-q.y.val)≤2001:=by have:=ug p.y.val q.y.val;have:=h hp.2;have:=h hq.2;omega
 have f3:ht ((p.x.val-q.x.val)*(p.x.val-q.x.val))≤4002:=by have:=l9 (p.x.val-q.x.val) (p.x.val-q.x.val);omega
 have f4:ht ((p.y.val-q.y.val)*(p.y.val-q.y.val))≤4002:=by have:=l9 (p.y.val-q.y.val) (p.y.val-q.y.val);omega
 refine⟨gN (p.x.val-q.x.val),gN (p.y.val-q.y.val),gN ((p.x.val-q.x.val)*(p.x.val-q.x.val)),gN ((p.y.val-q.y.val)*(p.y.val-q.y.val)),xi.Sub p.x q.x hp.1.r hq.1.r,xi.Sub p.y q.y hp.2.r hq.2.r,?_,?_,?_⟩
 ·have:=xi.Mul _ _ (gh (q:=p.x.val-q.x.val) (by omega)) (gh (q:=p.x.val-q.x.val) (by omega))
  rwa[dm] at this
 ·have:=xi.Mul _ _ (gh (q:=p.y.val-q.y.val) (by omega)) (gh (q:=p.y.val-q.y.val) (by omega))
  rwa[dm] at this
 ·have:=xi.Add _ _ (gh (q:=(p.x.val-q.x.val)*(p.x.val-q.x.val)) (by omega)) (gh (q:=(p.y.val-q.y.val)*(p.y.val-q.y.val)) (by omega))
  rwa[dm,dm] at this
theorem CB{l:aj}(hl:Ok l)(hf:lM l){k:Nat}{v:ah}(hk:l.ab[k]? = some v):Cp 13 [l.pv,vI (k:Int)] (.bx [bD (gi v.points),.cd]):=by
 have hc:=Check l hf
 rw[kJ.2 hl] at hc
 have Xu:=(List.getElem?_eq_some_iff.1 hk).1
 have h8:=(hl.ab v (List.mem_of_getElem? hk)).2.len
 have Bv:=(hf.ab v (List.mem_of_getElem? hk)).2
 refine eX.e2 l k k v hc (by omega) (by omega) rfl hk ?_
 have s1:∀(n c:Nat),c+n=v.points.length→eX.au ((List.range c).flatMap (gd v.points)) v c (.bx [bD (gi v.points),.cd]):=by
  intro n
  induction n with
  |zero =>
   intro c hc
   have:c=v.points.length:=by omega
   subst this
   exact eX.ew _ v _ (Nat.le_refl _)
  |succ n ih =>
   intro c hc
   have hv:=List.getElem?_eq_getElem (l:=v.points) (i:=c) (by omega)
   generalize v.points[c]=q at hv
   refine eX.eo _ v c q (by omega) hv (by omega) ?_
   have h:=ih (c+1) (by omega)
   rw[List.range_succ,List.flatMap_append] at h
   have e:[c].flatMap (gd v.points)=(v.points.take c).map fun p=>gN (CA p q):=by
    simp only[List.flatMap_cons,List.flatMap_nil,List.append_nil]
    unfold gd;rw[hv]
   rw[e] at h
   have jb:(v.points.take c).length=c:=by rw[List.length_take];omega
   have s2:∀(n i:Nat),i+n=c→eX.aM ((List.range c).flatMap (gd v.points)++(v.points.take i).map fun p=>gN (CA p q)) v c (v.points.take c) (v.points.take c).length i q (.bx [bD (gi v.points),.cd]):=by
    intro n
    induction n with
    |zero =>
     intro i hi
     have:i=c:=by omega
     subst this
     exact eX.mY _ v i _ _ i q (by omega) (by omega) h
    |succ n BM =>
     intro i hi
     have hp:=List.getElem?_eq_getElem (l:=v.points) (i:=i) (by omega)
     generalize v.points[i]=p at hp
     have h2:=BM (i+1) (by omega)
     rw[iH hp,List.map_append,←List.append_assoc] at h2
     obtain⟨a,b,cc,d,q1,q2,q3,q4,q5⟩:=JO (Bv p (List.mem_of_getElem? hp)).2 (Bv q (List.mem_of_getElem? hv)).2
     have Ed:=sj v.points c
     have WC:c*c≤64:=by
      have:c≤8:=by omega
      calc c*c≤8*8:=Nat.mul_le_mul this this
       _=64:=rfl
     exact eX.mX _ v c _ _ i q p a b cc d _ (by omega) (by rw[List.getElem?_take,if_pos (by omega)];exact hp) q1 q2 q3 q4 q5 (by rw[List.length_append,List.length_append,List.length_map,List.length_take,List.length_singleton];omega) (by omega) h2
   have:=s2 c 0 (by omega)
   rw[List.take_zero,List.map_nil,List.append_nil] at this
   exact this
 exact s1 v.points.length 0 (by omega)
end fF
structure D7 (l:aj):Prop where
 name:l.name.size<9223372036854775808
 ab:∀b∈l.ab,b.name.size<9223372036854775808∧∀m∈b.points,m.name.size<9223372036854775808∧(m.x.num.length≤140737488355328∧m.x.den.length≤140737488355328)∧m.y.num.length≤140737488355328∧m.y.den.length≤140737488355328
 aq:∀j∈l.aq,j.name.size<9223372036854775808
 an:∀d∈l.an,d.name.size<9223372036854775808
def Og(m:ai):Prop:=m.x.num.length+m.x.den.length+m.y.num.length+m.y.den.length≤12
namespace Oh
theorem Ml{l:aj}(hh:D7 l):∃d,Cp 11 [l.pv] (vB d)∧(d=false→Mk l∧∀b∈l.ab,∀m∈b.points,Og m):=by
 by_cases h1:l.ab.length≤40
 ·by_cases h2:l.aq.length≤60
  ·by_cases h3:l.an.length≤40
   ·have s1:∀(n b:Nat),b+n=l.ab.length→∃d,bO.au b l (vB d)∧(d=false→∀(i:Nat) v,b≤i→l.ab[i]? = some v→v.points.length≤40∧∀m∈v.points,Og m):=by
     intro n
     induction n with
     |zero=>intro b hb;exact⟨false,bO.nr b l (by omega),fun _ i v hi hv=>by have:=(List.getElem?_eq_some_iff.1 hv).1;omega⟩
     |succ n ih =>
      intro b hb
      have hv:=List.getElem?_eq_getElem (l:=l.ab) (i:=b) (by omega)
      generalize l.ab[b]=v at hv
      have rl:=(hh.ab v (List.mem_of_getElem? hv)).2
      by_cases h4:v.points.length≤40
      ·obtain⟨d1,k1,k2⟩:=ih (b+1) (by omega)
       have s2:∀(n c:Nat),c+n=v.points.length→∃d,bO.aM b c l (vB d)∧(d=false→(∀(i:Nat) m,c≤i→v.points[i]? = some m→Og m)∧d1=false):=by
        intro n
        induction n with
        |zero=>intro c hc;exact⟨d1,bO.xR b c l v hv (by omega) (by omega) k1,fun h=>⟨fun i m hi hm=>by have:=(List.getElem?_eq_some_iff.1 hm).1;omega,h⟩⟩
        |succ n BM =>
         intro c hc
         have hp:=List.getElem?_eq_getElem (l:=v.points) (i:=c) (by omega)
         generalize v.points[c]=m at hp
         obtain⟨_,⟨f1,f2⟩,f3,f4⟩:=rl m (List.mem_of_getElem? hp)
         by_cases h5:m.x.num.length+m.x.den.length+m.y.num.length+m.y.den.length≤12
         ·obtain⟨d2,q1,q2⟩:=BM (c+1) (by omega)
          refine⟨d2,bO.mY b c l v m hv (by omega) hp (by omega) (by omega) (by omega) h5 (by omega) q1,fun h=>⟨fun i m' hi GM => ?_,(q2 h).2⟩⟩
          by_cases hic:i=c
          ·subst hic;rw[hp] at GM;injection GM with GM;rw[←GM];exact h5
          ·exact(q2 h).1 i m' (by omega) GM
         ·exact⟨true,bO.mX b c l v m hv (by omega) hp (by omega) (by omega) (by omega) (by omega),fun h=>by cases h⟩
       obtain⟨d2,q1,q2⟩:=s2 v.points.length 0 (by omega)
       refine⟨d2,bO.ew b l v (by omega) hv h4 q1,fun h i w hi hw => ?_⟩
       by_cases OT:i=b
       ·subst OT;rw[hv] at hw;injection hw with hw;subst hw
        exact⟨h4,fun m hm=>by obtain⟨i,hi⟩:=List.mem_iff_getElem?.1 hm;exact(q2 h).1 i m (Nat.zero_le _) hi⟩
       ·exact k2 (q2 h).2 i w (by omega) hw
      ·exact⟨true,bO.eo b l v (by omega) hv (by omega),fun h=>by cases h⟩
    obtain⟨d,q1,q2⟩:=s1 l.ab.length 0 (by omega)
    refine⟨d,bO.e3 l h1 h2 h3 q1,fun h=>⟨⟨h1,h2,h3,fun b hb => ?_⟩,fun b hb => ?_⟩⟩
    ·obtain⟨i,hi⟩:=List.mem_iff_getElem?.1 hb;exact(q2 h i b (Nat.zero_le _) hi).1
    ·obtain⟨i,hi⟩:=List.mem_iff_getElem?.1 hb;exact(q2 h i b (Nat.zero_le _) hi).2
   ·exact⟨true,bO.e2 l h1 h2 (by omega),fun h=>by cases h⟩
  ·exact⟨true,bO.e1 l h1 (by omega),fun h=>by cases h⟩
 ·exact⟨true,bO.e0 l (by omega),fun h=>by cases h⟩
theorem fit{l:aj}(hh:D7 l)(hw:∀b∈l.ab,∀m∈b.points,Og m):lM l where
 name:=hh.name
 ab b hb:=⟨(hh.ab b hb).1,fun m hm=>⟨((hh.ab b hb).2 m hm).1,by
  have:=hw b hb m hm
  unfold Og at this
  unfold fi
  omega⟩⟩
 aq:=hh.aq
 an:=hh.an
theorem JP:lM oq where
 name:=by decide
 ab b hb:=nomatch hb
 aq b hb:=nomatch hb
 an b hb:=nomatch hb
theorem Ls:Mk oq:=⟨by decide,by decide,by decide,fun b hb=>nomatch hb⟩
theorem uo:Cp 18 [oq.pv] (vB true):=by
 have:=nd.e0 oq _ (pg oq oq Ls JP)
 rwa[oo rfl] at this
abbrev nA:ByteArray:=⟨#[65]⟩
abbrev nB:ByteArray:=⟨#[66]⟩
abbrev nF:ByteArray:=⟨#[102,114,97,109,101]⟩
abbrev nR:ByteArray:=⟨#[114,111,100]⟩
abbrev nC:ByteArray:=⟨#[99,114,97,110,107]⟩
abbrev mA:ai:=⟨nA,⟨false,[],[]⟩,⟨false,[],[]⟩⟩
abbrev mB:ai:=⟨nB,gN ((3:Int):Rat),gN ((4:Int):Rat)⟩
abbrev bF:ah:=⟨nF,[mA,mB]⟩
abbrev bR:ah:=⟨nR,[mA,mB]⟩
abbrev bC:ah:=⟨nC,[mA,mB]⟩
abbrev jX:ak:=⟨⟨#[106]⟩,0,1,1,2,0,0⟩
abbrev ex:aj:=⟨⟨#[109]⟩,[bF,bR,bC],[jX],[]⟩
theorem Gy(a b:Array UInt8):strLt ⟨a⟩ ⟨b⟩=Op.bytesLess a.toList b.toList:=by
 unfold strLt;rw[ByteArray.toList_eq,ByteArray.toList_eq]
theorem UI:strLt nA nB=true:=by rw[Gy];decide
theorem WD:strLt nB nA=false:=by rw[Gy];decide
theorem UJ:strLt nC nR=true:=by rw[Gy];decide
theorem WE:strLt nR nC=false:=by rw[Gy];decide
theorem Oi{n:Int}(h:aO n):ht (n:Rat)≤2:=by
 rw[N6]
 have:wl n≤2:=Gh (by unfold aO at h;omega)
 omega
theorem wL{q:Rat}(h:ht q≤1000):fi (gN q):=by
 by_cases h0:q=0
 ·subst h0;constructor<;>simp[sh]
 ·rw[pB h0]
  exact⟨Nat.le_trans (gn q) h,Nat.le_trans (ir q) h⟩
theorem WG:fi mA.x∧fi mA.y:=by unfold fi;simp
theorem WH:fi mB.x∧fi mB.y :=
 ⟨wL (Nat.le_trans (Oi (by unfold aO;omega)) (by omega)),wL (Nat.le_trans (Oi (by unfold aO;omega)) (by omega))⟩
theorem Qq:Cp 32 [] ex.pv:=lR.e0 _ _ (yi.Of 3 (by unfold aO;omega)) (yi.Of 4 (by unfold aO;omega))
theorem Tq:Qf [mA,mB] where
 len:=by show 2≤8;omega
 nodup:=by show[nA,nB].Nodup;decide
 all m hm:=by
  rcases List.mem_cons.1 hm with rfl|hm
  ·exact⟨by decide,rfl,rfl⟩
  ·have:m=mB:=by simpa using hm
   subst this
   exact⟨by decide,nL _,nL _⟩
theorem Mm:Ok ex where
 name:=by decide
 pos:=by show 0<3;omega
 len:=by show 3≤8;omega
 ab b hb:=by
  rcases List.mem_cons.1 hb with rfl|hb
  ·exact⟨by decide,Tq⟩
  ·rcases List.mem_cons.1 hb with rfl|hb
   ·exact⟨by decide,Tq⟩
   ·have:b=bC:=by simpa using hb
    subst this
    exact⟨by decide,Tq⟩
 bn:=by show[nF,nR,nC].Nodup;decide
 jl:=by show 1≤16;omega
 aq j hj:=by
  have:j=jX:=by simpa using hj
  subst this
  exact⟨by decide,bR,bC,mB,mA,rfl,rfl,by decide,rfl,rfl,.inl ⟨rfl,rfl⟩⟩
 jn:=by show[(⟨#[106]⟩:ByteArray)].Nodup;decide
 dl:=by show 0≤2;omega
 an d hd:=by cases hd
 dn := .nil
 db := .nil
theorem JQ:lM ex where
 name:=by decide
 ab b hb:=by
  have hm:∀m∈[mA,mB],m.name.size<9223372036854775808∧fi m.x∧fi m.y:=fun m hm=>by
   rcases List.mem_cons.1 hm with rfl|hm
   ·exact⟨by decide,WG⟩
   ·have:m=mB:=by simpa using hm
    subst this
    exact⟨by decide,WH⟩
  rcases List.mem_cons.1 hb with rfl|hb
  ·exact⟨by decide,hm⟩
  ·rcases List.mem_cons.1 hb with rfl|hb
   ·exact⟨by decide,hm⟩
   ·have:b=bC:=by simpa using hb
    subst this
    exact⟨by decide,hm⟩
 aq j hj:=by
  have:j=jX:=by simpa using hj
  subst this;decide
 an d hd:=by cases hd
theorem JR:gg ai.name [mA,mB]=[mA,mB]:=Ch (by
 refine List.pairwise_cons.2 ⟨fun b hb => ?_,List.pairwise_singleton ..⟩
 have:b=mB:=by simpa using hb
 subst this;exact UI)
theorem WI:nb bR=bR:=by unfold nb;rw[JR]
theorem WJ:nb bC=bC:=by unfold nb;rw[JR]
theorem WK:nb bF=bF:=by unfold nb;rw[JR]
theorem WL:rk ah.name [bR,bC] nR=1:=by
 unfold rk
 rw[List.countP_cons_of_neg (by rw[fA];simp),List.countP_cons_of_pos (by exact UJ)];rfl
theorem WM:rk ah.name [bR,bC] nC=0:=by
 unfold rk
 rw[List.countP_cons_of_neg (by rw[show strLt (ah.name bR) nC=false from WE];simp),List.countP_cons_of_neg (by rw[fA];simp)];rfl
theorem WN:rk ai.name [mA,mB] nB=1:=by
 unfold rk
 rw[List.countP_cons_of_pos (by exact UI),List.countP_cons_of_neg (by rw[fA];simp)];rfl
theorem WO:rk ai.name [mA,mB] nA=0:=by
 unfold rk
 rw[List.countP_cons_of_neg (by rw[fA];simp),List.countP_cons_of_neg (by rw[show strLt (ai.name mB) nA=false from WD];simp)];rfl
theorem WQ:rB ex 1=2:=by
 show 1+(rk ah.name [bR,bC] nR:Int)=2
 rw[WL];rfl
theorem WR:rB ex 2=1:=by
 show 1+(rk ah.name [bR,bC] nC:Int)=1
 rw[WM];rfl
theorem WS:DL ex 1 1=1:=by
 show(rk ai.name [mA,mB] nB:Int)=1
 rw[WN];rfl
theorem WT:DL ex 2 0=0:=by
 show(rk ai.name [mA,mB] nA:Int)=0
 rw[WO];rfl
theorem Tr:jN ex jX=⟨⟨#[106]⟩,0,1,0,2,1,0⟩:=by
 have e:jN ex jX=Jv jX (rB ex 1) (DL ex 1 1) (rB ex 2) (DL ex 2 0):=by
  unfold jN;rw[if_neg (by decide)]
 rw[e,WQ,WR,WS,WT];rfl
theorem Lt:vp ex=⟨⟨#[109]⟩,[bF,bC,bR],[⟨⟨#[106]⟩,0,1,0,2,1,0⟩],[]⟩:=by
 have h1:mT [bF,bR,bC]=[bF,bC,bR]:=by
  show nb bF::gg ah.name [nb bR,nb bC]=_
  rw[WK,WI,WJ]
  congr 1
  refine(vi (by show[nR,nC].Nodup;decide) ?_ (.swap bR bC [])).symm
  refine List.pairwise_cons.2 ⟨fun b hb => ?_,List.pairwise_singleton ..⟩
  have:b=bR:=by simpa using hb
  subst this;exact UJ
 show aj.mk _ (mT [bF,bR,bC]) (gg ak.name [jN ex jX]) (gg ag.name [])=_
 rw[h1,Tr];rfl
theorem Lu:fF.gi [mA,mB]=[gN ((25:Int):Rat)]:=by
 show([]:List aK)++([gN (fF.CA mA mB)]++[])=_
 rw[List.nil_append,List.append_nil]
 congr 2
 unfold fF.CA
 rw[show mB.x.val=((3:Int):Rat) from dm _,show mB.y.val=((4:Int):Rat) from dm _,show mA.x.val=0 from rfl]
 decide +kernel
theorem gj:Cp 10 [] (vB true):=by
 have hN:=fF.Oe Mm JQ
 rw[Lt] at hN
 have hL:=fF.CB Mm JQ (k:=1) (v:=bR) rfl
 rw[show bR.points=[mA,mB] from rfl,Lu] at hL
 have hR:=vC.Qp [gN ((25:Int):Rat)] [gN ((25:Int):Rat)] (by show 1<_;omega) (fun a ha=>by
  have:a=gN ((25:Int):Rat):=by simpa using ha
  subst this
  have h:=wL (Nat.le_trans (Oi (n:=25) (by unfold aO;omega)) (by omega))
  have:=h.1
  have:=h.2
  omega)
 rw[Bw] at hR
 exact nc.e0 ex _ ex _ bC ⟨⟨#[106]⟩,0,1,0,2,1,0⟩ _ _ Qq hN Qq hL rfl rfl rfl rfl rfl (by decide) (yi.Of 25 (by unfold aO;omega)) hR
end Oh
end Go.Proofs.YtfjfekodeplcoaaGreat.Sym
namespace Go.Proofs.YtfjfekodeplcoaaGreat.Sym
open Go Go.RowKit Go.ChangeShapes Go.WideShapes
set_option linter.unusedVariables false
theorem Gz{a:aK}(h:I4 a):a.num.length+a.den.length≤281474976710656:=by
 have:=h.1
 have:=h.2
 have:=zS
 omega
theorem qc{P:Program}{t:TypeId}(ht:P.underlying t=some .string):lz P t (fun s:ByteArray=>[.str s]) (fun s=>s.size<9223372036854775808):=by
 intro H enc w base spare held fuel cs x h _
 obtain⟨s,rfl,_,hw⟩:=DataW.trod_string ht h
 exact⟨s,kG rfl (.str _),by unfold maxLen at hw;omega⟩
theorem Oj{α:Type}(cs:List α)(h:cs.length=1+1+1+1):cs=(cs.drop 0).take 1++((cs.drop 1).take 1++((cs.drop 2).take 1++(cs.drop 3).take 1)):=by
 match cs,h with
 |[a,b,c,d],_=>rfl
theorem Ol{α:Type}(cs:List α)(h:cs.length=1+1+1+1+1+1+1):cs=(cs.drop 0).take 1++((cs.drop 1).take 1++((cs.drop 2).take 1++((cs.drop 3).take 1++((cs.drop 4).take 1++((cs.drop 5).take 1++(cs.drop 6).take 1))))):=by
 match cs,h with
 |[a,b,c,d,e,f,g],_=>rfl
def JS(m:ai):Prop:=m.name.size<9223372036854775808∧I4 m.x∧I4 m.y
theorem D8:lz bp 73 ai.cells JS:=by
 intro H enc w base spare held fuel cs x h pz
 obtain⟨fs,hu,e⟩:=gJ (show l5 (bp.underlying 73)=some [(9,0),(29,1),(29,4)] by kernel_rfl)
 have hl:=jM hu h
 have hl:cs.length=1+3+3:=hl.trans (by kernel_rfl)
 obtain⟨a,r0,q0⟩:=cm hu h pz 0 0 1 (e 0) (by kernel_rfl) (qc (show bp.underlying 9=some .string by kernel_rfl))
 obtain⟨b,r1,q1⟩:=cm hu h pz 1 1 3 (e 1) (by kernel_rfl) oh
 obtain⟨c,r2,q2⟩:=cm hu h pz 2 4 3 (e 2) (by kernel_rfl) oh
 refine⟨⟨a,b,c⟩,?_,q0,q1,q2⟩
 rw[I3 cs 1 3 3 hl]
 exact ct r0 (ct r1 r2)
theorem D9:lz bp 61 (k8 ai.cells) (fun l=>∀m∈l,JS m):=by
 intro H enc w base spare held fuel cs x h pz
 obtain⟨l,h1,_,h2⟩:=mE (s:=7) (show bp.underlying 61=some (.slice 73) by kernel_rfl) (by kernel_rfl) (by omega) (sb:=128) (by kernel_rfl) (fun _=>rfl) D8 enc w base spare held fuel cs x h pz
 exact⟨l,h1,h2⟩
def Mn(b:ah):Prop:=b.name.size<9223372036854775808∧∀m∈b.points,JS m
theorem Ea:lz bp 63 ah.cells Mn:=by
 intro H enc w base spare held fuel cs x h pz
 obtain⟨fs,hu,e⟩:=gJ (show l5 (bp.underlying 63)=some [(9,0),(61,1)] by kernel_rfl)
 have hl:=jM hu h
 have hl:cs.length=1+1:=hl.trans (by kernel_rfl)
 obtain⟨a,r0,q0⟩:=cm hu h pz 0 0 1 (e 0) (by kernel_rfl) (qc (show bp.underlying 9=some .string by kernel_rfl))
 obtain⟨b,r1,q1⟩:=cm hu h pz 1 1 1 (e 1) (by kernel_rfl) D9
 refine⟨⟨a,b⟩,?_,q0,q1⟩
 rw[I5 cs 1 1 hl]
 exact ct r0 r1
theorem CC:lz bp 22 (k8 ah.cells) (fun l=>∀b∈l,Mn b):=by
 intro H enc w base spare held fuel cs x h pz
 obtain⟨l,h1,_,h2⟩:=mE (s:=2) (show bp.underlying 22=some (.slice 63) by kernel_rfl) (by kernel_rfl) (by omega) (sb:=40) (by kernel_rfl) (fun _=>rfl) Ea enc w base spare held fuel cs x h pz
 exact⟨l,h1,h2⟩
theorem CD:lz bp 65 ak.cells (fun j=>j.name.size<9223372036854775808):=by
 intro H enc w base spare held fuel cs x h pz
 obtain⟨fs,hu,e⟩:=gJ (show l5 (bp.underlying 65)=some [(9,0),(3,1),(3,2),(3,3),(3,4),(3,5),(3,6)] by kernel_rfl)
 have hl:=jM hu h
 have hl:cs.length=1+1+1+1+1+1+1:=hl.trans (by kernel_rfl)
 have hi:lz bp 3 (fun n:Int=>[.int .i64 n]) (fun n=>(Lit.int .i64 n).wf=true):=sE (show bp.underlying 3=some (.int .i64) by kernel_rfl)
 obtain⟨a,r0,q0⟩:=cm hu h pz 0 0 1 (e 0) (by kernel_rfl) (qc (show bp.underlying 9=some .string by kernel_rfl))
 obtain⟨b,r1,_⟩:=cm hu h pz 1 1 1 (e 1) (by kernel_rfl) hi
 obtain⟨c,r2,_⟩:=cm hu h pz 2 2 1 (e 2) (by kernel_rfl) hi
 obtain⟨d,r3,_⟩:=cm hu h pz 3 3 1 (e 3) (by kernel_rfl) hi
 obtain⟨g,r4,_⟩:=cm hu h pz 4 4 1 (e 4) (by kernel_rfl) hi
 obtain⟨i,r5,_⟩:=cm hu h pz 5 5 1 (e 5) (by kernel_rfl) hi
 obtain⟨j,r6,_⟩:=cm hu h pz 6 6 1 (e 6) (by kernel_rfl) hi
 refine⟨⟨a,b,c,d,g,i,j⟩,?_,q0⟩
 rw[Ol cs hl]
 exact ct r0 (ct r1 (ct r2 (ct r3 (ct r4 (ct r5 r6)))))
theorem CE:lz bp 23 (k8 ak.cells) (fun l=>∀j∈l,j.name.size<9223372036854775808):=by
 intro H enc w base spare held fuel cs x h pz
 obtain⟨l,h1,_,h2⟩:=mE (s:=7) (show bp.underlying 23=some (.slice 65) by kernel_rfl) (by kernel_rfl) (by omega) (sb:=64) (by kernel_rfl) (fun _=>rfl) CD enc w base spare held fuel cs x h pz
 exact⟨l,h1,h2⟩
theorem AR:lz bp 67 ag.cells (fun d=>d.name.size<9223372036854775808):=by
 intro H enc w base spare held fuel cs x h pz
 obtain⟨fs,hu,e⟩:=gJ (show l5 (bp.underlying 67)=some [(9,0),(3,1)] by kernel_rfl)
 have hl:=jM hu h
 have hl:cs.length=1+1:=hl.trans (by kernel_rfl)
 obtain⟨a,r0,q0⟩:=cm hu h pz 0 0 1 (e 0) (by kernel_rfl) (qc (show bp.underlying 9=some .string by kernel_rfl))
 obtain⟨b,r1,_⟩:=cm hu h pz 1 1 1 (e 1) (by kernel_rfl) (sE (k := .i64) (show bp.underlying 3=some (.int .i64) by kernel_rfl))
 refine⟨⟨a,b⟩,?_,q0⟩
 rw[I5 cs 1 1 hl]
 exact ct r0 r1
theorem AS:lz bp 24 (k8 ag.cells) (fun l=>∀d∈l,d.name.size<9223372036854775808):=by
 intro H enc w base spare held fuel cs x h pz
 obtain⟨l,h1,_,h2⟩:=mE (s:=2) (show bp.underlying 24=some (.slice 67) by kernel_rfl) (by kernel_rfl) (by omega) (sb:=24) (by kernel_rfl) (fun _=>rfl) AR enc w base spare held fuel cs x h pz
 exact⟨l,h1,h2⟩
theorem sk:lz bp 26 aj.cells D7:=by
 intro H enc w base spare held fuel cs x h pz
 obtain⟨fs,hu,e⟩:=gJ (show l5 (bp.underlying 26)=some [(9,0),(22,1),(23,2),(24,3)] by kernel_rfl)
 have hl:=jM hu h
 have hl:cs.length=1+1+1+1:=hl.trans (by kernel_rfl)
 obtain⟨a,r0,q0⟩:=cm hu h pz 0 0 1 (e 0) (by kernel_rfl) (qc (show bp.underlying 9=some .string by kernel_rfl))
 obtain⟨b,r1,q1⟩:=cm hu h pz 1 1 1 (e 1) (by kernel_rfl) CC
 obtain⟨c,r2,q2⟩:=cm hu h pz 2 2 1 (e 2) (by kernel_rfl) CE
 obtain⟨d,r3,q3⟩:=cm hu h pz 3 3 1 (e 3) (by kernel_rfl) AS
 have hr:=zS
 refine⟨⟨a,b,c,d⟩,?_,q0,fun x hx=>⟨(q1 x hx).1,fun m hm => ?_⟩,q2,q3⟩
 ·rw[Oj cs hl]
  exact ct r0 (ct r1 (ct r2 r3))
 ·obtain⟨k1,⟨k2,k3⟩,k4,k5⟩:=(q1 x hx).2 m hm
  exact⟨k1,⟨by omega,by omega⟩,by omega,by omega⟩
end Go.Proofs.YtfjfekodeplcoaaGreat.Sym
namespace Go.Proofs.YtfjfekodeplcoaaGreat.Sym
open Go
def GA(H:List (ByteArray×Nat×Nat))(X:List (List ai))(bs:List ah):Prop :=
 H.length=bs.length∧∀(i:Nat) (b:ah),bs[i]? = some b→∃j:Nat,H[i]? = some (b.name,j,b.points.length)∧X[j]? = some b.points
theorem Mo:∀(bs:List ah) (k:Nat) (p:PV),((bs.map ah.cells).flatten)[k]? = some p→∃(i:Nat) (b:ah),bs[i]? = some b∧((k=i*2∧p = .str b.name)∨(k=i*2+1∧p = .list (b.points.map ai.cells)))
 |[],k,p,h=>by simp at h
 |b::bs,0,p,h=>by
  have h:some (PV.str b.name)=some p:=h
  injection h with h
  exact⟨0,b,rfl,.inl ⟨rfl,h.symm⟩⟩
 |b::bs,1,p,h=>by
  have h:some (PV.list (b.points.map ai.cells))=some p:=h
  injection h with h
  exact⟨0,b,rfl,.inr ⟨rfl,h.symm⟩⟩
 |b::bs,k+2,p,h=>by
  obtain⟨i,b',h1,h2⟩:=Mo bs k p h
  exact⟨i+1,b',by simpa using h1,h2.imp (fun h=>⟨by omega,h.2⟩) (fun h=>⟨by omega,h.2⟩)⟩
theorem JT{H:List (ByteArray×Nat×Nat)}{X:List (List ai)}{bs:List ah}(h:GA H X bs) :
  H.length=(bs.map ah.cells).length∧Io (bodE H 7) (cL ai.cells X) (bs.map ah.cells) 2:=by
 obtain⟨h1,h2⟩:=h
 have hl:(bs.map ah.cells).flatten.length=bs.length*2:=by
  clear h1 h2
  induction bs with
  |nil=>rfl
  |cons b bs ih=>rw[List.map_cons,List.flatten_cons,List.length_append,ih,List.length_cons,Nat.succ_mul,Nat.add_comm];rfl
 refine⟨by rw[List.length_map];exact h1,by rw[zF,hl,h1],fun row hr => ?_,fun k e p he hp => ?_⟩
 ·obtain⟨b,_,rfl⟩:=List.mem_map.1 hr
  rfl
 ·obtain⟨i,b,hb,hk⟩:=Mo bs k p hp
  obtain⟨j,q1,q2⟩:=h2 i b hb
  obtain⟨r,hr⟩:=x9 (z:=7) H i _ q1
  rcases hk with ⟨rfl,rfl⟩|⟨rfl,rfl⟩
  ·have:((bodE H 7).drop (i*2))[0]? = some (.pv (.str b.name)):=by rw[hr];rfl
   rw[List.getElem?_drop,Nat.add_zero,he] at this
   injection this with this
   exact .inl this
  ·have:((bodE H 7).drop (i*2))[1]? = some (.cv j b.points.length 7):=by rw[hr];rfl
   rw[List.getElem?_drop,he] at this
   injection this with this
   refine .inr ⟨j,b.points.map ai.cells,7,by rw[this,List.length_map],by simp[cL,q2],fun c hc => ?_,rfl⟩
   obtain⟨m,_,rfl⟩:=List.mem_map.1 hc
   rfl
end Go.Proofs.YtfjfekodeplcoaaGreat.Sym
end
