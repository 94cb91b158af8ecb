/- Lemmas for the statements of this seat. -/
import Derived.Test.YtfjfekodeplcoaaGreatG5
import Derived.Test.YtfjfekodeplcoaaGreatP6
import Derived.Test.YtfjfekodeplcoaaGreatG0
noncomputable section
namespace Go.Proofs.YtfjfekodeplcoaaGreat.Sym
open Go Path fi Go.RowKit
set_option linter.unusedVariables false
theorem Na(bs:List ab)(x:ByteArray):(∃(k:Nat) (b:ab),bs[k]? = some b∧b.name=x∧∀(i:Nat) b',i<k→bs[i]? = some b'→b'.name≠x)∨∀b∈bs,b.name≠x:=by
 induction bs with
 |nil=>exact .inr (fun b hb=>by cases hb)
 |cons c t ih =>
  by_cases hc:c.name=x
  ·exact .inl ⟨0,c,rfl,hc,fun i b' hi=>by omega⟩
  ·rcases ih with ⟨k,b,h1,h2,h3⟩|h
   ·refine .inl ⟨k+1,b,h1,h2,fun i b' hi cX => ?_⟩
    cases i with
    |zero=>injection cX with cX;rw[←cX];exact hc
    |succ i=>exact h3 i b' (by omega) cX
   ·refine .inr (fun b hb => ?_)
    rcases List.mem_cons.1 hb with rfl|hb
    ·exact hc
    ·exact h b hb
theorem uS{bs:List ab}(hn:(bs.map ab.name).Nodup){k:Nat}{b:ab}(h:bs[k]? = some b):∀(i:Nat) b',i<k→bs[i]? = some b'→b'.name≠b.name:=fun i b' hi cX e=>by
 have:=sq hn cX h e
 omega
theorem Di{bs:List ab}(R1:bs.length≤40){x:ByteArray}{k:Nat}{b:ab}(h1:bs[k]? = some b)(h2:b.name=x)(h3:∀(i:Nat) b',i<k→bs[i]? = some b'→b'.name≠x) :
  aw a7 61 [.row 100000 0 bs.length 2,.lX 62 100001] [(100000,(.pure ((bs:List ab).map ab.cells).flatten)),(100001,(.lit [(.pv (.str x))]))] (.pv (vI (k:Int))) [(100000,(.pure ((bs:List ab).map ab.cells).flatten)),(100001,(.lit [(.pv (.str x))]))]:=by
 refine ck.e0 bs bs.length x ?_
 have hk:=(List.getElem?_eq_some_iff.1 h1).1
 have s:∀(n c:Nat),c+n=k→ck.ar bs.length x c bs [(100000,(.pure ((bs:List ab).map ab.cells).flatten)),(100001,(.lit [(.pv (.str x))]))] (.pv (vI (k:Int))) [(100000,(.pure ((bs:List ab).map ab.cells).flatten)),(100001,(.lit [(.pv (.str x))]))]:=by
  intro n
  induction n with
  |zero =>
   intro c hc
   have:c=k:=by omega
   subst this
   exact ck.dC _ x c bs b _ rfl rfl hk h1 (kc.e0 b x) (decide_eq_true h2)
  |succ n ih =>
   intro c hc
   have hv:=List.getElem?_eq_getElem (l:=bs) (i:=c) (by omega)
   exact ck.dD _ x c bs _ _ rfl (by omega) hv (kc.e0 _ x) (decide_eq_false (h3 c _ (by omega) hv)) (by omega) (ih (c+1) (by omega))
 exact s k 0 (by omega)
theorem I3{bs:List ab}(R1:bs.length≤40){x:ByteArray}(h:∀b∈bs,b.name≠x) :
  aw a7 61 [.row 100000 0 bs.length 2,.lX 62 100001] [(100000,(.pure ((bs:List ab).map ab.cells).flatten)),(100001,(.lit [(.pv (.str x))]))] (.pv (vI (-1))) [(100000,(.pure ((bs:List ab).map ab.cells).flatten)),(100001,(.lit [(.pv (.str x))]))]:=by
 refine ck.e0 bs bs.length x ?_
 have s:∀(n c:Nat),c+n=bs.length→ck.ar bs.length x c bs [(100000,(.pure ((bs:List ab).map ab.cells).flatten)),(100001,(.lit [(.pv (.str x))]))] (.pv (vI (-1))) [(100000,(.pure ((bs:List ab).map ab.cells).flatten)),(100001,(.lit [(.pv (.str x))]))]:=by
  intro n
  induction n with
  |zero =>
   intro c hc
   exact ck.kM _ x c bs rfl rfl (by omega)
  |succ n ih =>
   intro c hc
   have hv:=List.getElem?_eq_getElem (l:=bs) (i:=c) (by omega)
   exact ck.dD _ x c bs _ _ rfl (by omega) hv (kc.e0 _ x) (decide_eq_false (h _ (List.mem_of_getElem? hv))) (by omega) (ih (c+1) (by omega))
 exact s bs.length 0 (by omega)
theorem qd{l:aj}(hf:iM l)(k:Nat){nm:ByteArray}(hs:nm.size<9223372036854775808):iM (jD l k nm) where
 name:=hf.name
 aa b hb:=by
  have hb:b∈rU l.aa k nm:=hb
  unfold rU at hb
  split at hb
  ·rename_i c hc
   rcases List.mem_or_eq_of_mem_set hb with hb|rfl
   ·exact hf.aa b hb
   ·exact⟨hs,(hf.aa c (List.mem_of_getElem? hc)).2⟩
  ·exact hf.aa b hb
 an:=hf.an
 ak:=hf.ak
theorem KK{l:aj}(hl:Ju l)(k:Nat)(nm:ByteArray):Ju (jD l k nm) where
 b:=by
  show(rU l.aa k nm).length≤40
  unfold rU
  split
  ·rw[List.length_set];exact hl.b
  ·exact hl.b
 j:=hl.j
 d:=hl.d
 p b hb:=by
  have hb:b∈rU l.aa k nm:=hb
  unfold rU at hb
  split at hb
  ·rename_i c hc
   rcases List.mem_or_eq_of_mem_set hb with hb|rfl
   ·exact hl.p b hb
   ·exact hl.p c (List.mem_of_getElem? hc)
  ·exact hl.p b hb
namespace pA
theorem Nb{l:aj}(hf:iM l)(h0:gN l≠0)(wX nm:ByteArray):Cp 26 [l.pv,.str wX,.str nm] (.bh [jm.pv,iE (gN l)]):=by
 have h:=Check l hf
 rw[mV h0] at h
 exact j8.e3 l wX nm _ h
theorem I4{l:aj}(hl:Ok l)(hf:iM l){wX:ByteArray}(nm:ByteArray)(h:∀b∈l.aa,b.name≠wX):Cp 26 [l.pv,.str wX,.str nm] (.bh [jm.pv,iE 5]):=by
 have hc:=Check l hf
 rw[fG.2 hl] at hc
 exact j8.e0 l wX nm l.name l.aa l.an l.ak l.aa (-1) hc (copied hl hf) (I3 hl.IV.b h) (by omega)
theorem Dj{l:aj}(hl:Ok l)(hf:iM l){nm:ByteArray}(hs:nm.size<9223372036854775808){k:Nat}{b:ab}(hb:l.aa[k]? = some b)(h0:gN (jD l k nm)=0) :
  Cp 26 [l.pv,.str b.name,.str nm] (.bh [(jD l k nm).pv,.bK]):=by
 have hc:=Check l hf
 rw[fG.2 hl] at hc
 have hk:=(List.getElem?_eq_some_iff.1 hb).1
 have hm:=Check (jD l k nm) (qd hf k hs)
 rw[h0] at hm
 unfold jD at hm ⊢
 rw[jF hb] at hm ⊢
 exact j8.e1 l b.name nm l.name l.aa l.an l.ak l.aa k k b hc (copied hl hf) (Di hl.IV.b hb rfl (uS hl.bn hb)) (by omega) rfl hk hb (by rw[List.length_set]) hm
theorem BP{l:aj}(hl:Ok l)(hf:iM l){nm:ByteArray}(hs:nm.size<9223372036854775808){k:Nat}{b:ab}(hb:l.aa[k]? = some b)(h0:gN (jD l k nm)≠0) :
  Cp 26 [l.pv,.str b.name,.str nm] (.bh [jm.pv,iE (gN (jD l k nm))]):=by
 have hc:=Check l hf
 rw[fG.2 hl] at hc
 have hk:=(List.getElem?_eq_some_iff.1 hb).1
 have hm:=Check (jD l k nm) (qd hf k hs)
 rw[mV h0] at hm
 have e:jD l k nm=⟨l.name,l.aa.set k ⟨nm,b.points⟩,l.an,l.ak⟩:=by unfold jD;rw[jF hb]
 rw[e] at hm ⊢
 exact j8.e2 l b.name nm l.name l.aa l.an l.ak l.aa k k b _ hc (copied hl hf) (Di hl.IV.b hb rfl (uS hl.bn hb)) (by omega) rfl hk hb (by rw[List.length_set]) hm
def NJ(p q:au):Rat:=(p.x.val-q.x.val)*(p.x.val-q.x.val)+(p.y.val-q.y.val)*(p.y.val-q.y.val)
def mw(ms:List au)(c:Nat):List aW:=match ms[c]? with
 |some q=>(ms.take c).map fun p=>qc (NJ p q)
 |none=>[]
def FJ(ms:List au):List aW:=(List.range ms.length).flatMap (mw ms)
theorem Gx(ms:List au)(c:Nat):(mw ms c).length≤c:=by
 unfold mw
 split
 ·rw[List.length_map,List.length_take];omega
 ·exact Nat.zero_le _
theorem Dk(ms:List au):∀c,((List.range c).flatMap (mw ms)).length≤c*c
 |0=>by simp
 |c+1=>by
  rw[List.range_succ,List.flatMap_append,List.length_append]
  have h1:=Dk ms c
  have h2:=Gx ms c
  simp only[List.flatMap_cons,List.flatMap_nil,List.append_nil]
  have:(c+1)*(c+1)=c*c+c+c+1:=by rw[Nat.add_mul,Nat.mul_add];omega
  omega
theorem I5{p q:au}(hp:gC p.x∧gC p.y)(hq:gC q.x∧gC q.y):∃a b c d:aW,
  Cp 37 [p.x.pv,q.x.pv] a.pv∧Cp 37 [p.y.pv,q.y.pv] b.pv∧Cp 24 [a.pv,a.pv] c.pv∧Cp 24 [b.pv,b.pv] d.pv∧Cp 38 [c.pv,d.pv] (qc (NJ p q)).pv:=by
 have h:∀{a:aW},gC a→ht a.val≤1000:=fun h=>jY h.1 h.2 (by omega)
 have f1:ht (p.x.val-q.x.val)≤2001:=by have:=EF p.x.val q.x.val;have:=h hp.1;have:=h hq.1;omega
 have f2:ht (p.y.val-q.y.val)≤2001:=by have:=EF p.y.val q.y.val;have:=h hp.2;have:=h hq.2;omega
 have f3:ht ((p.x.val-q.x.val)*(p.x.val-q.x.val))≤4002:=by have:=IE (p.x.val-q.x.val) (p.x.val-q.x.val);omega
 have f4:ht ((p.y.val-q.y.val)*(p.y.val-q.y.val))≤4002:=by have:=IE (p.y.val-q.y.val) (p.y.val-q.y.val);omega
 refine⟨qc (p.x.val-q.x.val),qc (p.y.val-q.y.val),qc ((p.x.val-q.x.val)*(p.x.val-q.x.val)),qc ((p.y.val-q.y.val)*(p.y.val-q.y.val)),BL.Sub p.x q.x hp.1.r hq.1.r,BL.Sub p.y q.y hp.2.r hq.2.r,?_,?_,?_⟩
 ·have:=BL.Mul _ _ (nG (q:=p.x.val-q.x.val) (by omega)) (nG (q:=p.x.val-q.x.val) (by omega))
  rwa[nE] at this
 ·have:=BL.Mul _ _ (nG (q:=p.y.val-q.y.val) (by omega)) (nG (q:=p.y.val-q.y.val) (by omega))
  rwa[nE] at this
 ·have:=BL.Add _ _ (nG (q:=(p.x.val-q.x.val)*(p.x.val-q.x.val)) (by omega)) (nG (q:=(p.y.val-q.y.val)*(p.y.val-q.y.val)) (by omega))
  rwa[nE,nE] at this
theorem Nc{l:aj}(hl:Ok l)(hf:iM l){k:Nat}{v:ab}(hk:l.aa[k]? = some v):Cp 13 [l.pv,vI (k:Int)] (.bh [jQ (FJ v.points),.bK]):=by
 have hc:=Check l hf
 rw[fG.2 hl] at hc
 have VU:=(List.getElem?_eq_some_iff.1 hk).1
 have h8:=(hl.aa v (List.mem_of_getElem? hk)).2.len
 have O4:=(hf.aa v (List.mem_of_getElem? hk)).2
 refine gV.e2 l k k v hc (by omega) (by omega) rfl hk ?_
 have s1:∀(n c:Nat),c+n=v.points.length→gV.ar ((List.range c).flatMap (mw v.points)) v c (.bh [jQ (FJ v.points),.bK]):=by
  intro n
  induction n with
  |zero =>
   intro c hc
   have:c=v.points.length:=by omega
   subst this
   exact gV.dD _ v _ (Nat.le_refl _)
  |succ n ih =>
   intro c hc
   have hv:=List.getElem?_eq_getElem (l:=v.points) (i:=c) (by omega)
   generalize v.points[c]=q at hv
   refine gV.dC _ v c q (by omega) hv (by omega) ?_
   have h:=ih (c+1) (by omega)
   rw[List.range_succ,List.flatMap_append] at h
   have e:[c].flatMap (mw v.points)=(v.points.take c).map fun p=>qc (NJ p q):=by
    simp only[List.flatMap_cons,List.flatMap_nil,List.append_nil]
    unfold mw;rw[hv]
   rw[e] at h
   have oz:(v.points.take c).length=c:=by rw[List.length_take];omega
   have s2:∀(n i:Nat),i+n=c→gV.aJ ((List.range c).flatMap (mw v.points)++(v.points.take i).map fun p=>qc (NJ p q)) v c (v.points.take c) (v.points.take c).length i q (.bh [jQ (FJ v.points),.bK]):=by
    intro n
    induction n with
    |zero =>
     intro i hi
     have:i=c:=by omega
     subst this
     exact gV.nL _ v i _ _ i q (by omega) (by omega) h
    |succ n Hv =>
     intro i hi
     have hp:=List.getElem?_eq_getElem (l:=v.points) (i:=i) (by omega)
     generalize v.points[i]=p at hp
     have h2:=Hv (i+1) (by omega)
     rw[ep hp,List.map_append,←List.append_assoc] at h2
     obtain⟨a,b,cc,d,q1,q2,q3,q4,q5⟩:=I5 (O4 p (List.mem_of_getElem? hp)).2 (O4 q (List.mem_of_getElem? hv)).2
     have G2:=Dk v.points c
     have VV:c*c≤64:=by
      have:c≤8:=by omega
      calc c*c≤8*8:=Nat.mul_le_mul this this
       _=64:=rfl
     exact gV.nK _ v c _ _ i q p a b cc d _ (by omega) (by rw[List.getElem?_take,if_pos (by omega)];exact hp) q1 q2 q3 q4 q5 (by rw[List.length_append,List.length_append,List.length_map,List.length_take,List.length_singleton];omega) (by omega) h2
   have:=s2 c 0 (by omega)
   rw[List.take_zero,List.map_nil,List.append_nil] at this
   exact this
 exact s1 v.points.length 0 (by omega)
end pA
namespace BK
theorem Nd{l:aj}(R1:l.aa.length≤40){x:ByteArray}(h:∀b∈l.aa,b.name≠x):Cp 63 [l.pv,.str x] (.bh [vI 0,vI 5]):=by
 refine cI.e0 l x ?_
 have s:∀(n c:Nat),c+n=l.aa.length→cI.ar x c l (.bh [vI 0,vI 5]):=by
  intro n
  induction n with
  |zero=>intro c hc;exact cI.kM x c l (by omega)
  |succ n ih =>
   intro c hc
   have hv:=List.getElem?_eq_getElem (l:=l.aa) (i:=c) (by omega)
   exact cI.dD x c l _ (by omega) hv (h _ (List.mem_of_getElem? hv)) (by omega) (ih (c+1) (by omega))
 exact s l.aa.length 0 (by omega)
theorem I6{l:aj}(R1:l.aa.length≤40){x:ByteArray}{k:Nat}{b:ab}(h1:l.aa[k]? = some b)(h2:b.name=x)(h3:∀(i:Nat) b',i<k→l.aa[i]? = some b'→b'.name≠x):Cp 63 [l.pv,.str x] (.bh [vI (k:Int),vI 0]):=by
 refine cI.e0 l x ?_
 have hk:=(List.getElem?_eq_some_iff.1 h1).1
 have s:∀(n c:Nat),c+n=k→cI.ar x c l (.bh [vI (k:Int),vI 0]):=by
  intro n
  induction n with
  |zero =>
   intro c hc
   have:c=k:=by omega
   subst this
   exact cI.dC x c l b hk h1 h2
  |succ n ih =>
   intro c hc
   have hv:=List.getElem?_eq_getElem (l:=l.aa) (i:=c) (by omega)
   exact cI.dD x c l _ (by omega) hv (h3 c _ (by omega) hv) (by omega) (ih (c+1) (by omega))
 exact s k 0 (by omega)
theorem copied{l:aj}(hl:Ju l):aw a7 50 [.pv l.pv] [] (.gj [.pv (.str l.name),.row 49 0 l.aa.length 2,.row 13 0 l.an.length 7,.row 19 0 l.ak.length 2]) [(49,(.pure ((l.aa:List ab).map ab.cells).flatten)),(13,(.pure ((l.an:List ag).map ag.cells).flatten)),(19,(.pure ((l.ak:List af).map af.cells).flatten))]:=by
 have hb:=hl.b
 refine O3 (s:=[(2,(.lit [(.pv (.str l.name)),(.row 49 0 l.aa.length 2),(.row 13 0 l.an.length 7),(.row 19 0 l.ak.length 2)]))]) (by omega) (by omega) (by omega) ?_ (fun y off len sz h=>by simpa using(show y=49∨y=13∨y=19 by simp at h;omega))
 refine eT.e0 l (by rw[List.nil_append];have:=hl.j;omega) (by rw[List.nil_append];have:=hl.d;omega) ?_
 have s:∀(n b:Nat),b+n=l.aa.length→eT.ar b l (l.aa.take b) [] (.gj [.pv (.str l.name),.row 49 0 l.aa.length 2,.row 13 0 l.an.length 7,.row 19 0 l.ak.length 2]) [(49,(.pure ((l.aa:List ab).map ab.cells).flatten)),(13,(.pure ((l.an:List ag).map ag.cells).flatten)),(19,(.pure ((l.ak:List af).map af.cells).flatten)),(2,(.lit [(.pv (.str l.name)),(.row 49 0 l.aa.length 2),(.row 13 0 l.an.length 7),(.row 19 0 l.ak.length 2)]))]:=by
  intro n
  induction n with
  |zero =>
   intro b Jf
   have e:l.aa.take b=l.aa:=List.take_of_length_le (by omega)
   rw[e]
   exact eT.dD b l l.aa rfl rfl (by omega)
  |succ n ih =>
   intro b Jf
   have hv:=List.getElem?_eq_getElem (l:=l.aa) (i:=b) (by omega)
   generalize l.aa[b]=v at hv
   have h:=ih (b+1) (by omega)
   rw[ep hv] at h
   exact eT.dC b l _ v rfl (by omega) hv (by rw[List.nil_append];have:=hl.p v (List.mem_of_getElem? hv);omega) (by rw[List.length_append,List.length_take,List.length_singleton];omega) (by omega) h
 exact s l.aa.length 0 (by omega)
theorem I4{l:aj}(hl:Ju l){wX:ByteArray}(nm:ByteArray)(h:∀b∈l.aa,b.name≠wX):Cp 27 [l.pv,.str wX,.str nm] (.bh [jm.pv,vI 5]) :=
 gn.e0 l wX nm 0 5 (Nd hl.b h) (by omega)
theorem Dj{l:aj}(hl:Ju l)(hf:iM l)(hn:(l.aa.map ab.name).Nodup){nm:ByteArray}(hs:nm.size<9223372036854775808){k:Nat}{b:ab}(hb:l.aa[k]? = some b)(h0:gN (jD l k nm)=0) :
  Cp 27 [l.pv,.str b.name,.str nm] (.bh [(jD l k nm).pv,vI 0]):=by
 have hk:=(List.getElem?_eq_some_iff.1 hb).1
 have hm:=Check (jD l k nm) (qd hf k hs)
 unfold jD at hm h0 ⊢
 rw[jF hb] at hm h0 ⊢
 exact gn.e2 l b.name nm k 0 l.name l.aa l.an l.ak k b _ (I6 hl.b hb rfl (uS hn hb)) rfl (copied hl) rfl hk hb (by rw[List.length_set]) hm h0
theorem BP{l:aj}(hl:Ju l)(hf:iM l)(hn:(l.aa.map ab.name).Nodup){nm:ByteArray}(hs:nm.size<9223372036854775808){k:Nat}{b:ab}(hb:l.aa[k]? = some b)(h0:gN (jD l k nm)≠0) :
  Cp 27 [l.pv,.str b.name,.str nm] (.bh [jm.pv,vI (gN (jD l k nm))]):=by
 have hk:=(List.getElem?_eq_some_iff.1 hb).1
 have hm:=Check (jD l k nm) (qd hf k hs)
 have e:jD l k nm=⟨l.name,l.aa.set k ⟨nm,b.points⟩,l.an,l.ak⟩:=by unfold jD;rw[jF hb]
 rw[e] at hm h0 ⊢
 exact gn.e1 l b.name nm k 0 l.name l.aa l.an l.ak k b _ (I6 hl.b hb rfl (uS hn hb)) rfl (copied hl) rfl hk hb (by rw[List.length_set]) hm h0
end BK
structure rY (l:aj):Prop where
 name:l.name.size<9223372036854775808
 aa:∀b∈l.aa,b.name.size<9223372036854775808∧∀m∈b.points,m.name.size<9223372036854775808∧(m.x.num.length≤140737488355328∧m.x.den.length≤140737488355328)∧m.y.num.length≤140737488355328∧m.y.den.length≤140737488355328
 an:∀j∈l.an,j.name.size<9223372036854775808
 ak:∀d∈l.ak,d.name.size<9223372036854775808
def O6(m:au):Prop:=m.x.num.length+m.x.den.length+m.y.num.length+m.y.den.length≤12
namespace Ls
theorem AF{l:aj}(hh:rY l):∃d,Cp 11 [l.pv] (vB d)∧(d=false→Ju l∧∀b∈l.aa,∀m∈b.points,O6 m):=by
 by_cases h1:l.aa.length≤40
 ·by_cases h2:l.an.length≤60
  ·by_cases h3:l.ak.length≤40
   ·have s1:∀(n b:Nat),b+n=l.aa.length→∃d,bH.ar b l (vB d)∧(d=false→∀(i:Nat) v,b≤i→l.aa[i]? = some v→v.points.length≤40∧∀m∈v.points,O6 m):=by
     intro n
     induction n with
     |zero=>intro b hb;exact⟨false,bH.kM b l (by omega),fun _ i v hi hv=>by have:=(List.getElem?_eq_some_iff.1 hv).1;omega⟩
     |succ n ih =>
      intro b hb
      have hv:=List.getElem?_eq_getElem (l:=l.aa) (i:=b) (by omega)
      generalize l.aa[b]=v at hv
      have sr:=(hh.aa v (List.mem_of_getElem? hv)).2
      by_cases h4:v.points.length≤40
      ·obtain⟨d1,k1,k2⟩:=ih (b+1) (by omega)
       have s2:∀(n c:Nat),c+n=v.points.length→∃d,bH.aJ b c l (vB d)∧(d=false→(∀(i:Nat) m,c≤i→v.points[i]? = some m→O6 m)∧d1=false):=by
        intro n
        induction n with
        |zero=>intro c hc;exact⟨d1,bH.vv b c l v hv (by omega) (by omega) k1,fun h=>⟨fun i m hi hm=>by have:=(List.getElem?_eq_some_iff.1 hm).1;omega,h⟩⟩
        |succ n Hv =>
         intro c hc
         have hp:=List.getElem?_eq_getElem (l:=v.points) (i:=c) (by omega)
         generalize v.points[c]=m at hp
         obtain⟨_,⟨f1,f2⟩,f3,f4⟩:=sr m (List.mem_of_getElem? hp)
         by_cases h5:m.x.num.length+m.x.den.length+m.y.num.length+m.y.den.length≤12
         ·obtain⟨d2,q1,q2⟩:=Hv (c+1) (by omega)
          refine⟨d2,bH.nL b c l v m hv (by omega) hp (by omega) (by omega) (by omega) h5 (by omega) q1,fun h=>⟨fun i m' hi FW => ?_,(q2 h).2⟩⟩
          by_cases hic:i=c
          ·subst hic;rw[hp] at FW;injection FW with FW;rw[←FW];exact h5
          ·exact(q2 h).1 i m' (by omega) FW
         ·exact⟨true,bH.nK b c l v m hv (by omega) hp (by omega) (by omega) (by omega) (by omega),fun h=>by cases h⟩
       obtain⟨d2,q1,q2⟩:=s2 v.points.length 0 (by omega)
       refine⟨d2,bH.dD b l v (by omega) hv h4 q1,fun h i w hi hw => ?_⟩
       by_cases FT:i=b
       ·subst FT;rw[hv] at hw;injection hw with hw;subst hw
        exact⟨h4,fun m hm=>by obtain⟨i,hi⟩:=List.mem_iff_getElem?.1 hm;exact(q2 h).1 i m (Nat.zero_le _) hi⟩
       ·exact k2 (q2 h).2 i w (by omega) hw
      ·exact⟨true,bH.dC b l v (by omega) hv (by omega),fun h=>by cases h⟩
    obtain⟨d,q1,q2⟩:=s1 l.aa.length 0 (by omega)
    refine⟨d,bH.e3 l h1 h2 h3 q1,fun h=>⟨⟨h1,h2,h3,fun b hb => ?_⟩,fun b hb => ?_⟩⟩
    ·obtain⟨i,hi⟩:=List.mem_iff_getElem?.1 hb;exact(q2 h i b (Nat.zero_le _) hi).1
    ·obtain⟨i,hi⟩:=List.mem_iff_getElem?.1 hb;exact(q2 h i b (Nat.zero_le _) hi).2
   ·exact⟨true,bH.e2 l h1 h2 (by omega),fun h=>by cases h⟩
  ·exact⟨true,bH.e1 l h1 (by omega),fun h=>by cases h⟩
 ·exact⟨true,bH.e0 l (by omega),fun h=>by cases h⟩
theorem fit{l:aj}(hh:rY l)(hw:∀b∈l.aa,∀m∈b.points,O6 m):iM l where
 name:=hh.name
 aa b hb:=⟨(hh.aa b hb).1,fun m hm=>⟨((hh.aa b hb).2 m hm).1,by
  have:=hw b hb m hm
  unfold O6 at this
  unfold gC
  omega⟩⟩
 an:=hh.an
 ak:=hh.ak
theorem Dl:iM jm where
 name:=by decide
 aa b hb:=nomatch hb
 an b hb:=nomatch hb
 ak b hb:=nomatch hb
theorem FK:Ju jm:=⟨by decide,by decide,by decide,fun b hb=>nomatch hb⟩
theorem EK:Cp 18 [jm.pv] (vB true):=by
 have:=nd.e0 jm _ (jk jm jm FK Dl)
 rwa[dZ rfl] at this
abbrev nA:ByteArray:=⟨#[65]⟩
abbrev nB:ByteArray:=⟨#[66]⟩
abbrev nF:ByteArray:=⟨#[102,114,97,109,101]⟩
abbrev nR:ByteArray:=⟨#[114,111,100]⟩
abbrev nC:ByteArray:=⟨#[99,114,97,110,107]⟩
abbrev mA:au:=⟨nA,⟨false,[],[]⟩,⟨false,[],[]⟩⟩
abbrev mB:au:=⟨nB,qc ((3:Int):Rat),qc ((4:Int):Rat)⟩
abbrev bF:ab:=⟨nF,[mA,mB]⟩
abbrev bR:ab:=⟨nR,[mA,mB]⟩
abbrev bC:ab:=⟨nC,[mA,mB]⟩
abbrev jX:ag:=⟨⟨#[106]⟩,0,1,1,2,0,0⟩
abbrev ex:aj:=⟨⟨#[109]⟩,[bF,bR,bC],[jX],[]⟩
theorem FL(a b:Array UInt8):strLt ⟨a⟩ ⟨b⟩=Op.bytesLess a.toList b.toList:=by
 unfold strLt;rw[ByteArray.toList_eq,ByteArray.toList_eq]
theorem Ta:strLt nA nB=true:=by rw[FL];decide
theorem U4:strLt nB nA=false:=by rw[FL];decide
theorem Tb:strLt nC nR=true:=by rw[FL];decide
theorem U5:strLt nR nC=false:=by rw[FL];decide
theorem Nf{n:Int}(h:aK n):ht (n:Rat)≤2:=by
 rw[MV]
 have:wl n≤2:=Fm (by unfold aK at h;omega)
 omega
theorem EL{q:Rat}(h:ht q≤1000):gC (qc q):=by
 by_cases h0:q=0
 ·subst h0;constructor<;>simp[uL]
 ·rw[qP h0]
  exact⟨Nat.le_trans (jh q) h,Nat.le_trans (jW q) h⟩
theorem U6:gC mA.x∧gC mA.y:=by unfold gC;simp
theorem U7:gC mB.x∧gC mB.y :=
 ⟨EL (Nat.le_trans (Nf (by unfold aK;omega)) (by omega)),EL (Nat.le_trans (Nf (by unfold aK;omega)) (by omega))⟩
theorem O7:Cp 32 [] ex.pv:=lU.e0 _ _ (IH.Of 3 (by unfold aK;omega)) (IH.Of 4 (by unfold aK;omega))
theorem Jq:GP [mA,mB] where
 len:=by show 2≤8;omega
 nodup:=by show[nA,nB].Nodup;decide
 all m hm:=by
  rcases List.mem_cons.1 hm with rfl|hm
  ·exact⟨by decide,rfl,rfl⟩
  ·have:m=mB:=by simpa using hm
   subst this
   exact⟨by decide,vH _,vH _⟩
theorem Lt:Ok ex where
 name:=by decide
 pos:=by show 0<3;omega
 len:=by show 3≤8;omega
 aa b hb:=by
  rcases List.mem_cons.1 hb with rfl|hb
  ·exact⟨by decide,Jq⟩
  ·rcases List.mem_cons.1 hb with rfl|hb
   ·exact⟨by decide,Jq⟩
   ·have:b=bC:=by simpa using hb
    subst this
    exact⟨by decide,Jq⟩
 bn:=by show[nF,nR,nC].Nodup;decide
 jl:=by show 1≤16;omega
 an j hj:=by
  have:j=jX:=by simpa using hj
  subst this
  exact⟨by decide,bR,bC,mB,mA,rfl,rfl,by decide,rfl,rfl,.inl ⟨rfl,rfl⟩⟩
 jn:=by show[(⟨#[106]⟩:ByteArray)].Nodup;decide
 dl:=by show 0≤2;omega
 ak d hd:=by cases hd
 dn := .nil
 db := .nil
theorem I7:iM ex where
 name:=by decide
 aa b hb:=by
  have hm:∀m∈[mA,mB],m.name.size<9223372036854775808∧gC m.x∧gC m.y:=fun m hm=>by
   rcases List.mem_cons.1 hm with rfl|hm
   ·exact⟨by decide,U6⟩
   ·have:m=mB:=by simpa using hm
    subst this
    exact⟨by decide,U7⟩
  rcases List.mem_cons.1 hb with rfl|hb
  ·exact⟨by decide,hm⟩
  ·rcases List.mem_cons.1 hb with rfl|hb
   ·exact⟨by decide,hm⟩
   ·have:b=bC:=by simpa using hb
    subst this
    exact⟨by decide,hm⟩
 an j hj:=by
  have:j=jX:=by simpa using hj
  subst this;decide
 ak d hd:=by cases hd
theorem I8:b8 au.name [mA,mB]=[mA,mB]:=Br (by
 refine List.pairwise_cons.2 ⟨fun b hb => ?_,List.pairwise_singleton ..⟩
 have:b=mB:=by simpa using hb
 subst this;exact Ta)
theorem U8:nb bR=bR:=by unfold nb;rw[I8]
theorem U9:nb bC=bC:=by unfold nb;rw[I8]
theorem Va:nb bF=bF:=by unfold nb;rw[I8]
theorem Vb:rk ab.name [bR,bC] nR=1:=by
 unfold rk
 rw[List.countP_cons_of_neg (by rw[fA];simp),List.countP_cons_of_pos (by exact Tb)];rfl
theorem Vc:rk ab.name [bR,bC] nC=0:=by
 unfold rk
 rw[List.countP_cons_of_neg (by rw[show strLt (ab.name bR) nC=false from U5];simp),List.countP_cons_of_neg (by rw[fA];simp)];rfl
theorem Vd:rk au.name [mA,mB] nB=1:=by
 unfold rk
 rw[List.countP_cons_of_pos (by exact Ta),List.countP_cons_of_neg (by rw[fA];simp)];rfl
theorem Ve:rk au.name [mA,mB] nA=0:=by
 unfold rk
 rw[List.countP_cons_of_neg (by rw[fA];simp),List.countP_cons_of_neg (by rw[show strLt (au.name mB) nA=false from U4];simp)];rfl
theorem Vf:gO ex 1=2:=by
 show 1+(rk ab.name [bR,bC] nR:Int)=2
 rw[Vb];rfl
theorem Vg:gO ex 2=1:=by
 show 1+(rk ab.name [bR,bC] nC:Int)=1
 rw[Vc];rfl
theorem Vh:nJ ex 1 1=1:=by
 show(rk au.name [mA,mB] nB:Int)=1
 rw[Vd];rfl
theorem Vi:nJ ex 2 0=0:=by
 show(rk au.name [mA,mB] nA:Int)=0
 rw[Ve];rfl
theorem R2:jN ex jX=⟨⟨#[106]⟩,0,1,0,2,1,0⟩:=by
 have e:jN ex jX=uM jX (gO ex 1) (nJ ex 1 1) (gO ex 2) (nJ ex 2 0):=by
  unfold jN;rw[if_neg (by decide)]
 rw[e,Vf,Vg,Vh,Vi];rfl
theorem KL:bY ex=⟨⟨#[109]⟩,[bF,bC,bR],[⟨⟨#[106]⟩,0,1,0,2,1,0⟩],[]⟩:=by
 have h1:eJ [bF,bR,bC]=[bF,bC,bR]:=by
  show nb bF::b8 ab.name [nb bR,nb bC]=_
  rw[Va,U8,U9]
  congr 1
  refine(qb (by show[nR,nC].Nodup;decide) ?_ (.swap bR bC [])).symm
  refine List.pairwise_cons.2 ⟨fun b hb => ?_,List.pairwise_singleton ..⟩
  have:b=bR:=by simpa using hb
  subst this;exact Tb
 show aj.mk _ (eJ [bF,bR,bC]) (b8 ag.name [jN ex jX]) (b8 af.name [])=_
 rw[h1,R2];rfl
theorem KM:pA.FJ [mA,mB]=[qc ((25:Int):Rat)]:=by
 show([]:List aW)++([qc (pA.NJ mA mB)]++[])=_
 rw[List.nil_append,List.append_nil]
 congr 2
 unfold pA.NJ
 rw[show mB.x.val=((3:Int):Rat) from nE _,show mB.y.val=((4:Int):Rat) from nE _,show mA.x.val=0 from rfl]
 decide +kernel
theorem eV:Cp 10 [] (vB true):=by
 have hN:=pA.rX Lt I7
 rw[KL] at hN
 have hL:=pA.Nc Lt I7 (k:=1) (v:=bR) rfl
 rw[show bR.points=[mA,mB] from rfl,KM] at hL
 have hR:=DB.R0 [qc ((25:Int):Rat)] [qc ((25:Int):Rat)] (by show 1<_;omega) (fun a ha=>by
  have:a=qc ((25:Int):Rat):=by simpa using ha
  subst this
  have h:=EL (Nat.le_trans (Nf (n:=25) (by unfold aK;omega)) (by omega))
  have:=h.1
  have:=h.2
  omega)
 rw[Gu] at hR
 exact nc.e0 ex _ ex _ bC ⟨⟨#[106]⟩,0,1,0,2,1,0⟩ _ _ O7 hN O7 hL rfl rfl rfl rfl rfl (by decide) (IH.Of 25 (by unfold aK;omega)) hR
theorem Dm(a b:aj)(ha:rY a)(hb:rY b):Cp 6 [a.pv,b.pv] (vB true):=by
 obtain⟨d,h1,h2⟩:=AF ha
 cases d with
 |true=>exact cF.e1 a b _ _ _ eV rfl h1 rfl eV
 |false =>
  obtain⟨g,h3,h4⟩:=AF hb
  cases g with
  |true=>exact cF.e2 a b _ _ _ _ eV rfl h1 rfl h3 rfl eV
  |false =>
   have fa:=fit ha (h2 rfl).2
   have fb:=fit hb (h4 rfl).2
   have ca:=BK.Check a fa
   have cb:=BK.Check b fb
   by_cases ka:gN a=0
   ·have oa:=fG.1 ka
    rw[ka] at ca
    have hE:=jk (bY a) (bY a) oa.norm.IV (kH fa)
    rw[dZ rfl] at hE
    by_cases kb:gN b=0
    ·have ob:=fG.1 kb
     rw[kb] at cb
     have:=cF.e6 a b _ _ _ (bY a) none _ none _ _ _ _ (bY a) _ _ eV rfl h1 rfl h3 rfl (pA.rX oa fa) (pA.Gw oa ob fa fb) ca rfl cb (DB.Jt none) rfl (DB.Jt none) rfl rfl (BK.Norm oa) hE rfl (BK.Gw oa ob fa)
     rwa[beq_self_eq_true] at this
    ·exact cF.e5 a b _ _ _ (bY a) none _ (some (gN b)) _ _ _ _ (bY a) _ eV rfl h1 rfl h3 rfl (pA.rX oa fa) (pA.IZ oa fa fb kb) ca rfl cb (DB.Jt none) rfl (DB.Jt (some (gN b))) rfl kb rfl (BK.Norm oa) hE rfl
   ·exact cF.e7 a b _ _ _ jm (some (gN a)) _ (some (gN a)) _ _ _ _ eV rfl h1 rfl h3 rfl (pA.BO fa ka) (pA.I2 fa ka) ca ka (DB.Jt (some (gN a))) rfl (DB.Jt (some (gN a))) rfl EK rfl rfl
theorem zP(l:aj)(wX nm:ByteArray)(hl:rY l):Cp 5 [l.pv,.str wX,.str nm] (vB true):=by
 obtain⟨d,h1,h2⟩:=AF hl
 cases d with
 |true=>exact bL.e1 l wX nm _ _ _ eV rfl h1 rfl eV
 |false =>
  by_cases s1:wX.size≤100
  ·by_cases s2:nm.size≤100
   ·have fl:=fit hl (h2 rfl).2
    have cl:=BK.Check l fl
    by_cases k:gN l=0
    ·have ol:=fG.1 k
     rw[k] at cl
     have hs:nm.size<9223372036854775808:=by omega
     have hZ:=jk jm jm FK Dl
     rw[dZ rfl] at hZ
     rcases Na l.aa wX with ⟨i,b,q1,rfl,q3⟩|q
     ·by_cases k2:gN (jD l i nm)=0
      ·have hE:=jk (jD l i nm) (jD l i nm) (KK ol.IV i nm) (qd fl i hs)
       rw[dZ rfl] at hE
       exact bL.e5 l b.name nm _ _ _ none _ _ _ _ _ eV rfl h1 rfl s1 s2 (pA.Dj ol fl hs q1 k2) cl rfl (BK.Dj ol.IV fl ol.bn hs q1 k2) (DB.Jt none) rfl hE
      ·exact bL.e5 l b.name nm _ _ jm (some (gN (jD l i nm))) _ jm _ _ _ eV rfl h1 rfl s1 s2 (pA.BP ol fl hs q1 k2) cl rfl (BK.BP ol.IV fl ol.bn hs q1 k2) (DB.Jt (some (gN (jD l i nm)))) rfl hZ
     ·exact bL.e5 l wX nm _ _ jm (some 5) _ jm _ _ _ eV rfl h1 rfl s1 s2 (pA.I4 ol fl nm q) cl rfl (BK.I4 ol.IV nm q) (DB.Jt (some 5)) rfl hZ
    ·have:=bL.e4 l wX nm _ _ jm (some (gN l)) _ _ _ eV rfl h1 rfl s1 s2 (pA.Nb fl k wX nm) cl k EK rfl (DB.Jt (some (gN l)))
     rwa[show (((some (gN l)).getD 0:Int)==gN l)=true from beq_self_eq_true _] at this
   ·exact bL.e3 l wX nm _ _ _ eV rfl h1 rfl s1 (by omega) eV
  ·exact bL.e2 l wX nm _ _ _ eV rfl h1 rfl (by omega) eV
theorem Dn(l:aj)(hl:rY l):Cp 7 [l.pv] (vB true):=by
 obtain⟨d,h1,h2⟩:=AF hl
 cases d with
 |true=>exact eu.e1 l _ _ _ eV rfl h1 rfl eV
 |false =>
  have fl:=fit hl (h2 rfl).2
  have cl:=pA.Check l fl
  by_cases k:gN l=0
  ·have ol:=fG.1 k
   rw[k] at cl
   have hN:=pA.rX ol.norm (kH fl)
   rw[ol.idem] at hN
   have hS:=pA.Gw ol ol.norm fl (kH fl)
   rw[ol.idem,dZ rfl] at hS
   have hE:=jk (bY l) (bY l) ol.norm.IV (kH fl)
   rw[dZ rfl] at hE
   have hC:=pA.Check (bY l) (kH fl)
   rw[fG.2 ol.norm] at hC
   exact eu.e2 l _ _ (bY l) (bY l) _ _ eV rfl h1 rfl cl (pA.rX ol fl) hN hS rfl hE rfl hC
  ·rw[mV k] at cl
   exact eu.e3 l _ _ _ _ eV rfl h1 rfl cl eV
theorem O8(l:aj)(pick:Nat)(nm:ByteArray)(hl:rY l)(hp:pick<256):Cp 9 [l.pv,.int .u8 (pick:Int),.str nm] (vB true):=by
 obtain⟨d,h1,h2⟩:=AF hl
 cases d with
 |true=>exact cR.e1 l pick nm _ _ _ eV rfl h1 rfl eV
 |false =>
  have fl:=fit hl (h2 rfl).2
  have cl:=pA.Check l fl
  by_cases k:gN l=0
  ·have ol:=fG.1 k
   rw[k] at cl
   by_cases s2:nm.size≤100
   ·have hs:nm.size<9223372036854775808:=by omega
    have Gt:=ol.pos
    have hv:=List.getElem?_eq_getElem (l:=l.aa) (i:=pick%l.aa.length) (Nat.mod_lt _ Gt)
    generalize l.aa[pick%l.aa.length]'(Nat.mod_lt _ Gt)=v at hv
    by_cases k2:gN (jD l (pick%l.aa.length) nm)=0
    ·have om:=fG.1 k2
     have fm:=qd fl (pick%l.aa.length) hs
     have hg:(jD l (pick%l.aa.length) nm).aa[pick%l.aa.length]? = some ⟨nm,v.points⟩:=yT hv nm
     have e:=Gk (l:=l) hv nm
     have hb:=pA.Dj om fm (nm:=v.name) (fl.aa v (List.mem_of_getElem? hv)).1 hg (by rw[e];exact k)
     rw[e] at hb
     have hE:=jk l l ol.IV fl
     rw[dZ rfl] at hE
     have:=cR.e3 l pick nm _ _ v _ l _ _ eV rfl h1 rfl cl s2 (by omega) (by omega) hv (pA.Dj ol fl hs hv k2) hb (pA.Gw ol om fl fm) hE rfl
     have e2:cB (bY l=bY (jD l (pick%l.aa.length) nm))=decide (nm=v.name):=by
      by_cases q:nm=v.name
      ·rw[dZ ((AA ol hv).2 q),decide_eq_true q]
      ·rw[cK (fun e=>q ((AA ol hv).1 e)),decide_eq_false q]
     rwa[e2,beq_self_eq_true] at this
    ·exact cR.e4 l pick nm _ _ v jm _ _ eV rfl h1 rfl cl s2 (by omega) (by omega) hv (pA.BP ol fl hs hv k2) EK
   ·exact cR.e2 l pick nm _ _ _ eV rfl h1 rfl cl (by omega) eV
  ·rw[mV k] at cl
   exact cR.e5 l pick nm _ _ _ _ eV rfl h1 rfl cl eV
theorem EM(l:aj)(pick:Int)(nm:ByteArray)(hl:rY l)(hp:0≤pick∧pick≤255):Cp 9 [l.pv,.int .u8 pick,.str nm] (vB true):=by
 have:=O8 l pick.toNat nm hl (by omega)
 rwa[show ((pick.toNat:Nat):Int)=pick by omega] at this
end Ls
end Go.Proofs.YtfjfekodeplcoaaGreat.Sym
namespace Go.Proofs.YtfjfekodeplcoaaGreat.Sym
open Go Go.RowKit Go.ChangeShapes Go.WideShapes
set_option linter.unusedVariables false
theorem kJ{P:Program}{t:TypeId}(ht:P.underlying t=some .string):lH P t (fun s:ByteArray=>[.str s]) (fun s=>s.size<9223372036854775808):=by
 intro H enc w base spare held fuel cs x h _
 obtain⟨s,rfl,_,hw⟩:=DataW.trod_string ht h
 exact⟨s,kt rfl (.str _),by unfold maxLen at hw;omega⟩
theorem Ng{α:Type}(cs:List α)(h:cs.length=1+1+1+1):cs=(cs.drop 0).take 1++((cs.drop 1).take 1++((cs.drop 2).take 1++(cs.drop 3).take 1)):=by
 match cs,h with
 |[a,b,c,d],_=>rfl
theorem Nh{α:Type}(cs:List α)(h:cs.length=1+1+1+1+1+1+1):cs=(cs.drop 0).take 1++((cs.drop 1).take 1++((cs.drop 2).take 1++((cs.drop 3).take 1++((cs.drop 4).take 1++((cs.drop 5).take 1++(cs.drop 6).take 1))))):=by
 match cs,h with
 |[a,b,c,d,e,f,g],_=>rfl
def I9(m:au):Prop:=m.name.size<9223372036854775808∧MH m.x∧MH m.y
theorem Dp:lH a7 73 au.cells I9:=by
 intro H enc w base spare held fuel cs x h px
 obtain⟨fs,hu,e⟩:=gg (show lI (a7.underlying 73)=some [(9,0),(29,1),(29,4)] by kernel_rfl)
 have hl:=jz hu h
 have hl:cs.length=1+3+3:=hl.trans (by kernel_rfl)
 obtain⟨a,r0,q0⟩:=b7 hu h px 0 0 1 (e 0) (by kernel_rfl) (kJ (show a7.underlying 9=some .string by kernel_rfl))
 obtain⟨b,r1,q1⟩:=b7 hu h px 1 1 3 (e 1) (by kernel_rfl) yJ
 obtain⟨c,r2,q2⟩:=b7 hu h px 2 4 3 (e 2) (by kernel_rfl) yJ
 refine⟨⟨a,b,c⟩,?_,q0,q1,q2⟩
 rw[Ie cs 1 3 3 hl]
 exact cf r0 (cf r1 r2)
theorem Dq:lH a7 61 (k9 au.cells) (fun l=>∀m∈l,I9 m):=by
 intro H enc w base spare held fuel cs x h px
 obtain⟨l,h1,_,h2⟩:=mF (s:=7) (show a7.underlying 61=some (.slice 73) by kernel_rfl) (by kernel_rfl) (by omega) (sb:=128) (by kernel_rfl) (fun _=>rfl) Dp enc w base spare held fuel cs x h px
 exact⟨l,h1,h2⟩
def Lu(b:ab):Prop:=b.name.size<9223372036854775808∧∀m∈b.points,I9 m
theorem Dr:lH a7 63 ab.cells Lu:=by
 intro H enc w base spare held fuel cs x h px
 obtain⟨fs,hu,e⟩:=gg (show lI (a7.underlying 63)=some [(9,0),(61,1)] by kernel_rfl)
 have hl:=jz hu h
 have hl:cs.length=1+1:=hl.trans (by kernel_rfl)
 obtain⟨a,r0,q0⟩:=b7 hu h px 0 0 1 (e 0) (by kernel_rfl) (kJ (show a7.underlying 9=some .string by kernel_rfl))
 obtain⟨b,r1,q1⟩:=b7 hu h px 1 1 1 (e 1) (by kernel_rfl) Dq
 refine⟨⟨a,b⟩,?_,q0,q1⟩
 rw[Ig cs 1 1 hl]
 exact cf r0 r1
theorem BQ:lH a7 22 (k9 ab.cells) (fun l=>∀b∈l,Lu b):=by
 intro H enc w base spare held fuel cs x h px
 obtain⟨l,h1,_,h2⟩:=mF (s:=2) (show a7.underlying 22=some (.slice 63) by kernel_rfl) (by kernel_rfl) (by omega) (sb:=40) (by kernel_rfl) (fun _=>rfl) Dr enc w base spare held fuel cs x h px
 exact⟨l,h1,h2⟩
theorem BR:lH a7 65 ag.cells (fun j=>j.name.size<9223372036854775808):=by
 intro H enc w base spare held fuel cs x h px
 obtain⟨fs,hu,e⟩:=gg (show lI (a7.underlying 65)=some [(9,0),(3,1),(3,2),(3,3),(3,4),(3,5),(3,6)] by kernel_rfl)
 have hl:=jz hu h
 have hl:cs.length=1+1+1+1+1+1+1:=hl.trans (by kernel_rfl)
 have hi:lH a7 3 (fun n:Int=>[.int .i64 n]) (fun n=>(Lit.int .i64 n).wf=true):=pY (show a7.underlying 3=some (.int .i64) by kernel_rfl)
 obtain⟨a,r0,q0⟩:=b7 hu h px 0 0 1 (e 0) (by kernel_rfl) (kJ (show a7.underlying 9=some .string by kernel_rfl))
 obtain⟨b,r1,_⟩:=b7 hu h px 1 1 1 (e 1) (by kernel_rfl) hi
 obtain⟨c,r2,_⟩:=b7 hu h px 2 2 1 (e 2) (by kernel_rfl) hi
 obtain⟨d,r3,_⟩:=b7 hu h px 3 3 1 (e 3) (by kernel_rfl) hi
 obtain⟨g,r4,_⟩:=b7 hu h px 4 4 1 (e 4) (by kernel_rfl) hi
 obtain⟨i,r5,_⟩:=b7 hu h px 5 5 1 (e 5) (by kernel_rfl) hi
 obtain⟨j,r6,_⟩:=b7 hu h px 6 6 1 (e 6) (by kernel_rfl) hi
 refine⟨⟨a,b,c,d,g,i,j⟩,?_,q0⟩
 rw[Nh cs hl]
 exact cf r0 (cf r1 (cf r2 (cf r3 (cf r4 (cf r5 r6)))))
theorem BS:lH a7 23 (k9 ag.cells) (fun l=>∀j∈l,j.name.size<9223372036854775808):=by
 intro H enc w base spare held fuel cs x h px
 obtain⟨l,h1,_,h2⟩:=mF (s:=7) (show a7.underlying 23=some (.slice 65) by kernel_rfl) (by kernel_rfl) (by omega) (sb:=64) (by kernel_rfl) (fun _=>rfl) BR enc w base spare held fuel cs x h px
 exact⟨l,h1,h2⟩
theorem zQ:lH a7 67 af.cells (fun d=>d.name.size<9223372036854775808):=by
 intro H enc w base spare held fuel cs x h px
 obtain⟨fs,hu,e⟩:=gg (show lI (a7.underlying 67)=some [(9,0),(3,1)] by kernel_rfl)
 have hl:=jz hu h
 have hl:cs.length=1+1:=hl.trans (by kernel_rfl)
 obtain⟨a,r0,q0⟩:=b7 hu h px 0 0 1 (e 0) (by kernel_rfl) (kJ (show a7.underlying 9=some .string by kernel_rfl))
 obtain⟨b,r1,_⟩:=b7 hu h px 1 1 1 (e 1) (by kernel_rfl) (pY (k := .i64) (show a7.underlying 3=some (.int .i64) by kernel_rfl))
 refine⟨⟨a,b⟩,?_,q0⟩
 rw[Ig cs 1 1 hl]
 exact cf r0 r1
theorem zR:lH a7 24 (k9 af.cells) (fun l=>∀d∈l,d.name.size<9223372036854775808):=by
 intro H enc w base spare held fuel cs x h px
 obtain⟨l,h1,_,h2⟩:=mF (s:=2) (show a7.underlying 24=some (.slice 67) by kernel_rfl) (by kernel_rfl) (by omega) (sb:=24) (by kernel_rfl) (fun _=>rfl) zQ enc w base spare held fuel cs x h px
 exact⟨l,h1,h2⟩
theorem gM:lH a7 26 aj.cells rY:=by
 intro H enc w base spare held fuel cs x h px
 obtain⟨fs,hu,e⟩:=gg (show lI (a7.underlying 26)=some [(9,0),(22,1),(23,2),(24,3)] by kernel_rfl)
 have hl:=jz hu h
 have hl:cs.length=1+1+1+1:=hl.trans (by kernel_rfl)
 obtain⟨a,r0,q0⟩:=b7 hu h px 0 0 1 (e 0) (by kernel_rfl) (kJ (show a7.underlying 9=some .string by kernel_rfl))
 obtain⟨b,r1,q1⟩:=b7 hu h px 1 1 1 (e 1) (by kernel_rfl) BQ
 obtain⟨c,r2,q2⟩:=b7 hu h px 2 2 1 (e 2) (by kernel_rfl) BS
 obtain⟨d,r3,q3⟩:=b7 hu h px 3 3 1 (e 3) (by kernel_rfl) zR
 have hr:=Ih
 refine⟨⟨a,b,c,d⟩,?_,q0,fun x hx=>⟨(q1 x hx).1,fun m hm => ?_⟩,q2,q3⟩
 ·rw[Ng cs hl]
  exact cf r0 (cf r1 (cf r2 r3))
 ·obtain⟨k1,⟨k2,k3⟩,k4,k5⟩:=(q1 x hx).2 m hm
  exact⟨k1,⟨by omega,by omega⟩,by omega,by omega⟩
end Go.Proofs.YtfjfekodeplcoaaGreat.Sym
end
