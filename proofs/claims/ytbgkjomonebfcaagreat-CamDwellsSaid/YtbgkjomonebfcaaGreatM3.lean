/- The statement CamDwells is proved: on a dwell the pressure angle is 0, and the radius of curvature is the radius; no condition. -/
import Derived.Test.YtbgkjomonebfcaaGreatM2
import Derived.Test.YtbgkjomonebfcaaGreatM0
import Derived.Test.YtbgkjomonebfcaaGreatRows
import Derived.JoinedCond
namespace Go.Proofs.YtbgkjomonebfcaaGreat.Sym
open Go Path CInt
set_option linter.unusedVariables false
def constB(l:ALaw)(t:Nat):Bool:=Nat.ble (pcW l t).length 1
def valW(l:ALaw)(t:Nat):Rat:=evalL (pcW l t) 0
def openB(l:ALaw)(t:Nat):Bool:=bif Nat.beq t 0 then false else constB l (t-1)
def contB(l:ALaw)(t:Nat):Bool:=openB l t&&decide (valW l (t-1)=valW l t)
def lastTo(acc:List (Rat×Rat))(e:Rat):List (Rat×Rat):=match acc[acc.length-1]? with
 |some v=>acc.set (acc.length-1) (v.1,e)
 |none=>acc
def dwellsF(l:ALaw):Nat→Nat→List (Rat×Rat)→List (Rat×Rat)
 |0,_,acc=>acc
 |j+1,t,acc=>bif constB l t then (bif contB l t then dwellsF l j (t+1) (lastTo acc (endW l t)) else dwellsF l j (t+1) (acc++[(brkW l t,endW l t)])) else dwellsF l j (t+1) acc
def dwellsW(l:ALaw):List (Rat×Rat):=dwellsF l l.pieces.length 0 []
def arcR(p:Rat×Rat):AArc:=⟨mkR p.1,mkR p.2⟩
theorem lastTo_len(acc:List (Rat×Rat))(e:Rat):(lastTo acc e).length=acc.length:=by
 unfold lastTo;split<;>simp
theorem ble_iff{a b:Nat} : Nat.ble a b=true↔a≤b:=⟨Nat.le_of_ble_eq_true,Nat.ble_eq_true_of_le⟩
theorem ble_fal{a b:Nat} : Nat.ble a b=false↔b<a:=by
 constructor
 ·intro h;exact Nat.not_le.1 fun e=>by rw[ble_iff.2 e] at h;cases h
 ·intro h
  cases hb:Nat.ble a b with
  |true=>have:=ble_iff.1 hb;omega
  |false=>rfl
theorem openB_succ(l:ALaw)(t:Nat):openB l (t+1)=constB l t:=rfl
theorem openB_zero(l:ALaw):openB l 0=false:=rfl
theorem const_cases{q:List Rat}(h:q.length≤1)(hz:lastZ q=false):q=[]∨∃a,q=[a]∧a≠0:=by
 match q with
 |[]=>exact Or.inl rfl
 |[a]=>exact Or.inr ⟨a,rfl,of_decide_eq_false hz⟩
 |a::b::r=>simp at h
theorem eval_one(a:Rat):evalL [a] 0=a:=by show 0*0+a=a;grind
theorem chkQ_last{q:List Rat}(h:chk (q.map mkR)=0):lastZ q=false:=by have:=chk_last h;rwa[vals_mkR] at this
namespace CLw
theorem same{p q:List Rat}(hp:p.length≤1)(hq:q.length≤1)(zp:lastZ p=false)(zq:lastZ q=false)(fp:Fl 68719476736 p)(fq:Fl 68719476736 q):Contract prg 140 [polyPV (p.map mkR),polyPV (q.map mkR)] (vB (decide (evalL p 0=evalL q 0))):=by
 rcases const_cases hp zp with rfl|⟨a,rfl,ha⟩
 ·rcases const_cases hq zq with rfl|⟨b,rfl,hb⟩
  ·exact law_same.e0 _ _ rfl rfl
  ·rw[decide_eq_false (by rw[eval_one];intro e;exact hb e.symm)]
   exact law_same.e2 _ _ (by simp)
 ·rcases const_cases hq zq with rfl|⟨b,rfl,hb⟩
  ·rw[decide_eq_false (by rw[eval_one];exact ha)]
   exact law_same.e2 _ _ (by simp)
  ·have c:=QF.Cmp a b (fp a (by simp)) (fq b (by simp))
   have:=law_same.e1 ([a].map mkR) ([b].map mkR) _ _ _ rfl (by simp) rfl rfl c
   rw[eval_one,eval_one]
   rwa[show ((cmpR a b)==0)=decide (a=b) from by
    rw[show ((cmpR a b)==0)=decide (cmpR a b=0) from rfl]
    exact decide_eq_decide.2 cmpR_eq] at this
theorem Dwells(l:ALaw)(hc:chkLaw l=0)(hf:FitW 1048576 l):Contract prg 66 [l.pv] (.tup [lpv AArc.cells ((dwellsW l).map arcR),.nilI]):=by
 have g:=good_of hc
 have hck:=Check l ⟨fun a ha=>⟨by have:=(hf.1 a ha).1;omega,by have:=(hf.1 a ha).2;omega⟩,fun p hp a ha=>⟨by have:=(hf.2 p hp a ha).1;omega,by have:=(hf.2 p hp a ha).2;omega⟩⟩
 rw[hc] at hck
 have hlen:=g.len
 have hle:=g.le
 have loop:∀(j t:Nat) (acc:List (Rat×Rat)),l.pieces.length-t=j→acc.length≤t→(openB l t=true→acc≠[])→t≤l.pieces.length→law_Dwells.Loop1 acc.length (openB l t) l t (acc.map arcR) (.tup [lpv AArc.cells ((dwellsF l j t acc).map arcR),.nilI]):=by
  intro j
  induction j with
  |zero=>intro t acc hj _ _ _;exact law_Dwells.l14 _ _ l t _ (by omega) (by simp)
  |succ j ih =>
   intro t acc hj hal hao htl
   have ht:t<l.pieces.length:=by omega
   obtain⟨b,p,hb,hp,eb,ep,hcp,h9⟩:=g.at ht
   rw[ep] at hp hcp
   rw[eb] at hb
   have he:=end' l t (by omega) (by omega) g.valid
   have e1:=ht_endW hf (by omega) t
   have e2:=ht_brkW hf (by omega) t
   have z1:=QF.addZ (endW l t) (by omega)
   have z2:=QF.addZ (brkW l t) (by omega)
   rw[dwellsF]
   cases hcb:constB l t with
   |false =>
    have:=ble_fal.1 hcb
    refine law_Dwells.l10 _ _ l t _ _ ht hp (by simpa using this) (by omega) ?_
    have:=ih (t+1) acc (by omega) (by omega) (by rw[openB_succ,hcb];intro h;cases h) (by omega)
    rwa[openB_succ,hcb] at this
   |true =>
    have h1:=ble_iff.1 hcb
    rw[cond_true]
    cases ho:openB l t with
    |false =>
     rw[show contB l t=false from by unfold contB;rw[ho];rfl,cond_false]
     refine law_Dwells.l13 _ _ l t _ _ _ _ _ _ ht hp (by simpa using h1) rfl hb z2 he z1 (by simp) (by simp;omega) (by omega) ?_
     have:=ih (t+1) (acc++[(brkW l t,endW l t)]) (by omega) (by simp;omega) (by simp) (by omega)
     rw[openB_succ,hcb] at this
     rwa[List.map_append,show(acc++[(brkW l t,endW l t)]).length=(acc.map arcR++[arcR (brkW l t,endW l t)]).length from by simp] at this
    |true =>
     have hne:=hao ho
     obtain⟨u,rfl⟩:∃u,t=u+1:=by
      cases t with
      |zero=>rw[openB_zero] at ho;cases ho
      |succ u=>exact⟨u,rfl⟩
     obtain⟨b',p',hb',hp',eb',ep',hcp',h9'⟩:=g.at (t:=u) (by omega)
     rw[ep'] at hp' hcp'
     have h1':=ble_iff.1 (show Nat.ble (pcW l u).length 1=true from ho)
     have sm:=same h1' h1 (chkQ_last hcp') (chkQ_last hcp) (fun y hy=>Nat.le_trans (fl_pcW hf (by omega) u y hy) (by omega)) (fun y hy=>Nat.le_trans (fl_pcW hf (by omega) (u+1) y hy) (by omega))
     by_cases hv:evalL (pcW l u) 0=evalL (pcW l (u+1)) 0
     ·rw[show contB l (u+1)=true from by unfold contB;rw[ho,Bool.true_and];exact decide_eq_true hv,cond_true]
      have hpos:0<acc.length:=List.length_pos_iff.2 hne
      obtain⟨w,hw⟩:∃w,acc[acc.length-1]? = some w:=⟨_,List.getElem?_eq_getElem (by omega)⟩
      refine law_Dwells.l11 _ _ l (u+1) _ _ u _ _ _ _ (acc.length-1) (arcR w) ht hp (by simpa using h1) rfl (by unfold InI64;omega) (by omega) hp' sm (decide_eq_true hv) (by unfold InI64;omega) he z1 (by omega) (by omega) (by rw[List.getElem?_map,hw];rfl) (by omega) ?_
      have:=ih (u+1+1) (lastTo acc (endW l (u+1))) (by omega) (by rw[lastTo_len];omega) (by intro _ e;rw[←List.length_eq_zero_iff,lastTo_len] at e;omega) (by omega)
      rw[openB_succ,hcb,lastTo_len] at this
      have e:(lastTo acc (endW l (u+1))).map arcR=(acc.map arcR).set (acc.length-1) ⟨(arcR w).fromV,mkR (endW l (u+1))⟩:=by
       unfold lastTo
       rw[hw]
       rw[List.map_set];rfl
      rwa[e] at this
     ·rw[show contB l (u+1)=false from by unfold contB;rw[ho,Bool.true_and];exact decide_eq_false hv,cond_false]
      refine law_Dwells.l12 _ _ l (u+1) _ _ u _ _ _ _ _ _ ht hp (by simpa using h1) rfl (by unfold InI64;omega) (by omega) hp' sm (decide_eq_false hv) hb z2 he z1 (by simp) (by simp;omega) (by omega) ?_
      have:=ih (u+1+1) (acc++[(brkW l (u+1),endW l (u+1))]) (by omega) (by simp;omega) (by simp) (by omega)
      rw[openB_succ,hcb] at this
      rwa[List.map_append,show(acc++[(brkW l (u+1),endW l (u+1))]).length=(acc.map arcR++[arcR (brkW l (u+1),endW l (u+1))]).length from by simp] at this
 exact law_Dwells.e0 l hck (loop _ 0 [] rfl (by simp) (by rw[openB_zero];intro h;cases h) (by omega))
end CLw
end Go.Proofs.YtbgkjomonebfcaaGreat.Sym
namespace Go.Proofs.YtbgkjomonebfcaaGreat.Sym
open Go Path CInt
set_option linter.unusedVariables false
theorem floor_eq{x:Rat}{n:Int}(h1:(n:Rat)≤x)(h2:x<(n:Rat)+1):x.floor=n:=by
 have a:=Rat.le_floor_iff.2 h1
 have b:x.floor<n+1:=by
  have:=Rat.floor_lt_iff (a:=x) (x:=n+1)
  rw[this]
  have:((n+1:Int):Rat)=(n:Rat)+1:=by simp
  rw[this];exact h2
 omega
theorem frac_id {x : Rat} (h1 : 0 ≤ x) (h2 : x < 1) : frac x = x := by
  have e : x.floor = 0 := floor_eq (by exact h1) (by have : (((0 : Int) : Rat)) = 0 := rfl
                                                     grind)
  unfold frac
  rw [e]
  have : (((0 : Int) : Rat)) = 0 := rfl
  grind
theorem piece_spec{l:ALaw}(g:Good l){y:Rat}(h0:0≤y)(h1:y<1):pieceL (vals l.breaks) y<l.breaks.length∧brkW l (pieceL (vals l.breaks) y)≤y∧y<endW l (pieceL (vals l.breaks) y):=by
 have hl:(vals l.breaks).length=l.breaks.length:=List.length_map ..
 have hn0:=g.n0
 have hlt:=pieceL_lt (bs:=vals l.breaks) (by omega) y
 have key:∀(r:List Rat) (i:Nat),pieceF r y=i→(∀j b,j<i→r[j]? = some b→b≤y)∧(∀b,r[i]? = some b→y<b):=by
  intro r
  induction r with
  |nil=>intro i hi;exact⟨fun j b _ h=>by simp at h,fun b h=>by simp at h⟩
  |cons a r ih =>
   intro i hi
   rw[pieceF] at hi
   by_cases ha:a≤y
   ·rw[decide_eq_true ha,cond_true] at hi
    subst hi
    obtain⟨k1,k2⟩:=ih _ rfl
    refine⟨fun j b hj h => ?_,fun b h=>k2 b (by simpa using h)⟩
    cases j with
    |zero=>simp at h;rw[←h];exact ha
    |succ j=>exact k1 j b (by omega) (by simpa using h)
   ·rw[decide_eq_false ha,cond_false] at hi
    subst hi
    exact⟨fun j b hj=>by omega,fun b h=>by simp at h;rw[←h];grind⟩
 obtain⟨k1,k2⟩:=key ((vals l.breaks).drop 1) _ rfl
 have k1:∀j b,j<pieceL (vals l.breaks) y→((vals l.breaks).drop 1)[j]? = some b→b≤y:=k1
 have k2:∀b,((vals l.breaks).drop 1)[pieceL (vals l.breaks) y]? = some b→y<b:=k2
 generalize pieceL (vals l.breaks) y=i at hlt k1 k2 ⊢
 refine⟨by omega,?_,?_⟩
 ·cases i with
  |zero =>
   obtain⟨b,hb⟩:∃b,l.breaks[0]? = some b:=⟨_,List.getElem?_eq_getElem (by omega)⟩
   rw[brkW_of hb,g.first b hb];exact h0
  |succ i =>
   obtain⟨b,hb⟩:∃b,l.breaks[i+1]? = some b:=⟨_,List.getElem?_eq_getElem (by omega)⟩
   rw[brkW_of hb]
   refine k1 i b.val (by omega) ?_
   rw[List.getElem?_drop,Nat.add_comm]
   unfold vals;rw[List.getElem?_map,hb];rfl
 ·unfold endW
  cases hb:l.breaks[i+1]? with
  |none=>show y<((1:Int):Rat);exact h1
  |some b =>
   refine k2 b.val ?_
   rw[List.getElem?_drop,Nat.add_comm]
   unfold vals;rw[List.getElem?_map,hb];rfl
theorem endW_next{l:ALaw}{t:Nat}(h:t+1<l.breaks.length):endW l t=brkW l (t+1):=by
 obtain⟨b,hb⟩:∃b,l.breaks[t+1]? = some b:=⟨_,List.getElem?_eq_getElem h⟩
 unfold endW
 rw[hb,brkW_of hb]
theorem endW_le1{l:ALaw}(g:Good l)(t:Nat):endW l t≤1:=by
 unfold endW
 cases hb:l.breaks[t+1]? with
 |none=>exact Rat.le_refl
 |some b=>exact Rat.le_of_lt (g.unit b (List.mem_of_getElem? hb)).2
theorem brkW_ge0{l:ALaw}(g:Good l)(t:Nat):0≤brkW l t:=by
 unfold brkW
 cases hb:l.breaks[t]? with
 |none=>exact Rat.le_refl
 |some b=>exact(g.unit b (List.mem_of_getElem? hb)).1
theorem brk_mono{l:ALaw}(g:Good l){i j:Nat}(hj:j<l.breaks.length)(hij:i<j):brkW l i<brkW l j:=by
 obtain⟨b,hb⟩:∃b,l.breaks[i]? = some b:=⟨_,List.getElem?_eq_getElem (by omega)⟩
 obtain⟨c,hc⟩:∃c,l.breaks[j]? = some c:=⟨_,List.getElem?_eq_getElem hj⟩
 rw[brkW_of hb,brkW_of hc]
 exact asc_get g.asc (by unfold vals;rw[List.getElem?_map,hb];rfl) (by unfold vals;rw[List.getElem?_map,hc];rfl) hij
theorem piece_uniq{l:ALaw}(g:Good l){y:Rat}{t:Nat}(ht:t<l.breaks.length)(h1:brkW l t≤y)(h2:y<endW l t):pieceL (vals l.breaks) y=t:=by
 have h0:=brkW_ge0 g t
 have h3:=endW_le1 g t
 obtain⟨s1,s2,s3⟩:=piece_spec g (y:=y) (by grind) (by grind)
 generalize pieceL (vals l.breaks) y=i at s1 s2 s3 ⊢
 rcases Nat.lt_trichotomy i t with h|h|h
 ·have:endW l i=brkW l (i+1):=endW_next (by omega)
  by_cases e:i+1=t
  ·rw[e] at this;grind
  ·have:=brk_mono g (i:=i+1) ht (by omega);grind
 ·exact h
 ·have:endW l t=brkW l (t+1):=endW_next (by omega)
  by_cases e:t+1=i
  ·rw[e] at this;grind
  ·have:=brk_mono g (i:=t+1) s1 (by omega);grind
theorem atW_eq{l:ALaw}(x:Rat):atW l x=evalL (pcW l (pieceL (vals l.breaks) (frac x))) (frac x-brkW l (pieceL (vals l.breaks) (frac x))):=by
 unfold atW pcW brkW
 rw[List.getD_eq_getElem?_getD,List.getD_eq_getElem?_getD]
 cases l.pieces[pieceL (vals l.breaks) (frac x)]? <;> cases l.breaks[pieceL (vals l.breaks) (frac x)]? <;> rfl
def Flat(l:ALaw)(p:Rat×Rat)(c:Rat):Prop:=0≤p.1∧p.2≤1∧∀y,p.1≤y→y<p.2→constB l (pieceL (vals l.breaks) y)=true∧valW l (pieceL (vals l.breaks) y)=c
theorem dwells_flat{l:ALaw}(g:Good l):∀(j t:Nat) (acc:List (Rat×Rat)),t+j=l.pieces.length→(∀p∈acc,∃c,Flat l p c)→(openB l t=true→∃w,acc[acc.length-1]? = some w∧w.2=endW l (t-1)∧Flat l w (valW l (t-1)))→∀p∈dwellsF l j t acc,∃c,Flat l p c
 |0,_,acc,_,h,_=>h
 |j+1,t,acc,hj,h,ho=>by
  have hlen:=g.len
  have own:constB l t=true→Flat l (brkW l t,endW l t) (valW l t):=fun hc=>⟨brkW_ge0 g t,endW_le1 g t,fun y h1 h2=>by rw[piece_uniq g (by omega) h1 h2];exact⟨hc,rfl⟩⟩
  rw[dwellsF]
  cases hc:constB l t with
  |false=>exact dwells_flat g j (t+1) acc (by omega) h (by rw[openB_succ,hc];intro h;cases h)
  |true =>
   rw[cond_true]
   cases hk:contB l t with
   |false =>
    refine dwells_flat g j (t+1) _ (by omega) ?_ ?_
    ·intro p hp
     rcases List.mem_append.1 hp with hp|hp
     ·exact h p hp
     ·rw[List.mem_singleton.1 hp];exact⟨_,own hc⟩
    ·intro _
     exact⟨(brkW l t,endW l t),by simp,rfl,own hc⟩
   |true =>
    unfold contB at hk
    rw[Bool.and_eq_true,decide_eq_true_eq] at hk
    obtain⟨hk1,hk2⟩:=hk
    obtain⟨u,rfl⟩:∃u,t=u+1:=by
     cases t with
     |zero=>rw[openB_zero] at hk1;cases hk1
     |succ u=>exact⟨u,rfl⟩
    obtain⟨w,hw1,hw2,hw3⟩:=ho hk1
    rw[Nat.add_sub_cancel] at hw2 hw3 hk2
    have hn:Flat l (w.1,endW l (u+1)) (valW l (u+1)):=by
     refine⟨hw3.1,endW_le1 g _,fun y h1 h2 => ?_⟩
     by_cases hy:y<w.2
     ·rw[←hk2];exact hw3.2.2 y h1 hy
     ·rw[piece_uniq g (t:=u+1) (by omega) (by rw[←endW_next (by omega)];grind) h2]
      exact⟨hc,rfl⟩
    have hpos:0<acc.length:=by
     have:=(List.getElem?_eq_some_iff.1 hw1).1;omega
    refine dwells_flat g j (u+1+1) _ (by omega) ?_ ?_
    ·intro p hp
     unfold lastTo at hp
     rw[hw1] at hp
     rcases List.mem_or_eq_of_mem_set hp with hp|hp
     ·exact h p hp
     ·rw[hp];exact⟨_,hn⟩
    ·intro _
     refine⟨(w.1,endW l (u+1)),?_,rfl,hn⟩
     rw[lastTo_len]
     unfold lastTo
     rw[hw1]
     rw[List.getElem?_set_self (by omega)]
theorem deriveW_pc(l:ALaw)(i:Nat):pcW (deriveW l) i=deriveL (pcW l i):=by
 unfold pcW deriveW
 show(match (l.pieces.map (fun p=>(deriveL (vals p)).map mkR))[i]? with|some p=>vals p|none=>[])=_
 rw[List.getElem?_map]
 cases l.pieces[i]? with
 |none=>rfl
 |some p=>exact vals_mkR _
theorem deriveW_br(l:ALaw):vals (deriveW l).breaks=vals l.breaks:=vals_mkR _
theorem flat_deriveW{l:ALaw}{p:Rat×Rat}{c:Rat}(h:Flat l p c){x:Rat}(h1:p.1≤frac x)(h2:frac x<p.2):atW (deriveW l) x=0:=by
 obtain⟨_,_,h3⟩:=h
 obtain⟨h4,h5⟩:=h3 _ h1 h2
 rw[atW_eq,deriveW_pc,deriveW_br]
 have:deriveL (pcW l (pieceL (vals l.breaks) (frac x)))=[]:=by
  unfold deriveL
  rw[List.drop_of_length_le (ble_iff.1 h4)];rfl
 rw[this];rfl
end Go.Proofs.YtbgkjomonebfcaaGreat.Sym
namespace Go.Proofs.YtbgkjomonebfcaaGreat.Sym.Path
open Go
set_option maxRecDepth 20000
set_option linter.unusedVariables false
namespace cam_Radius
theorem e0(c:ACam)(x atV add:ARat)(h1:Contract prg 106 [c.pv,x.pv] .nilI)(h2:Contract prg 107 [c.lift.pv,x.pv] (.tup [atV.pv,.nilI]))(h3:Contract prg 63 [c.base.pv,atV.pv] add.pv):Contract prg 43 [c.pv,x.pv] (.tup [add.pv,.nilI]) :=
 Contract.ofL Tryz.func43 (by kernel_rfl) (L.done mixed tabOk (n:=114) (ns:=[1,1,1]) (tr:=[.reg [],.reg [.none,.none,(.pv .nilI)],.reg [],.auto,.reg [.none,.none,.none,(.pv (.tup [atV.pv,.nilI]))],.reg [],.auto,.reg [.none,.none,.none,(.pv add.pv)]]) (cj h1 (cj h2 (cj h3 True.intro))) (by kernel_rfl))
end cam_Radius
namespace cam_Pressure
theorem e0(c:ACam)(x rad:ARat)(sig:Int)(h1:Contract prg 43 [c.pv,x.pv] (.tup [rad.pv,.nilI]))(h2:Contract prg 39 [rad.pv] (vI sig))(h3:sig≤0):Contract prg 44 [c.pv,x.pv] (.tup [(⟨(⟨false,[],[]⟩:ARat),(⟨false,[],[]⟩:ARat)⟩:ARange).pv,(.iface 94 (vI 8))]) :=
 Contract.ofL Tryz.func44 (by kernel_rfl) (L.done mixed tabOk (n:=105) (ns:=[1,1,1]) (tr:=[.reg [],.reg [.none,.none,(.pv (.tup [rad.pv,.nilI]))],.reg [],.auto,.reg [.none,(.pv (vI sig))],.dec true,.reg []]) (cj h1 (cj h2 (cj (dle_t h3) True.intro))) (by kernel_rfl))
theorem e1(c:ACam)(x rad:ARat)(sig:Int)(der of mul hig mul1 div low mul2 div2:ARat)(enc:ARange)(h1:Contract prg 43 [c.pv,x.pv] (.tup [rad.pv,.nilI]))(h2:Contract prg 39 [rad.pv] (vI sig))(h3:0<sig)(h4:Contract prg 108 [c.lift.pv,(vI 1),x.pv] (.tup [der.pv,.nilI]))(h5:Contract prg 73 [(vI 2)] of.pv)(h6:Contract prg 85 [of.pv,rad.pv] mul.pv)(h7:Contract prg 110 [] hig.pv)(h8:Contract prg 85 [mul.pv,hig.pv] mul1.pv)(h9:Contract prg 109 [der.pv,mul1.pv] (.tup [div.pv,.nilI]))(h10:Contract prg 111 [] low.pv)(h11:Contract prg 85 [mul.pv,low.pv] mul2.pv)(h12:Contract prg 109 [der.pv,mul2.pv] (.tup [div2.pv,.nilI]))(h13:Contract prg 112 [div.pv,div2.pv] enc.pv):Contract prg 44 [c.pv,x.pv] (.tup [enc.pv,.nilI]) :=
 Contract.ofL Tryz.func44 (by kernel_rfl) (L.done mixed tabOk (n:=177) (ns:=[1,1,1,1,1,1,1,1,1,1,1,1,1]) (tr:=[.reg [],.reg [.none,.none,(.pv (.tup [rad.pv,.nilI]))],.reg [],.auto,.reg [.none,(.pv (vI sig))],.dec false,.reg [.none,.none,.none,(.pv (.tup [der.pv,.nilI]))],.reg [],.auto,dr 4 1 [(.pv of.pv),.none,(.pv mul.pv)],dr 10 1 [.none,.none,(.pv hig.pv),(.pv mul1.pv),(.pv (.tup [div.pv,.nilI]))],.reg [],.auto,dr 10 1 [.none,.none,(.pv low.pv),(.pv mul2.pv),(.pv (.tup [div2.pv,.nilI]))],.reg [],.auto,.reg [.none,.none,(.pv enc.pv)]]) (cj h1 (cj h2 (cj (dle_f h3) (cj h4 (cj h5 (cj h6 (cj h7 (cj h8 (cj h9 (cj h10 (cj h11 (cj h12 (cj h13 True.intro))))))))))))) (by kernel_rfl))
end cam_Pressure
namespace cam_Curvature
theorem e0(c:ACam)(x rad der hig squ mul add low squ1 mul1 add1:ARat)(enc:ARange)(h1:Contract prg 43 [c.pv,x.pv] (.tup [rad.pv,.nilI]))(h2:Contract prg 108 [c.lift.pv,(vI 2),x.pv] (.tup [der.pv,.nilI]))(h3:Contract prg 110 [] hig.pv)(h4:Contract prg 113 [hig.pv] squ.pv)(h5:Contract prg 85 [der.pv,squ.pv] mul.pv)(h6:Contract prg 63 [rad.pv,mul.pv] add.pv)(h7:Contract prg 111 [] low.pv)(h8:Contract prg 113 [low.pv] squ1.pv)(h9:Contract prg 85 [der.pv,squ1.pv] mul1.pv)(h10:Contract prg 63 [rad.pv,mul1.pv] add1.pv)(h11:Contract prg 112 [add.pv,add1.pv] enc.pv):Contract prg 45 [c.pv,x.pv] (.tup [enc.pv,.nilI]) :=
 Contract.ofL Tryz.func45 (by kernel_rfl) (L.done mixed tabOk (n:=114) (ns:=[1,1,1,1,1,1,1,1,1,1,1]) (tr:=[.reg [],.reg [.none,.none,(.pv (.tup [rad.pv,.nilI]))],.reg [],.auto,.reg [.none,.none,.none,(.pv (.tup [der.pv,.nilI]))],.reg [],.auto,dr 13 2 [.none,.none,(.pv hig.pv),(.pv squ.pv),(.pv mul.pv),(.pv add.pv),.none,.none,(.pv low.pv),(.pv squ1.pv),(.pv mul1.pv),(.pv add1.pv),(.pv enc.pv)]]) (cj h1 (cj h2 (cj h3 (cj h4 (cj h5 (cj h6 (cj h7 (cj h8 (cj h9 (cj h10 (cj h11 True.intro))))))))))) (by kernel_rfl))
end cam_Curvature
namespace linkworkref53_Check
theorem e0(c:ACam)(che:Int)(h1:Contract prg 68 [c.lift.pv] (vI che))(h2:che≠0):Contract prg 46 [c.pv] (vI che) :=
 Contract.ofL Tryz.func46 (by kernel_rfl) (L.done mixed tabOk (n:=90) (ns:=[1,1]) (tr:=[.reg [],.reg [.none,.none,(.pv (vI che))],.reg [],.dec true,.reg []]) (cj h1 (cj (dne_t h2) True.intro)) (by kernel_rfl))
theorem e1(c:ACam)(che:Int)(val:Bool)(h1:Contract prg 68 [c.lift.pv] (vI che))(h2:che=0)(h3:Contract prg 48 [c.base.pv] (vB val))(h4:val=false):Contract prg 46 [c.pv] (vI 3) :=
 Contract.ofL Tryz.func46 (by kernel_rfl) (L.done mixed tabOk (n:=105) (ns:=[1,1,1,1,1,1,1,1]) (tr:=[.reg [],.reg [.none,.none,(.pv (vI che))],.reg [],.dec false,.reg [.none,.none,(.pv (vB val)),.none,.none,.skip,.skip,.skip,.skip,(.dec true)],.auto,.reg []]) (cj h1 (cj (dne_f h2) (cj h3 (cj (bnot_t h4) (cj (bnot_t h4) (cj (bnot_t h4) (cj (bnot_t h4) (cj (bnot_t h4) True.intro)))))))) (by kernel_rfl))
theorem e2(c:ACam)(che:Int)(val:Bool)(sig:Int)(h1:Contract prg 68 [c.lift.pv] (vI che))(h2:che=0)(h3:Contract prg 48 [c.base.pv] (vB val))(h4:val=true)(h5:Contract prg 59 [c.base.pv] (vI sig))(h6:sig≤0):Contract prg 46 [c.pv] (vI 3) :=
 Contract.ofL Tryz.func46 (by kernel_rfl) (L.done mixed tabOk (n:=105) (ns:=[1,1,1,1,1,1,1,1,1,1]) (tr:=[.reg [],.reg [.none,.none,(.pv (vI che))],.reg [],.dec false,.reg [.none,.none,(.pv (vB val)),.none,.none,.none,.none,(.pv (vI sig)),.none,(.dec false)],.dec true,.reg []]) (cj h1 (cj (dne_f h2) (cj h3 (cj (bnot_f h4) (cj (bnot_f h4) (cj (bnot_f h4) (cj h5 (cj (bnot_f h4) (cj (bnot_f h4) (cj (dle_t h6) True.intro)))))))))) (by kernel_rfl))
theorem e3(c:ACam)(che:Int)(val:Bool)(sig:Int)(h1:Contract prg 68 [c.lift.pv] (vI che))(h2:che=0)(h3:Contract prg 48 [c.base.pv] (vB val))(h4:val=true)(h5:Contract prg 59 [c.base.pv] (vI sig))(h6:0<sig):Contract prg 46 [c.pv] (vI 0) :=
 Contract.ofL Tryz.func46 (by kernel_rfl) (L.done mixed tabOk (n:=108) (ns:=[1,1,1,1,1,1,1,1,1,1]) (tr:=[.reg [],.reg [.none,.none,(.pv (vI che))],.reg [],.dec false,.reg [.none,.none,(.pv (vB val)),.none,.none,.none,.none,(.pv (vI sig)),.none,(.dec false)],.dec false,.reg []]) (cj h1 (cj (dne_f h2) (cj h3 (cj (bnot_f h4) (cj (bnot_f h4) (cj (bnot_f h4) (cj h5 (cj (bnot_f h4) (cj (bnot_f h4) (cj (dle_f h6) True.intro)))))))))) (by kernel_rfl))
end linkworkref53_Check
namespace cam_Check
theorem e0(c:ACam)(val:Bool)(h1:Contract prg 114 [c.lift.pv] .nilI)(h2:Contract prg 97 [c.base.pv] (vB val))(h3:val=false):Contract prg 47 [c.pv] (.iface 94 (vI 3)) :=
 Contract.ofL Tryz.func47 (by kernel_rfl) (L.done mixed tabOk (n:=105) (ns:=[1,1,1,1,1,1,1]) (tr:=[.reg [],.reg [.none,.none,(.pv .nilI)],.reg [],.auto,.reg [.none,.none,(.pv (vB val)),.none,.none,.skip,.skip,.skip,.skip,(.dec true)],.auto,.reg []]) (cj h1 (cj h2 (cj (bnot_t h3) (cj (bnot_t h3) (cj (bnot_t h3) (cj (bnot_t h3) (cj (bnot_t h3) True.intro))))))) (by kernel_rfl))
theorem e1(c:ACam)(val:Bool)(sig:Int)(h1:Contract prg 114 [c.lift.pv] .nilI)(h2:Contract prg 97 [c.base.pv] (vB val))(h3:val=true)(h4:Contract prg 39 [c.base.pv] (vI sig))(h5:sig≤0):Contract prg 47 [c.pv] (.iface 94 (vI 3)) :=
 Contract.ofL Tryz.func47 (by kernel_rfl) (L.done mixed tabOk (n:=105) (ns:=[1,1,1,1,1,1,1,1,1]) (tr:=[.reg [],.reg [.none,.none,(.pv .nilI)],.reg [],.auto,.reg [.none,.none,(.pv (vB val)),.none,.none,.none,.none,(.pv (vI sig)),.none,(.dec false)],.dec true,.reg []]) (cj h1 (cj h2 (cj (bnot_f h3) (cj (bnot_f h3) (cj (bnot_f h3) (cj h4 (cj (bnot_f h3) (cj (bnot_f h3) (cj (dle_t h5) True.intro))))))))) (by kernel_rfl))
theorem e2(c:ACam)(val:Bool)(sig:Int)(h1:Contract prg 114 [c.lift.pv] .nilI)(h2:Contract prg 97 [c.base.pv] (vB val))(h3:val=true)(h4:Contract prg 39 [c.base.pv] (vI sig))(h5:0<sig):Contract prg 47 [c.pv] .nilI :=
 Contract.ofL Tryz.func47 (by kernel_rfl) (L.done mixed tabOk (n:=108) (ns:=[1,1,1,1,1,1,1,1,1]) (tr:=[.reg [],.reg [.none,.none,(.pv .nilI)],.reg [],.auto,.reg [.none,.none,(.pv (vB val)),.none,.none,.none,.none,(.pv (vI sig)),.none,(.dec false)],.dec false,.reg []]) (cj h1 (cj h2 (cj (bnot_f h3) (cj (bnot_f h3) (cj (bnot_f h3) (cj h4 (cj (bnot_f h3) (cj (bnot_f h3) (cj (dle_f h5) True.intro))))))))) (by kernel_rfl))
theorem e3(c:ACam)(che:Int)(h1:Contract prg 114 [c.lift.pv] (.iface 94 (vI che))):Contract prg 47 [c.pv] (.iface 94 (vI che)) :=
 Contract.ofL Tryz.func47 (by kernel_rfl) (L.done mixed tabOk (n:=90) (ns:=[1]) (tr:=[.reg [],.reg [.none,.none,(.pv (.iface 94 (vI che)))],.reg [],.auto,.reg []]) (cj h1 True.intro) (by kernel_rfl))
end cam_Check
namespace cam_Convex
@[reducible] noncomputable def fn:Func:=Tryz.f56
noncomputable def atK1:List Itm:=focus [0,2,0,0,2,0,2,1,2,0,0,2,0,0] [.code (bodyOf fn)]
def inv1(t_18:Nat)(c:ACam)(low hig:ARat):St:=⟨[(1,(.ptr 1 0)),(16,(.row 16 0 2 3)),(17,(eI 2)),(18,(eI (t_18:Int)))],[(1,(.lit [(eB c.base.neg),(.pv (wordsPV c.base.num)),(.pv (wordsPV c.base.den)),(.pv (polyPV c.lift.breaks)),(.pv (lpv (lcell ARat.cells) c.lift.pieces))])),(16,(.pure (([low,hig]:List ARat).map ARat.cells).flatten))]⟩
@[reducible] noncomputable def Loop1(t_18:Nat)(c:ACam)(low hig:ARat)(r:PV):Prop:=L prg fn atK1 (inv1 t_18 c low hig) r
theorem e0(c:ACam)(low hig:ARat){r:PV}(h1:Contract prg 47 [c.pv] .nilI)(h2:Contract prg 111 [] low.pv)(h3:Contract prg 110 [] hig.pv)(hL:Loop1 0 c low hig r):Contract prg 56 [c.pv] r :=
 Contract.ofL Tryz.func56 (by kernel_rfl) (L.go mixed tabOk (n:=102) (ns:=[1,1,1]) (tr:=[.reg [],.reg [.none,(.pv .nilI)],.reg [],.auto,.reg [(.pv low.pv),(.pv hig.pv)],.keep [1,16,17,18],.ord [1,16]]) (cj h1 (cj h2 (cj h3 True.intro))) (by kernel_rfl) hL)
theorem l10(t_18:Nat)(c:ACam)(low hig v of squ:ARat)(all:Bool)(h1:t_18<2)(h2:[low,hig][t_18]? = some v)(h3:Contract prg 73 [(vI 1)] of.pv)(h4:Contract prg 113 [v.pv] squ.pv)(h5:Contract prg 126 [c.pv,of.pv,squ.pv,(vI 2)] (.tup [(vB all),.nilI]))(h6:all=false):Loop1 t_18 c low hig (.tup [(vB false),.nilI]) :=
 L.done mixed tabOk (n:=153) (ns:=[1,2,2,1,1,1,1,1,1]) (tr:=[.auto,.reg [],.dec true,.reg [(.nat t_18),(.seg [(vB v.neg),(wordsPV v.num),(wordsPV v.den)])],dr 9 1 [.none,(.pv of.pv),.none,(.pv squ.pv),(.pv (.tup [(vB all),.nilI]))],.reg [],.dec true,.reg []]) (cj (dltN_t h1) (cj (cj (Eq.refl (((t_18:Nat):Int):Int)) h1) (cj (o_seg sz_ARat h2) (cj h3 (cj h4 (cj h5 (cj (Eq.refl false) (cj (Eq.refl false) (cj (bnot_t h6) True.intro))))))))) (by kernel_rfl)
theorem l11(t_18:Nat)(c:ACam)(low hig v of squ:ARat)(all:Bool){r:PV}(h1:t_18<2)(h2:[low,hig][t_18]? = some v)(h3:Contract prg 73 [(vI 1)] of.pv)(h4:Contract prg 113 [v.pv] squ.pv)(h5:Contract prg 126 [c.pv,of.pv,squ.pv,(vI 2)] (.tup [(vB all),.nilI]))(h6:all=true)(h7:(t_18+1)<9223372036854775808)(hL:Loop1 (t_18+1) c low hig r):Loop1 t_18 c low hig r :=
 L.go mixed tabOk (n:=156) (ns:=[1,2,2,1,1,1,1,1,1,1]) (tr:=[.auto,.reg [],.dec true,.reg [(.nat t_18),(.seg [(vB v.neg),(wordsPV v.num),(wordsPV v.den)])],dr 9 1 [.none,(.pv of.pv),.none,(.pv squ.pv),(.pv (.tup [(vB all),.nilI]))],.reg [],.dec false,.reg [(iI (((t_18+1):Nat):Int))],.keep [1,16,17,18],.drop [6]]) (cj (dltN_t h1) (cj (cj (Eq.refl (((t_18:Nat):Int):Int)) h1) (cj (o_seg sz_ARat h2) (cj h3 (cj h4 (cj h5 (cj (Eq.refl false) (cj (Eq.refl false) (cj (bnot_f h6) (cj (bs_addN h7) True.intro)))))))))) (by kernel_rfl) hL
theorem l13(t_18:Nat)(c:ACam)(low hig:ARat)(h1:2≤t_18):Loop1 t_18 c low hig (.tup [(vB true),.nilI]) :=
 L.done mixed tabOk (n:=135) (ns:=[1]) (tr:=[.auto,.reg [],.dec false,.reg []]) (cj (dltN_f h1) True.intro) (by kernel_rfl)
end cam_Convex
namespace cam_given
theorem e1(c:ACam)(x:ARat)(val:Bool)(h1:Contract prg 47 [c.pv] .nilI)(h2:Contract prg 97 [x.pv] (vB val))(h3:val=true):Contract prg 106 [c.pv,x.pv] .nilI :=
 Contract.ofL Tryz.func106 (by kernel_rfl) (L.done mixed tabOk (n:=108) (ns:=[1,1,1]) (tr:=[.reg [],.reg [.none,(.pv .nilI)],.reg [],.auto,.reg [.none,(.pv (vB val))],.dec false,.reg []]) (cj h1 (cj h2 (cj (bnot_f h3) True.intro))) (by kernel_rfl))
end cam_given
namespace cam_derived
@[reducible] noncomputable def fn:Func:=Tryz.f108
noncomputable def atK1:List Itm:=focus [0,2,0,0,2,0,0] [.code (bodyOf fn)]
def inv1(n:Int)(t_11:Nat)(site_3:ALaw)(x:ARat):St:=⟨[(3,(.ptr 3 0)),(5,(.ptr 5 0)),(6,(.ptr 6 0)),(10,(eI n)),(11,(eI (t_11:Int)))],[(3,(.lit [(.pv (polyPV site_3.breaks)),(.pv (lpv (lcell ARat.cells) site_3.pieces))])),(5,(.lit [(eB x.neg),(.pv (wordsPV x.num)),(.pv (wordsPV x.den))])),(6,(.lit [(eB false),(.pv (.list [])),(.pv (.list []))]))]⟩
@[reducible] noncomputable def Loop1(n:Int)(t_11:Nat)(site_3:ALaw)(x:ARat)(r:PV):Prop:=L prg fn atK1 (inv1 n t_11 site_3 x) r
theorem e0 (l : ALaw) (n : Int) (x : ARat) {r : PV}  (hL : Loop1 n 0 l x r) : Contract prg 108 [l.pv, (vI n), x.pv] r :=
 Contract.ofL Tryz.func108 (by kernel_rfl) (L.go mixed tabOk (n:=81) (ns:=[]) (tr:=[.reg [],.reg [],.keep [3,5,6,10,11],.ord [3,5,6]]) True.intro (by kernel_rfl) hL)
theorem l10(n:Int)(t_11:Nat)(site_3:ALaw)(x:ARat)(der:ALaw){r:PV}(h1:(t_11:Int)<n)(h2:Contract prg 185 [site_3.pv] (.tup [der.pv,.nilI]))(h3:(t_11+1)<9223372036854775808)(hL:Loop1 n (t_11+1) der x r):Loop1 n t_11 site_3 x r :=
 L.go mixed tabOk (n:=135) (ns:=[1,1,1]) (tr:=[.auto,.reg [],.dec true,.reg [.none,(.pv (.tup [der.pv,.nilI]))],.reg [],.auto,.reg [],.reg [(iI (((t_11+1):Nat):Int))],.keep [3,5,6,10,11],.drop [8]]) (cj (dlt_t h1) (cj h2 (cj (bs_addN h3) True.intro))) (by kernel_rfl) hL
theorem l12(n:Int)(t_11:Nat)(site_3:ALaw)(x atV:ARat)(atV1:Option Int)(h1:n≤(t_11:Int))(h2:Contract prg 107 [site_3.pv,x.pv] (.tup [atV.pv,(errPV atV1)])):Loop1 n t_11 site_3 x (.tup [atV.pv,(errPV atV1)]) :=
 L.done mixed tabOk (n:=114) (ns:=[1,1]) (tr:=[.auto,.reg [],.dec false,.reg [.none,.none,(.pv (.tup [atV.pv,(errPV atV1)]))]]) (cj (dlt_f h1) (cj h2 True.intro)) (by kernel_rfl)
end cam_derived
namespace cam_high
theorem e0(rat:ARat)(h1:Contract prg 187 [(vI 355),(vI 113)] rat.pv):Contract prg 110 [] rat.pv :=
 Contract.ofL Tryz.func110 (by kernel_rfl) (L.done mixed tabOk (n:=72) (ns:=[1]) (tr:=[.reg [],.reg [(.pv rat.pv)]]) (cj h1 True.intro) (by kernel_rfl))
end cam_high
namespace cam_low
theorem e0(rat:ARat)(h1:Contract prg 187 [(vI 333),(vI 106)] rat.pv):Contract prg 111 [] rat.pv :=
 Contract.ofL Tryz.func111 (by kernel_rfl) (L.done mixed tabOk (n:=72) (ns:=[1]) (tr:=[.reg [],.reg [(.pv rat.pv)]]) (cj h1 True.intro) (by kernel_rfl))
end cam_low
namespace cam_enclose
theorem e0(a b:ARat)(poi poi1 hul:ARange)(h1:Contract prg 189 [a.pv] poi.pv)(h2:Contract prg 189 [b.pv] poi1.pv)(h3:Contract prg 188 [poi.pv,poi1.pv] hul.pv):Contract prg 112 [a.pv,b.pv] hul.pv :=
 Contract.ofL Tryz.func112 (by kernel_rfl) (L.done mixed tabOk (n:=72) (ns:=[1,1,1]) (tr:=[.reg [],dr 5 1 [.none,(.pv poi.pv),.none,(.pv poi1.pv),(.pv hul.pv)]]) (cj h1 (cj h2 (cj h3 True.intro))) (by kernel_rfl))
end cam_enclose
namespace cam_square
theorem e0(pi of of1 mul mul1 div:ARat)(div1:Option Int)(h1:Contract prg 73 [(vI 1)] of.pv)(h2:Contract prg 73 [(vI 4)] of1.pv)(h3:Contract prg 85 [pi.pv,pi.pv] mul.pv)(h4:Contract prg 85 [of1.pv,mul.pv] mul1.pv)(h5:Contract prg 109 [of.pv,mul1.pv] (.tup [div.pv,(errPV div1)])):Contract prg 113 [pi.pv] div.pv :=
 Contract.ofL Tryz.func113 (by kernel_rfl) (L.done mixed tabOk (n:=78) (ns:=[1,1,1,1,1]) (tr:=[.reg [],dr 12 1 [(.pv of.pv),(.pv of1.pv),.none,.none,(.pv mul.pv),(.pv mul1.pv),(.pv (.tup [div.pv,(errPV div1)]))],.reg []]) (cj h1 (cj h2 (cj h3 (cj h4 (cj h5 True.intro))))) (by kernel_rfl))
end cam_square
namespace cam_all
@[reducible] noncomputable def fn:Func:=Tryz.f126
noncomputable def atK1:List Itm:=focus [0,2,0,2,0,0,2,0,0] [.code (bodyOf fn)]
def inv1(n:Int)(t_22:Nat)(c:ACam)(byV f:ARat)(site_10:ALaw):St:=⟨[(4,(.ptr 4 0)),(5,(.ptr 5 0)),(6,(.ptr 6 0)),(10,(.ptr 10 0)),(21,(eI n)),(22,(eI (t_22:Int)))],[(4,(.lit [(eB c.base.neg),(.pv (wordsPV c.base.num)),(.pv (wordsPV c.base.den)),(.pv (polyPV c.lift.breaks)),(.pv (lpv (lcell ARat.cells) c.lift.pieces))])),(5,(.lit [(eB byV.neg),(.pv (wordsPV byV.num)),(.pv (wordsPV byV.den))])),(6,(.lit [(eB f.neg),(.pv (wordsPV f.num)),(.pv (wordsPV f.den))])),(10,(.lit [(.pv (polyPV site_10.breaks)),(.pv (lpv (lcell ARat.cells) site_10.pieces))]))]⟩
@[reducible] noncomputable def Loop1(n:Int)(t_22:Nat)(c:ACam)(byV f:ARat)(site_10:ALaw)(r:PV):Prop:=L prg fn atK1 (inv1 n t_22 c byV f site_10) r
noncomputable def atK2:List Itm:=focus [0,2,0,2,0,0,2,0,0,0,0,2,0,1,2,2,2,2,0,0,2,0,0] [.code (bodyOf fn)]
def inv2(c:ACam)(t_38:Nat)(byV f:ARat)(site_10:ALaw):St:=⟨[(4,(.ptr 4 0)),(5,(.ptr 5 0)),(6,(.ptr 6 0)),(10,(.ptr 10 0)),(36,(.pv (lpv (lcell ARat.cells) c.lift.pieces))),(37,(eI (c.lift.pieces.length:Int))),(38,(eI (t_38:Int)))],[(4,(.lit [(eB c.base.neg),(.pv (wordsPV c.base.num)),(.pv (wordsPV c.base.den)),(.pv (polyPV c.lift.breaks)),(.pv (lpv (lcell ARat.cells) c.lift.pieces))])),(5,(.lit [(eB byV.neg),(.pv (wordsPV byV.num)),(.pv (wordsPV byV.den))])),(6,(.lit [(eB f.neg),(.pv (wordsPV f.num)),(.pv (wordsPV f.den))])),(10,(.lit [(.pv (polyPV site_10.breaks)),(.pv (lpv (lcell ARat.cells) site_10.pieces))]))]⟩
@[reducible] noncomputable def Loop2(c:ACam)(t_38:Nat)(byV f:ARat)(site_10:ALaw)(r:PV):Prop:=L prg fn atK2 (inv2 c t_38 byV f site_10) r
theorem e0 (c : ACam) (byV f : ARat) (n : Int) {r : PV}  (hL : Loop1 n 0 c byV f c.lift r) : Contract prg 126 [c.pv, byV.pv, f.pv, (vI n)] r :=
 Contract.ofL Tryz.func126 (by kernel_rfl) (L.go mixed tabOk (n:=87) (ns:=[]) (tr:=[.reg [],.reg [],.reg [],.keep [4,5,6,10,21,22],.ord [4,5,6,10]]) True.intro (by kernel_rfl) hL)
theorem l10(n:Int)(t_22:Nat)(c:ACam)(byV f:ARat)(site_10 der:ALaw){r:PV}(h1:(t_22:Int)<n)(h2:Contract prg 185 [site_10.pv] (.tup [der.pv,.nilI]))(h3:(t_22+1)<9223372036854775808)(hL:Loop1 n (t_22+1) c byV f der r):Loop1 n t_22 c byV f site_10 r :=
 L.go mixed tabOk (n:=141) (ns:=[1,1,1]) (tr:=[.auto,.reg [],.dec true,.reg [.none,(.pv (.tup [der.pv,.nilI]))],.reg [],.auto,.reg [],.reg [(iI (((t_22+1):Nat):Int))],.keep [4,5,6,10,21,22],.drop [11]]) (cj (dlt_t h1) (cj h2 (cj (bs_addN h3) True.intro))) (by kernel_rfl) hL
theorem l12(n:Int)(t_22:Nat)(c:ACam)(byV f:ARat)(site_10:ALaw){r:PV}(h1:n≤(t_22:Int))(hL:Loop2 c 0 byV f site_10 r):Loop1 n t_22 c byV f site_10 r :=
 L.go mixed tabOk (n:=129) (ns:=[1,1]) (tr:=[.auto,.reg [],.dec false,.reg [.none,.none,.none,(iI (c.lift.pieces.length:Int))],.keep [4,5,6,10,36,37,38]]) (cj (dlt_f h1) (cj (o_len (lcell ARat.cells) c.lift.pieces) True.intro)) (by kernel_rfl) hL
theorem l20(c:ACam)(t_38:Nat)(byV f:ARat)(site_10:ALaw)(v v1 com:List ARat)(of v2 v3 sub:ARat)(pos:Bool)(h1:t_38<c.lift.pieces.length)(h2:c.lift.pieces[t_38]? = some v)(h3:site_10.pieces[t_38]? = some v1)(h4:Contract prg 198 [c.base.pv,byV.pv,(polyPV v),f.pv,(polyPV v1)] (.tup [(polyPV com),.nilI]))(h5:Contract prg 73 [(vI 1)] of.pv)(h6:(t_38+1)<9223372036854775808)(h7:(t_38+1)<c.lift.breaks.length)(h8:c.lift.breaks[(t_38+1)]? = some v2)(h9:c.lift.breaks[t_38]? = some v3)(h10:Contract prg 146 [v2.pv,v3.pv] sub.pv)(h11:Contract prg 199 [(polyPV com),sub.pv] (.tup [(vB pos),.nilI]))(h12:pos=false):Loop2 c t_38 byV f site_10 (.tup [(vB false),.nilI]) :=
 L.done mixed tabOk (n:=222) (ns:=[1,3,3,1,1,1,1,1,1,3,3,1,1,1,1,1]) (tr:=[.auto,.reg [],.dec true,.reg [.none,(.row t_38 ((lcell ARat.cells) v))],dr 15 1 [.none,.none,.none,.none,.none,.none,.none,.none,(.row t_38 ((lcell ARat.cells) v1)),.none,(.pv (.tup [(polyPV com),.nilI]))],.reg [],.auto,.reg [(.pv of.pv)],.reg [.none,(iI (((t_38+1):Nat):Int)),.none,.none,.none,(iI (c.lift.breaks.length:Int))],.dec true,.reg [.none,.none,.none,.none,(iI (((t_38+1):Nat):Int)),(.row (t_38+1) (ARat.cells v2))],dr 14 1 [.none,.none,.none,.none,.none,.none,(.row t_38 (ARat.cells v3)),.none,(.pv sub.pv),(.pv (.tup [(vB pos),.nilI]))],.reg [],.dec true,.reg []]) (cj (dltN_t h1) (cj (o_at (lcell ARat.cells) (Eq.refl (((t_38:Nat):Int):Int)) h2) (cj (o_at (lcell ARat.cells) (Eq.refl (((t_38:Nat):Int):Int)) h3) (cj h4 (cj h5 (cj (bs_addN h6) (cj (o_len ARat.cells c.lift.breaks) (cj (dltN_t h7) (cj (bs_addN h6) (cj (o_at ARat.cells (Eq.refl ((((t_38+1):Nat):Int):Int)) h8) (cj (o_at ARat.cells (Eq.refl (((t_38:Nat):Int):Int)) h9) (cj h10 (cj h11 (cj (Eq.refl false) (cj (Eq.refl false) (cj (bnot_t h12) True.intro)))))))))))))))) (by kernel_rfl)
theorem l21(c:ACam)(t_38:Nat)(byV f:ARat)(site_10:ALaw)(v v1 com:List ARat)(of v2 v3 sub:ARat)(pos:Bool){r:PV}(h1:t_38<c.lift.pieces.length)(h2:c.lift.pieces[t_38]? = some v)(h3:site_10.pieces[t_38]? = some v1)(h4:Contract prg 198 [c.base.pv,byV.pv,(polyPV v),f.pv,(polyPV v1)] (.tup [(polyPV com),.nilI]))(h5:Contract prg 73 [(vI 1)] of.pv)(h6:(t_38+1)<9223372036854775808)(h7:(t_38+1)<c.lift.breaks.length)(h8:c.lift.breaks[(t_38+1)]? = some v2)(h9:c.lift.breaks[t_38]? = some v3)(h10:Contract prg 146 [v2.pv,v3.pv] sub.pv)(h11:Contract prg 199 [(polyPV com),sub.pv] (.tup [(vB pos),.nilI]))(h12:pos=true)(hL:Loop2 c (t_38+1) byV f site_10 r):Loop2 c t_38 byV f site_10 r :=
 L.go mixed tabOk (n:=225) (ns:=[1,3,3,1,1,1,1,1,1,3,3,1,1,1,1,1,1]) (tr:=[.auto,.reg [],.dec true,.reg [.none,(.row t_38 ((lcell ARat.cells) v))],dr 15 1 [.none,.none,.none,.none,.none,.none,.none,.none,(.row t_38 ((lcell ARat.cells) v1)),.none,(.pv (.tup [(polyPV com),.nilI]))],.reg [],.auto,.reg [(.pv of.pv)],.reg [.none,(iI (((t_38+1):Nat):Int)),.none,.none,.none,(iI (c.lift.breaks.length:Int))],.dec true,.reg [.none,.none,.none,.none,(iI (((t_38+1):Nat):Int)),(.row (t_38+1) (ARat.cells v2))],dr 14 1 [.none,.none,.none,.none,.none,.none,(.row t_38 (ARat.cells v3)),.none,(.pv sub.pv),(.pv (.tup [(vB pos),.nilI]))],.reg [],.dec false,.reg [(iI (((t_38+1):Nat):Int))],.keep [4,5,6,10,36,37,38],.drop [17]]) (cj (dltN_t h1) (cj (o_at (lcell ARat.cells) (Eq.refl (((t_38:Nat):Int):Int)) h2) (cj (o_at (lcell ARat.cells) (Eq.refl (((t_38:Nat):Int):Int)) h3) (cj h4 (cj h5 (cj (bs_addN h6) (cj (o_len ARat.cells c.lift.breaks) (cj (dltN_t h7) (cj (bs_addN h6) (cj (o_at ARat.cells (Eq.refl ((((t_38+1):Nat):Int):Int)) h8) (cj (o_at ARat.cells (Eq.refl (((t_38:Nat):Int):Int)) h9) (cj h10 (cj h11 (cj (Eq.refl false) (cj (Eq.refl false) (cj (bnot_f h12) (cj (bs_addN h6) True.intro))))))))))))))))) (by kernel_rfl) hL
theorem l23(c:ACam)(t_38:Nat)(byV f:ARat)(site_10:ALaw)(v v1 com:List ARat)(of v2 sub:ARat)(pos:Bool)(h1:t_38<c.lift.pieces.length)(h2:c.lift.pieces[t_38]? = some v)(h3:site_10.pieces[t_38]? = some v1)(h4:Contract prg 198 [c.base.pv,byV.pv,(polyPV v),f.pv,(polyPV v1)] (.tup [(polyPV com),.nilI]))(h5:Contract prg 73 [(vI 1)] of.pv)(h6:(t_38+1)<9223372036854775808)(h7:c.lift.breaks.length≤(t_38+1))(h8:c.lift.breaks[t_38]? = some v2)(h9:Contract prg 146 [of.pv,v2.pv] sub.pv)(h10:Contract prg 199 [(polyPV com),sub.pv] (.tup [(vB pos),.nilI]))(h11:pos=false):Loop2 c t_38 byV f site_10 (.tup [(vB false),.nilI]) :=
 L.done mixed tabOk (n:=222) (ns:=[1,3,3,1,1,1,1,1,3,1,1,1,1,1]) (tr:=[.auto,.reg [],.dec true,.reg [.none,(.row t_38 ((lcell ARat.cells) v))],dr 15 1 [.none,.none,.none,.none,.none,.none,.none,.none,(.row t_38 ((lcell ARat.cells) v1)),.none,(.pv (.tup [(polyPV com),.nilI]))],.reg [],.auto,.reg [(.pv of.pv)],.reg [.none,(iI (((t_38+1):Nat):Int)),.none,.none,.none,(iI (c.lift.breaks.length:Int))],.dec false,dr 14 1 [.none,.none,.none,.none,.none,.none,(.row t_38 (ARat.cells v2)),.none,(.pv sub.pv),(.pv (.tup [(vB pos),.nilI]))],.reg [],.dec true,.reg []]) (cj (dltN_t h1) (cj (o_at (lcell ARat.cells) (Eq.refl (((t_38:Nat):Int):Int)) h2) (cj (o_at (lcell ARat.cells) (Eq.refl (((t_38:Nat):Int):Int)) h3) (cj h4 (cj h5 (cj (bs_addN h6) (cj (o_len ARat.cells c.lift.breaks) (cj (dltN_f h7) (cj (o_at ARat.cells (Eq.refl (((t_38:Nat):Int):Int)) h8) (cj h9 (cj h10 (cj (Eq.refl false) (cj (Eq.refl false) (cj (bnot_t h11) True.intro)))))))))))))) (by kernel_rfl)
theorem l24(c:ACam)(t_38:Nat)(byV f:ARat)(site_10:ALaw)(v v1 com:List ARat)(of v2 sub:ARat)(pos:Bool){r:PV}(h1:t_38<c.lift.pieces.length)(h2:c.lift.pieces[t_38]? = some v)(h3:site_10.pieces[t_38]? = some v1)(h4:Contract prg 198 [c.base.pv,byV.pv,(polyPV v),f.pv,(polyPV v1)] (.tup [(polyPV com),.nilI]))(h5:Contract prg 73 [(vI 1)] of.pv)(h6:(t_38+1)<9223372036854775808)(h7:c.lift.breaks.length≤(t_38+1))(h8:c.lift.breaks[t_38]? = some v2)(h9:Contract prg 146 [of.pv,v2.pv] sub.pv)(h10:Contract prg 199 [(polyPV com),sub.pv] (.tup [(vB pos),.nilI]))(h11:pos=true)(hL:Loop2 c (t_38+1) byV f site_10 r):Loop2 c t_38 byV f site_10 r :=
 L.go mixed tabOk (n:=225) (ns:=[1,3,3,1,1,1,1,1,3,1,1,1,1,1,1]) (tr:=[.auto,.reg [],.dec true,.reg [.none,(.row t_38 ((lcell ARat.cells) v))],dr 15 1 [.none,.none,.none,.none,.none,.none,.none,.none,(.row t_38 ((lcell ARat.cells) v1)),.none,(.pv (.tup [(polyPV com),.nilI]))],.reg [],.auto,.reg [(.pv of.pv)],.reg [.none,(iI (((t_38+1):Nat):Int)),.none,.none,.none,(iI (c.lift.breaks.length:Int))],.dec false,dr 14 1 [.none,.none,.none,.none,.none,.none,(.row t_38 (ARat.cells v2)),.none,(.pv sub.pv),(.pv (.tup [(vB pos),.nilI]))],.reg [],.dec false,.reg [(iI (((t_38+1):Nat):Int))],.keep [4,5,6,10,36,37,38],.drop [17]]) (cj (dltN_t h1) (cj (o_at (lcell ARat.cells) (Eq.refl (((t_38:Nat):Int):Int)) h2) (cj (o_at (lcell ARat.cells) (Eq.refl (((t_38:Nat):Int):Int)) h3) (cj h4 (cj h5 (cj (bs_addN h6) (cj (o_len ARat.cells c.lift.breaks) (cj (dltN_f h7) (cj (o_at ARat.cells (Eq.refl (((t_38:Nat):Int):Int)) h8) (cj h9 (cj h10 (cj (Eq.refl false) (cj (Eq.refl false) (cj (bnot_f h11) (cj (bs_addN h6) True.intro))))))))))))))) (by kernel_rfl) hL
theorem l27(c:ACam)(t_38:Nat)(byV f:ARat)(site_10:ALaw)(h1:c.lift.pieces.length≤t_38):Loop2 c t_38 byV f site_10 (.tup [(vB true),.nilI]) :=
 L.done mixed tabOk (n:=162) (ns:=[1]) (tr:=[.auto,.reg [],.dec false,.reg []]) (cj (dltN_f h1) True.intro) (by kernel_rfl)
end cam_all
namespace cam_ratio
theorem e0(n d:Int)(mak:ARat)(mak1:Option Int)(h1:Contract prg 215 [(vI n),(vI d)] (.tup [mak.pv,(errPV mak1)])):Contract prg 187 [(vI n),(vI d)] mak.pv :=
 Contract.ofL Tryz.func187 (by kernel_rfl) (L.done mixed tabOk (n:=78) (ns:=[1]) (tr:=[.reg [],.reg [.none,.none,(.pv (.tup [mak.pv,(errPV mak1)]))],.reg []]) (cj h1 True.intro) (by kernel_rfl))
end cam_ratio
namespace cam_combined
theorem e0(base byV:ARat)(p:List ARat)(f:ARat)(q tri add sca sca2 add2:List ARat)(add3:Option Int)(h1:Contract prg 148 [(polyPV [base])] (polyPV tri))(h2:Contract prg 33 [(polyPV tri),(polyPV p)] (.tup [(polyPV add),.nilI]))(h3:Contract prg 72 [(polyPV add),byV.pv] (.tup [(polyPV sca),.nilI]))(h4:Contract prg 72 [(polyPV q),f.pv] (.tup [(polyPV sca2),.nilI]))(h5:Contract prg 33 [(polyPV sca),(polyPV sca2)] (.tup [(polyPV add2),(errPV add3)])):Contract prg 198 [base.pv,byV.pv,(polyPV p),f.pv,(polyPV q)] (.tup [(polyPV add2),(errPV add3)]) :=
 Contract.ofL Tryz.func198 (by kernel_rfl) (L.done mixed tabOk (n:=135) (ns:=[3,1,1,1,1,1]) (tr:=[.reg [],.reg [.none,(.slc 0 0 (([base]:List ARat).map ARat.cells)),(.pv (polyPV tri)),.none,(.pv (.tup [(polyPV add),.nilI]))],.reg [],.auto,.reg [.none,.none,(.pv (.tup [(polyPV sca),.nilI]))],.reg [],.auto,.reg [.none,.none,(.pv (.tup [(polyPV sca2),.nilI]))],.reg [],.auto,.reg [.none,.none,(.pv (.tup [(polyPV add2),(errPV add3)]))]]) (cj (o_bs sz_ARat ([base]:List ARat)) (cj h1 (cj h2 (cj h3 (cj h4 (cj h5 True.intro)))))) (by kernel_rfl))
end cam_combined
namespace cam_positive
theorem e0(q:List ARat)(length eva:ARat)(sig:Int)(h1:Contract prg 27 [(polyPV q),(⟨false,[],[]⟩:ARat).pv] (.tup [eva.pv,.nilI]))(h2:Contract prg 39 [eva.pv] (vI sig))(h3:sig≤0):Contract prg 199 [(polyPV q),length.pv] (.tup [(vB false),.nilI]) :=
 Contract.ofL Tryz.func199 (by kernel_rfl) (L.done mixed tabOk (n:=90) (ns:=[1,1,1,1,1,1]) (tr:=[.reg [],.reg [.none,.none,(.pv (.tup [eva.pv,.nilI]))],.reg [.none,.none,.none,.none,(.pv (vI sig))],.dec true,.reg []]) (cj h1 (cj (Eq.refl false) (cj (Eq.refl false) (cj h2 (cj (Eq.refl false) (cj (dle_t h3) True.intro)))))) (by kernel_rfl))
theorem e1(q:List ARat)(length eva:ARat)(sig cou:Int)(h1:Contract prg 27 [(polyPV q),(⟨false,[],[]⟩:ARat).pv] (.tup [eva.pv,.nilI]))(h2:Contract prg 39 [eva.pv] (vI sig))(h3:0<sig)(h4:Contract prg 159 [(polyPV q),(⟨false,[],[]⟩:ARat).pv,length.pv] (.tup [(vI cou),.nilI])):Contract prg 199 [(polyPV q),length.pv] (.tup [(vB (cou==0)),.nilI]) :=
 Contract.ofL Tryz.func199 (by kernel_rfl) (L.done mixed tabOk (n:=99) (ns:=[1,1,1,1,1,1,1,1,1]) (tr:=[.reg [],.reg [.none,.none,(.pv (.tup [eva.pv,.nilI]))],.reg [.none,.none,.none,.none,(.pv (vI sig))],.dec false,.reg [.none,.none,.none,(.pv (.tup [(vI cou),.nilI]))],.reg []]) (cj h1 (cj (Eq.refl false) (cj (Eq.refl false) (cj h2 (cj (Eq.refl false) (cj (dle_f h3) (cj h4 (cj (Eq.refl true) (cj (Eq.refl true) True.intro))))))))) (by kernel_rfl))
end cam_positive
end Go.Proofs.YtbgkjomonebfcaaGreat.Sym.Path
namespace Go.Proofs.YtbgkjomonebfcaaGreat.Sym
open Go Path CInt
set_option linter.unusedVariables false
def chkCam(c:ACam):Int:=if chkLaw c.lift=0 then (if c.base.valid=true∧0<c.base.val then 0 else 3) else chkLaw c.lift
structure GCam (c:ACam):Prop where
 law:chkLaw c.lift=0
 bv:c.base.valid=true
 b0:0<c.base.val
 fb:ht c.base.val≤4
 fl:FitW 1 c.lift
 len:∀p∈c.lift.pieces,p.length≤6
theorem gcam_chk{c:ACam}(g:GCam c):chkCam c=0:=by unfold chkCam;rw[if_pos g.law,if_pos ⟨g.bv,g.b0⟩]
theorem chkCam_zero{c:ACam}(h:chkCam c=0):chkLaw c.lift=0∧c.base.valid=true∧0<c.base.val:=by
 unfold chkCam at h
 by_cases h1:chkLaw c.lift=0
 ·rw[if_pos h1] at h
  by_cases h2:c.base.valid=true∧0<c.base.val
  ·exact⟨h1,h2⟩
  ·rw[if_neg h2] at h;cases h
 ·rw[if_neg h1] at h;exact absurd h h1
def piLo:Rat:=Rat.divInt 333 106
def piHi:Rat:=Rat.divInt 355 113
def radC(c:ACam)(x:Rat):Rat:=c.base.val+atW c.lift x
def sqP(pi:Rat):Rat:=1/(4*(pi*pi))
def combL(base byV:Rat)(p:List Rat)(f:Rat)(q:List Rat):List Rat:=trimL (addL (smulL byV (addL [base] p)) (smulL f q))
def posB(p:List Rat)(len:Rat):Bool:=decide (0<coef p 0)&&decide (chg (chainL p) 0-chg (chainL p) len=0)
def allF(c:ACam)(byV f:Rat)(d:ALaw):Nat→Nat→Bool
 |0,_=>true
 |j+1,t=>bif posB (combL c.base.val byV (pcW c.lift t) f (pcW d t)) (lenW c.lift t) then allF c byV f d j (t+1) else false
def allC(c:ACam)(byV f:Rat)(d:ALaw):Bool:=allF c byV f d c.lift.pieces.length 0
def tanP(c:ACam)(x pi:Rat):Rat:=atW (deriveW c.lift) x/(2*radC c x*pi)
def curP(c:ACam)(x pi:Rat):Rat:=radC c x+atW (deriveW (deriveW c.lift)) x*sqP pi
def convC(c:ACam):Bool:=allC c 1 (sqP piLo) (deriveW (deriveW c.lift))&&allC c 1 (sqP piHi) (deriveW (deriveW c.lift))
theorem coef_eval0:∀p:List Rat,coef p 0=evalL p 0
 |[]=>rfl
 |a::r=>by show a=evalL r 0*0+a;grind
theorem combL_len(base byV:Rat)(p:List Rat)(f:Rat)(q:List Rat){n:Nat}(hn:1≤n)(hp:p.length≤n)(hq:q.length≤n):(combL base byV p f q).length≤n:=by
 unfold combL
 have:=len_trimL (addL (smulL byV (addL [base] p)) (smulL f q))
 rw[len_addL,len_smulL,len_addL,len_smulL] at this
 simp only[List.length_cons,List.length_nil] at this
 omega
theorem combL_fl{base byV f:Rat}{p q:List Rat}{a b k m n:Nat}(hb:ht base≤a)(hby:ht byV≤k)(hf:ht f≤m)(hp:Fl b p)(hq:Fl n q)(ha:1≤a)(h1:1≤b)(hn:1≤n):Fl (k+(a+b+1)+(m+n)+1) (combL base byV p f q):=by
 have h2:Fl (a+b+1) (addL [base] p):=fl_addL (fun x hx=>by rw[List.mem_singleton.1 hx];exact hb) hp ha h1
 have h3:Fl (k+(a+b+1)) (smulL byV (addL [base] p)):=fl_mono (fl_smulL h2) (by omega)
 have h4:Fl (m+n) (smulL f q):=fl_mono (fl_smulL hq) (by omega)
 exact fl_trimL (fl_addL h3 h4 (by omega) (by omega))
theorem fine_of{p:List Rat}(hz:lastZ p=false)(h0:p≠[])(hl:p.length≤6)(hf:Fl 24 p):Fine 145 6 p:=by
 have h1:=Ch.of_fl hf
 have h2:p.length*24≤6*24:=Nat.mul_le_mul_right _ hl
 exact⟨hz,h0,hl,h1.mono (by omega),by omega,by omega,by decide⟩
theorem posB_neg{p:List Rat}{len:Rat}(h:¬0<coef p 0):posB p len=false:=by unfold posB;rw[decide_eq_false h];rfl
theorem posB_pos{p:List Rat}{len:Rat}(h:0<coef p 0):posB p len=((chg (chainL p) 0-chg (chainL p) len)==0):=by unfold posB;rw[decide_eq_true h,Bool.true_and];rfl
theorem pc_len6{c:ACam}(g:GCam c)(t:Nat):(pcW c.lift t).length≤6:=by
 unfold pcW
 cases h:c.lift.pieces[t]? with
 |some p=>have:=g.len p (List.mem_of_getElem? h);show(vals p).length≤6;unfold vals;rw[List.length_map];exact this
 |none=>simp
theorem pc_trim{l:ALaw}(g:Good l)(t:Nat):lastZ (pcW l t)=false:=by
 unfold pcW
 cases h:l.pieces[t]? with
 |some p=>exact chk_last (g.ps p (List.mem_of_getElem? h)).1
 |none=>rfl
structure GDer (c:ACam) (d:ALaw):Prop where
 good:chkLaw d=0
 fit:FitW 5 d
 pcs:d.pieces.length=c.lift.pieces.length
 len:∀t,(pcW d t).length≤6
theorem deriveW_len(l:ALaw):(deriveW l).pieces.length=l.pieces.length:=by unfold deriveW;simp
theorem gder1{c:ACam}(g:GCam c):GDer c (deriveW c.lift):=by
 have f:=fitW_derive (good_of g.law) (by omega) g.fl
 refine⟨chk_derive g.law,⟨fun a ha=>⟨by have:=(f.1 a ha).1;omega,by have:=(f.1 a ha).2;omega⟩,fun p hp a ha=>⟨by have:=(f.2 p hp a ha).1;omega,by have:=(f.2 p hp a ha).2;omega⟩⟩,deriveW_len _,fun t => ?_⟩
 rw[deriveW_pc]
 have:=len_deriveL (pcW c.lift t)
 have:=pc_len6 g t
 omega
theorem gder2{c:ACam}(g:GCam c):GDer c (deriveW (deriveW c.lift)):=by
 have h1:=gder1 g
 have f:=fitW_derive (good_of h1.good) (by omega) (fitW_derive (good_of g.law) (by omega) g.fl)
 refine⟨chk_derive h1.good,f,by rw[deriveW_len,deriveW_len],fun t => ?_⟩
 rw[deriveW_pc]
 have:=len_deriveL (pcW (deriveW c.lift) t)
 have:=h1.len t
 omega
theorem fitW_up{l:ALaw}{k m:Nat}(h:FitW k l)(hk:k≤m):FitW m l :=
 ⟨fun a ha=>⟨by have:=(h.1 a ha).1;omega,by have:=(h.1 a ha).2;omega⟩,fun p hp a ha=>⟨by have:=(h.2 p hp a ha).1;omega,by have:=(h.2 p hp a ha).2;omega⟩⟩
theorem base_mk{c:ACam}(g:GCam c):c.base=mkR c.base.val:=(mkR_of g.bv).symm
theorem ht_atD{l:ALaw}{x:Rat}(g:Good l)(hf:FitW 5 l)(hx:ht x≤4):ht (atW l x)≤2000:=by
 rw[atW_eq]
 have b1:=ht_frac hx
 have b2:=ht_brkW hf (by omega) (pieceL (vals l.breaks) (frac x))
 have b3:=ht_sub (frac x) (brkW l (pieceL (vals l.breaks) (frac x)))
 have b4:=ht_eval (pcW l (pieceL (vals l.breaks) (frac x))) (frac x-brkW l (pieceL (vals l.breaks) (frac x))) 20 (fun y hy=>Nat.le_trans (fl_pcW hf (by omega) _ y hy) (by omega)) (by omega)
 have b5:(pcW l (pieceL (vals l.breaks) (frac x))).length*(2*20+1)≤9*41:=Nat.mul_le_mul_right _ (pcW_len g _)
 omega
namespace CCa
theorem Check(c:ACam)(hf:FitW 1073741824 c.lift)(hb:c.base.num.length≤68719476736∧c.base.den.length≤68719476736):Contract prg 47 [c.pv] (errPV (errOf (chkCam c))):=by
 have hk:=CLw.Check c.lift hf
 unfold chkCam
 by_cases h:chkLaw c.lift=0
 ·rw[if_pos h]
  rw[h] at hk
  have hv:=CFr.Valid c.base ⟨by omega,by omega⟩
  have hs:=CFr.Sign c.base ⟨by omega,by omega⟩
  cases hvb:c.base.valid with
  |false =>
   rw[if_neg (by intro e;cases e.1)]
   exact cam_Check.e0 c _ hk hv hvb
  |true =>
   by_cases h0:0<c.base.val
   ·rw[if_pos ⟨rfl,h0⟩]
    exact cam_Check.e2 c _ _ hk hv hvb hs (cmpR_gt.2 h0)
   ·rw[if_neg (by intro e;exact h0 e.2)]
    exact cam_Check.e1 c _ _ hk hv hvb hs (cmpR_le.2 (by grind))
 ·rw[if_neg h]
  rw[errOf_ne h] at hk ⊢
  exact cam_Check.e3 c _ hk
theorem check{c:ACam}(g:GCam c):Contract prg 47 [c.pv] .nilI:=by
 have hb:=fit_mkRk g.fb
 rw[←base_mk g] at hb
 have:=Check c (fitW_up g.fl (by omega)) (by omega)
 rwa[gcam_chk g] at this
theorem low:Contract prg 111 [] (mkR piLo).pv:=cam_low.e0 _ (cam_ratio.e0 _ _ _ none (QF.Make 333 106 (by unfold InI64;omega) (by unfold InI64;omega) (by omega)))
theorem high:Contract prg 110 [] (mkR piHi).pv:=cam_high.e0 _ (cam_ratio.e0 _ _ _ none (QF.Make 355 113 (by unfold InI64;omega) (by unfold InI64;omega) (by omega)))
theorem Radius{c:ACam}(g:GCam c)(x:Rat)(hx:ht x≤4):Contract prg 43 [c.pv,(mkR x).pv] (.tup [(mkR (radC c x)).pv,.nilI]):=by
 have hx':=fit_mkRk hx
 have hg:=cam_given.e1 c (mkR x) _ (check g) (QF.Valid x (by omega)) rfl
 have ha:=CLw.At c.lift (mkR x) g.law (fitW_up g.fl (by omega)) (mkR_valid x) (by omega)
 rw[mkR_val] at ha
 have hh:=ht_atD (good_of g.law) (fitW_up g.fl (by omega)) hx
 have hfb:=g.fb
 have hadd:=QF.Add c.base.val (atW c.lift x) (by omega) (by omega)
 rw[←base_mk g] at hadd
 exact cam_Radius.e0 c _ _ _ hg ha hadd
theorem ht_rad{c:ACam}(g:GCam c){x:Rat}(hx:ht x≤4):ht (radC c x)≤2005:=by
 have hh:=ht_atD (good_of g.law) (fitW_up g.fl (by omega)) hx
 have hfb:=g.fb
 have:=ht_add c.base.val (atW c.lift x)
 unfold radC;omega
theorem derived1{c:ACam}(g:GCam c)(x:Rat)(hx:ht x≤4):Contract prg 108 [c.lift.pv,vI 1,(mkR x).pv] (.tup [(mkR (atW (deriveW c.lift) x)).pv,.nilI]):=by
 have hx':=fit_mkRk hx
 have h1:=gder1 g
 have hd:=CLw.Derive c.lift g.law (fitW_up g.fl (by omega))
 have ha:=CLw.At (deriveW c.lift) (mkR x) h1.good (fitW_up h1.fit (by omega)) (mkR_valid x) (by omega)
 rw[mkR_val] at ha
 exact cam_derived.e0 _ _ _ (cam_derived.l10 1 0 _ _ _ (by omega) hd (by omega) (cam_derived.l12 1 1 _ _ _ none (by omega) ha))
theorem derived2{c:ACam}(g:GCam c)(x:Rat)(hx:ht x≤4):Contract prg 108 [c.lift.pv,vI 2,(mkR x).pv] (.tup [(mkR (atW (deriveW (deriveW c.lift)) x)).pv,.nilI]):=by
 have hx':=fit_mkRk hx
 have h1:=gder1 g
 have h2:=gder2 g
 have hd:=CLw.Derive c.lift g.law (fitW_up g.fl (by omega))
 have hd2:=CLw.Derive (deriveW c.lift) h1.good (fitW_up h1.fit (by omega))
 have ha:=CLw.At (deriveW (deriveW c.lift)) (mkR x) h2.good (fitW_up h2.fit (by omega)) (mkR_valid x) (by omega)
 rw[mkR_val] at ha
 exact cam_derived.e0 _ _ _ (cam_derived.l10 2 0 _ _ _ (by omega) hd (by omega) (cam_derived.l10 2 1 _ _ _ (by omega) hd2 (by omega) (cam_derived.l12 2 2 _ _ _ none (by omega) ha)))
theorem enclose(a b:Rat)(ha:ht a≤68719476736)(hb:ht b≤68719476736):Contract prg 112 [(mkR a).pv,(mkR b).pv] (mkG (minR a b) (maxR a b)).pv:=by
 have h:=CIv.Hull (mkG a a) (mkG b b) (fit_mkG ha ha) (fit_mkG hb hb)
 rw[loG_mk Rat.le_refl,loG_mk Rat.le_refl,hiG_mk Rat.le_refl,hiG_mk Rat.le_refl] at h
 exact cam_enclose.e0 _ _ _ _ _ (CIv.Point a ha) (CIv.Point b hb) h
theorem square(pi:Rat)(hp:ht pi≤4)(h0:pi≠0):Contract prg 113 [(mkR pi).pv] (mkR (sqP pi)).pv:=by
 have z1:ht ((1:Int):Rat)≤1:=by decide
 have z4:ht ((4:Int):Rat)≤1:=by decide
 have m1:=ht_mul pi pi
 have m2:=ht_mul ((4:Int):Rat) (pi*pi)
 have hne:((4:Int):Rat)*(pi*pi)≠0:=by
  intro e
  rcases Rat.mul_eq_zero.1 e with e|e
  ·exact absurd e (by decide)
  ·rcases Rat.mul_eq_zero.1 e with e|e<;>exact h0 e
 exact cam_square.e0 _ _ _ _ _ _ none (CFr.Of 1 (by unfold InI64;omega)) (CFr.Of 4 (by unfold InI64;omega)) (QF.Mul pi pi (by omega) (by omega)) (QF.Mul _ _ (by omega) (by omega)) (QF.Div _ _ (by omega) (by omega) hne)
theorem Pressure0{c:ACam}(g:GCam c)(x:Rat)(hx:ht x≤4)(h:radC c x≤0):Contract prg 44 [c.pv,(mkR x).pv] (.tup [(mkG 0 0).pv,errPV (some 8)]) :=
 cam_Pressure.e0 c _ _ _ (Radius g x hx) (QF.Sign _ (by have:=ht_rad g hx;omega)) (cmpR_le.2 h)
theorem Pressure{c:ACam}(g:GCam c)(x:Rat)(hx:ht x≤4)(h:0<radC c x):Contract prg 44 [c.pv,(mkR x).pv] (.tup [(mkG (minR (tanP c x piHi) (tanP c x piLo)) (maxR (tanP c x piHi) (tanP c x piLo))).pv,.nilI]):=by
 have hr:=ht_rad g hx
 have hd:=ht_atD (good_of (gder1 g).good) (gder1 g).fit hx
 have z2:ht ((2:Int):Rat)≤1:=by decide
 have p1:ht piHi≤1:=by decide
 have p2:ht piLo≤1:=by decide
 have m0:=ht_mul ((2:Int):Rat) (radC c x)
 have m1:=ht_mul (((2:Int):Rat)*radC c x) piHi
 have m2:=ht_mul (((2:Int):Rat)*radC c x) piLo
 have n0:((2:Int):Rat)*radC c x≠0:=by
  intro e
  rcases Rat.mul_eq_zero.1 e with e|e
  ·exact absurd e (by decide)
  ·rw[e] at h;exact absurd h Rat.lt_irrefl
 have n1:((2:Int):Rat)*radC c x*piHi≠0:=by
  intro e
  rcases Rat.mul_eq_zero.1 e with e|e
  ·exact n0 e
  ·exact absurd e (by decide)
 have n2:((2:Int):Rat)*radC c x*piLo≠0:=by
  intro e
  rcases Rat.mul_eq_zero.1 e with e|e
  ·exact n0 e
  ·exact absurd e (by decide)
 have d1:=ht_div (atW (deriveW c.lift) x) (((2:Int):Rat)*radC c x*piHi)
 have d2:=ht_div (atW (deriveW c.lift) x) (((2:Int):Rat)*radC c x*piLo)
 exact cam_Pressure.e1 c _ _ _ _ _ _ _ _ _ _ _ _ _ (Radius g x hx) (QF.Sign _ (by omega)) (cmpR_gt.2 h) (derived1 g x hx) (CFr.Of 2 (by unfold InI64;omega)) (QF.Mul _ _ (by omega) (by omega)) high (QF.Mul _ _ (by omega) (by omega)) (QF.Div _ _ (by omega) (by omega) n1) low (QF.Mul _ _ (by omega) (by omega)) (QF.Div _ _ (by omega) (by omega) n2) (enclose _ _ (by omega) (by omega))
theorem Curvature{c:ACam}(g:GCam c)(x:Rat)(hx:ht x≤4):Contract prg 45 [c.pv,(mkR x).pv] (.tup [(mkG (minR (curP c x piHi) (curP c x piLo)) (maxR (curP c x piHi) (curP c x piLo))).pv,.nilI]):=by
 have hr:=ht_rad g hx
 have hd:=ht_atD (good_of (gder2 g).good) (gder2 g).fit hx
 have s1:ht (sqP piHi)≤1:=by decide +kernel
 have s2:ht (sqP piLo)≤1:=by decide +kernel
 have m1:=ht_mul (atW (deriveW (deriveW c.lift)) x) (sqP piHi)
 have m2:=ht_mul (atW (deriveW (deriveW c.lift)) x) (sqP piLo)
 have a1:=ht_add (radC c x) (atW (deriveW (deriveW c.lift)) x*sqP piHi)
 have a2:=ht_add (radC c x) (atW (deriveW (deriveW c.lift)) x*sqP piLo)
 exact cam_Curvature.e0 c _ _ _ _ _ _ _ _ _ _ _ _ (Radius g x hx) (derived2 g x hx) high (square piHi (by decide) (by decide)) (QF.Mul _ _ (by omega) (by omega)) (QF.Add _ _ (by omega) (by omega)) low (square piLo (by decide) (by decide)) (QF.Mul _ _ (by omega) (by omega)) (QF.Add _ _ (by omega) (by omega)) (enclose _ _ (by omega) (by omega))
theorem AddQ{a b:Nat}(p q:List Rat)(zp:lastZ p=false)(zq:lastZ q=false)(lp:p.length≤65)(lq:q.length≤65)(hp:Fl a p)(hq:Fl b q)(ha:1≤a)(hb:1≤b)(hk:a+b+2≤68719476736):Contract prg 33 [pq p,pq q] (.tup [pq (trimL (addL p q)),.nilI]):=by
 have hck:=CPl.checks2 (p.map mkR) (q.map mkR) (fitQ hp (by omega)) (fitQ hq (by omega))
 rw[chk2_zero (chk_map zp lp) (chk_map zq lq)] at hck
 have h:=CPl.plus (d:=1) p q ((1:Int):Rat) (by omega) (by omega) hp hq (by decide) ha hb (by omega)
 rw[show ((1:Int):Rat)=1 from rfl,smulL_one] at h
 exact poly_Add.e0 _ _ _ _ hck (CFr.Of 1 (by unfold InI64;omega)) h
theorem ScaleQ{a d:Nat}(p:List Rat)(c:Rat)(zp:lastZ p=false)(lp:p.length≤65)(hp:Fl a p)(hc:ht c≤d)(ha:1≤a)(hk:a+d+2≤68719476736):Contract prg 72 [pq p,(mkR c).pv] (.tup [pq (trimL (smulL c p)),.nilI]):=by
 have hck:=CPo.Check (p.map mkR) (fitQ hp (by omega))
 rw[chk_map zp lp] at hck
 exact poly_Scale.e0 _ _ _ hck (CPl.plus (a:=1) (d:=d) [] p c (by simp) (by omega) (fun x hx=>by cases hx) hp hc (by omega) ha (by omega))
theorem comb_same(base byV:Rat)(p:List Rat)(f:Rat)(q:List Rat):trimL (addL (trimL (smulL byV (trimL (addL (trimL [base]) p)))) (trimL (smulL f q)))=combL base byV p f q :=
 eval_ext (fun x=>by simp only[evalL_addL,evalL_trimL,evalL_smulL])
theorem combined{base byV f:Rat}{p q:List Rat}(zp:lastZ p=false)(zq:lastZ q=false)(lp:p.length≤9)(lq:q.length≤9)(hb:ht base≤20)(hby:ht byV≤20)(hf:ht f≤20)(hp:Fl 20 p)(hq:Fl 20 q):Contract prg 198 [(mkR base).pv,(mkR byV).pv,pq p,(mkR f).pv,pq q] (.tup [pq (combL base byV p f q),.nilI]):=by
 have hb1:Fl 20 [base]:=fun x hx=>by rw[List.mem_singleton.1 hx];exact hb
 have t1:=CPl.Trim [base] (by simp) hb1 (by omega)
 have l1:=len_trimL [base]
 simp only[List.length_cons,List.length_nil] at l1
 have h2:Fl 41 (addL (trimL [base]) p):=fl_addL (fl_trimL hb1) hp (by omega) (by omega)
 have a1:=AddQ (trimL [base]) p (lastZ_trimL _) zp (by omega) (by omega) (fl_trimL hb1) hp (by omega) (by omega) (by omega)
 have l2:=len_trimL (addL (trimL [base]) p)
 rw[len_addL] at l2
 have s1:=ScaleQ (trimL (addL (trimL [base]) p)) byV (lastZ_trimL _) (by omega) (fl_trimL h2) hby (by omega) (by omega)
 have h3:Fl 61 (smulL byV (trimL (addL (trimL [base]) p))):=fl_mono (fl_smulL (fl_trimL h2)) (by omega)
 have s2:=ScaleQ q f zq (by omega) hq hf (by omega) (by omega)
 have h4:Fl 40 (smulL f q):=fl_mono (fl_smulL hq) (by omega)
 have l3:=len_trimL (smulL byV (trimL (addL (trimL [base]) p)))
 rw[len_smulL] at l3
 have l4:=len_trimL (smulL f q)
 rw[len_smulL] at l4
 have a2:=AddQ (trimL (smulL byV (trimL (addL (trimL [base]) p)))) (trimL (smulL f q)) (lastZ_trimL _) (lastZ_trimL _) (by omega) (by omega) (fl_trimL h3) (fl_trimL h4) (by omega) (by omega) (by omega)
 rw[comb_same] at a2
 exact cam_combined.e0 _ _ _ _ _ _ _ _ _ _ none t1 a1 s1 s2 a2
theorem positive{p:List Rat}(hz:lastZ p=false)(hl:p.length≤6)(hf:Fl 24 p)(len:Rat)(h0:0≤len)(hh:ht len≤100):Contract prg 199 [pq p,(mkR len).pv] (.tup [vB (posB p len),.nilI]):=by
 have hev:=CPo.Eval (p.map mkR) (mkR 0) (chk_map hz (by omega)) (fit_mapk (fl_mono hf (by omega))) (by constructor<;>decide)
 rw[vals_mkR,mkR_val,←coef_eval0] at hev
 have hs:=QF.Sign (coef p 0) (by have:=fl_coef hf (by omega) 0;omega)
 by_cases h:0<coef p 0
 ·have hne:p≠[]:=by intro e;rw[e] at h;exact absurd h Rat.lt_irrefl
  have hc:=CSt.Count (fine_of hz hne hl hf) 0 len h0 (by decide) (by omega)
  rw[posB_pos h]
  exact cam_positive.e1 _ _ _ _ _ hev hs (cmpR_gt.2 h) hc
 ·rw[posB_neg h]
  exact cam_positive.e0 _ _ _ _ hev hs (cmpR_le.2 (by grind))
theorem all2{c:ACam}(g:GCam c){byV f:Rat}(hby:ht byV≤7)(hf:ht f≤4){d:ALaw}(hd:GDer c d):cam_all.Loop2 c 0 (mkR byV) (mkR f) d (.tup [vB (allC c byV f d),.nilI]):=by
 have gl:=good_of g.law
 have gd:=good_of hd.good
 have hlen:=gl.len
 have hle:=gl.le
 have hdp:=hd.pcs
 have loop:∀(j t:Nat),c.lift.pieces.length-t=j→cam_all.Loop2 c t (mkR byV) (mkR f) d (.tup [vB (allF c byV f d j t),.nilI]):=by
  intro j
  induction j with
  |zero=>intro t hj;exact cam_all.l27 c t _ _ _ (by omega)
  |succ j ih =>
   intro t hj
   have ht:t<c.lift.pieces.length:=by omega
   obtain⟨b,p,hb,hp,eb,ep,hcp,h9⟩:=gl.at ht
   obtain⟨b',p',hb',hp',eb',ep',hcp',h9'⟩:=gd.at (t:=t) (by omega)
   rw[ep] at hp
   rw[ep'] at hp'
   rw[eb] at hb
   have l1:=pc_len6 g t
   have l2:=hd.len t
   have f1:=fl_pcW g.fl (by omega) t
   have f2:=fl_pcW hd.fit (by omega) t
   have hfb:=g.fb
   have hcomb:=combined (base:=c.base.val) (pc_trim gl t) (pc_trim gd t) (by omega) (by omega) (by omega) (show Sym.ht byV≤20 by omega) (show Sym.ht f≤20 by omega) (fl_mono f1 (by omega)) (fl_mono f2 (by omega))
   rw[←base_mk g] at hcomb
   have hcl:=combL_len c.base.val byV (pcW c.lift t) f (pcW d t) (n:=6) (by omega) l1 l2
   have hcf:=combL_fl (base:=c.base.val) g.fb hby hf f1 f2 (by omega) (by omega) (by omega)
   have hlp:=lenW_pos gl (t:=t) (by omega)
   have hlh:=ht_lenW g.fl (by omega) t
   have hpo:=positive (p:=combL c.base.val byV (pcW c.lift t) f (pcW d t)) (lastZ_trimL _) hcl (fl_mono hcf (by omega)) (lenW c.lift t) (Rat.le_of_lt hlp) (by omega)
   have e1:=ht_endW g.fl (by omega) t
   have e2:=ht_brkW g.fl (by omega) t
   have hone:=CFr.Of 1 (by unfold InI64;omega)
   have hsub:=QF.Sub (endW c.lift t) (brkW c.lift t) (by omega) (by omega)
   rw[allF]
   by_cases hn:t+1<c.lift.breaks.length
   ·obtain⟨v,hv⟩:∃v,c.lift.breaks[t+1]? = some v:=⟨_,List.getElem?_eq_getElem hn⟩
    have ev:v=mkR (endW c.lift t):=by
     unfold endW
     rw[hv,mkR_of (List.all_eq_true.1 gl.valid v (List.mem_of_getElem? hv))]
    rw[ev] at hv
    cases hb:posB (combL c.base.val byV (pcW c.lift t) f (pcW d t)) (lenW c.lift t) with
    |false=>exact cam_all.l20 c t _ _ _ _ _ _ _ _ _ _ _ ht hp hp' hcomb hone (by omega) hn hv (by assumption) hsub hpo hb
    |true=>exact cam_all.l21 c t _ _ _ _ _ _ _ _ _ _ _ ht hp hp' hcomb hone (by omega) hn hv (by assumption) hsub hpo hb (ih (t+1) (by omega))
   ·have ev:endW c.lift t=((1:Int):Rat):=by
     unfold endW
     rw[List.getElem?_eq_none (by omega)]
    rw[ev] at hsub
    have hpo':=hpo
    have el:lenW c.lift t=((1:Int):Rat)-brkW c.lift t:=by unfold lenW;rw[ev]
    rw[el] at hpo'
    cases hb:posB (combL c.base.val byV (pcW c.lift t) f (pcW d t)) (lenW c.lift t) with
    |false=>exact cam_all.l23 c t _ _ _ _ _ _ _ _ _ _ ht hp hp' hcomb hone (by omega) (by omega) (by assumption) hsub hpo' (by rw[←el];exact hb)
    |true=>exact cam_all.l24 c t _ _ _ _ _ _ _ _ _ _ ht hp hp' hcomb hone (by omega) (by omega) (by assumption) hsub hpo' (by rw[←el];exact hb) (ih (t+1) (by omega))
 exact loop _ 0 rfl
theorem all22{c:ACam}(g:GCam c){byV f:Rat}(hby:ht byV≤7)(hf:ht f≤4):Contract prg 126 [c.pv,(mkR byV).pv,(mkR f).pv,vI 2] (.tup [vB (allC c byV f (deriveW (deriveW c.lift))),.nilI]):=by
 have hd:=CLw.Derive c.lift g.law (fitW_up g.fl (by omega))
 have h1:=gder1 g
 have hd2:=CLw.Derive (deriveW c.lift) h1.good (fitW_up h1.fit (by omega))
 exact cam_all.e0 c _ _ _ (cam_all.l10 2 0 c _ _ _ _ (by omega) hd (by omega) (cam_all.l10 2 1 c _ _ _ _ (by omega) hd2 (by omega) (cam_all.l12 2 2 c _ _ _ (by omega) (all2 g hby hf (gder2 g)))))
theorem Convex{c:ACam}(g:GCam c):Contract prg 56 [c.pv] (.tup [vB (convC c),.nilI]):=by
 have s1:ht (sqP piHi)≤1:=by decide +kernel
 have s2:ht (sqP piLo)≤1:=by decide +kernel
 have a1:=all22 (byV:=((1:Int):Rat)) (f:=sqP piLo) g (by decide) (by omega)
 have a2:=all22 (byV:=((1:Int):Rat)) (f:=sqP piHi) g (by decide) (by omega)
 have o2:=CFr.Of 1 (by unfold InI64;omega)
 have q1:=square piLo (by decide) (by decide)
 have q2:=square piHi (by decide) (by decide)
 refine cam_Convex.e0 c _ _ (check g) low high ?_
 unfold convC
 cases h1:allC c 1 (sqP piLo) (deriveW (deriveW c.lift)) with
 |false=>exact cam_Convex.l10 0 c _ _ _ _ _ _ (by omega) rfl o2 q1 a1 h1
 |true =>
  refine cam_Convex.l11 0 c _ _ _ _ _ _ (by omega) rfl o2 q1 a1 h1 (by omega) ?_
  cases h2:allC c 1 (sqP piHi) (deriveW (deriveW c.lift)) with
  |false=>exact cam_Convex.l10 1 c _ _ _ _ _ _ (by omega) rfl o2 q2 a2 h2
  |true=>exact cam_Convex.l11 1 c _ _ _ _ _ _ (by omega) rfl o2 q2 a2 h2 (by omega) (cam_Convex.l13 2 c _ _ (by omega))
end CCa
end Go.Proofs.YtbgkjomonebfcaaGreat.Sym
namespace Go.Proofs.YtbgkjomonebfcaaGreat.Sym
open Go Path CInt
set_option linter.unusedVariables false
namespace CCr
theorem Check(c:ACam)(hf:FitW 1073741824 c.lift)(hb:c.base.num.length≤68719476736∧c.base.den.length≤68719476736):Contract prg 46 [c.pv] (vI (chkCam c)):=by
 have hk:=CRl.Check c.lift hf
 unfold chkCam
 by_cases h:chkLaw c.lift=0
 ·rw[if_pos h]
  have hv:=CRb.Valid c.base ⟨by omega,by omega⟩
  have hs:=CRb.Sign c.base ⟨by omega,by omega⟩
  cases hvb:c.base.valid with
  |false =>
   rw[if_neg (by intro e;cases e.1)]
   exact linkworkref53_Check.e1 c _ _ hk h hv hvb
  |true =>
   by_cases h0:0<c.base.val
   ·rw[if_pos ⟨rfl,h0⟩]
    exact linkworkref53_Check.e3 c _ _ _ hk h hv hvb hs (cmpR_gt.2 h0)
   ·rw[if_neg (by intro e;exact h0 e.2)]
    exact linkworkref53_Check.e2 c _ _ _ hk h hv hvb hs (cmpR_le.2 (by grind))
 ·rw[if_neg h]
  exact linkworkref53_Check.e0 c _ hk h
end CCr
end Go.Proofs.YtbgkjomonebfcaaGreat.Sym
namespace Go.Proofs.YtbgkjomonebfcaaGreat.Sym.Path
open Go
set_option maxRecDepth 20000
set_option linter.unusedVariables false
namespace linkworklaw53_CamDwells
theorem e1(c:ACam)(pick:Nat)(awa val awa1:Bool)(h1:Contract prg 40 [] (vB awa))(h2:awa=true)(h3:Contract prg 62 [c.pv] (vB val))(h4:val=false)(h5:Contract prg 40 [] (vB awa1)):Contract prg 13 [c.pv,(.int .u8 (pick:Int))] (vB awa1) :=
 Contract.ofL Tryz.func13 (by kernel_rfl) (L.done mixed tabOk (n:=84) (ns:=[1,1,1,1,1,1,1,1]) (tr:=[.reg [],.reg [(.pv (vB awa)),.none,.none,.none,(.pv (vB val)),.none,(.dec false)],.dec true,.reg [(.pv (vB awa1))]]) (cj h1 (cj (bnot_f h2) (cj (bnot_f h2) (cj h3 (cj (bnot_f h2) (cj (bnot_f h2) (cj (bnot_t h4) (cj h5 True.intro)))))))) (by kernel_rfl))
theorem e2(c:ACam)(pick:Nat)(awa val:Bool)(dwe:List AArc)(h1:Contract prg 40 [] (vB awa))(h2:awa=true)(h3:Contract prg 62 [c.pv] (vB val))(h4:val=true)(h5:Contract prg 66 [c.lift.pv] (.tup [(lpv AArc.cells dwe),.nilI]))(h6:dwe.length=0):Contract prg 13 [c.pv,(.int .u8 (pick:Int))] (vB true) :=
 Contract.ofL Tryz.func13 (by kernel_rfl) (L.done mixed tabOk (n:=120) (ns:=[1,1,1,1,1,1,1,1,1,1]) (tr:=[.reg [],.reg [(.pv (vB awa)),.none,.none,.none,(.pv (vB val)),.none,(.dec false)],.dec false,.reg [.none,.none,(.pv (.tup [(lpv AArc.cells dwe),.nilI]))],.reg [],.auto,.reg [.none,(iI (dwe.length:Int))],.dec true,.reg []]) (cj h1 (cj (bnot_f h2) (cj (bnot_f h2) (cj h3 (cj (bnot_f h2) (cj (bnot_f h2) (cj (bnot_f h4) (cj h5 (cj (o_len AArc.cells dwe) (cj (deqN_t h6) True.intro)))))))))) (by kernel_rfl))
theorem e3(c:ACam)(pick:Nat)(awa val:Bool)(dwe:List AArc)(v:AArc)(rad:ARat)(cur:ARange)(sam:Bool)(pre:ARange)(sam1:Bool)(h1:Contract prg 40 [] (vB awa))(h2:awa=true)(h3:Contract prg 62 [c.pv] (vB val))(h4:val=true)(h5:Contract prg 66 [c.lift.pv] (.tup [(lpv AArc.cells dwe),.nilI]))(h6:dwe.length≠0)(h7:pick<9223372036854775808)(h8:dwe[(pick%dwe.length)]? = some v)(h9:Contract prg 43 [c.pv,v.fromV.pv] (.tup [rad.pv,.nilI]))(h10:Contract prg 45 [c.pv,v.fromV.pv] (.tup [cur.pv,.nilI]))(h11:Contract prg 50 [cur.pv,(⟨rad,rad⟩:ARange).pv] (vB sam))(h12:sam=true)(h13:Contract prg 44 [c.pv,v.fromV.pv] (.tup [pre.pv,.nilI]))(h14:Contract prg 50 [pre.pv,(⟨(⟨false,[],[]⟩:ARat),(⟨false,[],[]⟩:ARat)⟩:ARange).pv] (vB sam1)):Contract prg 13 [c.pv,(.int .u8 (pick:Int))] (vB sam1) :=
 Contract.ofL Tryz.func13 (by kernel_rfl) (L.done mixed tabOk (n:=177) (ns:=[1,1,1,1,1,1,1,1,1,1,1,1,1,3,1,1,1,1,1,1,1,1,1,1,1,1,1,1]) (tr:=[.reg [],.reg [(.pv (vB awa)),.none,.none,.none,(.pv (vB val)),.none,(.dec false)],.dec false,.reg [.none,.none,(.pv (.tup [(lpv AArc.cells dwe),.nilI]))],.reg [],.auto,.reg [.none,(iI (dwe.length:Int))],.dec false,.reg [.none,.none,(iI (pick:Int)),.none,(iI (dwe.length:Int)),(iI (((pick%dwe.length):Nat):Int)),(.row (pick%dwe.length) (AArc.cells v))],.reg [.none,.none,(.pv (.tup [rad.pv,.nilI]))],.reg [.none,.none,(.pv (.tup [cur.pv,.nilI]))],.reg [.none,.none,.none,.none,.none,.none,.none,.none,.none,.none,.none,(.pv (vB sam))],.dec false,.reg [.none,.none,(.pv (.tup [pre.pv,.nilI]))],.reg [],.auto,.reg [.none,.none,(.pv (vB sam1))]]) (cj h1 (cj (bnot_f h2) (cj (bnot_f h2) (cj h3 (cj (bnot_f h2) (cj (bnot_f h2) (cj (bnot_f h4) (cj h5 (cj (o_len AArc.cells dwe) (cj (deqN_f h6) (cj (cv_i64N h7) (cj (o_len AArc.cells dwe) (cj (bs_remN (x:=pick) h6) (cj (o_at AArc.cells (Eq.refl ((((pick%dwe.length):Nat):Int):Int)) h8) (cj h9 (cj h10 (cj (Eq.refl false) (cj (Eq.refl false) (cj (Eq.refl false) (cj (Eq.refl false) (cj (Eq.refl false) (cj (Eq.refl false) (cj (Eq.refl false) (cj h11 (cj (Eq.refl false) (cj (bnot_f h12) (cj h13 (cj h14 True.intro)))))))))))))))))))))))))))) (by kernel_rfl))
theorem e4(c:ACam)(pick:Nat)(awa val:Bool)(dwe:List AArc)(v:AArc)(rad:ARat)(cur:ARange)(sam:Bool)(pre:ARange)(pre1:Int)(isV:Bool)(sig:Int)(h1:Contract prg 40 [] (vB awa))(h2:awa=true)(h3:Contract prg 62 [c.pv] (vB val))(h4:val=true)(h5:Contract prg 66 [c.lift.pv] (.tup [(lpv AArc.cells dwe),.nilI]))(h6:dwe.length≠0)(h7:pick<9223372036854775808)(h8:dwe[(pick%dwe.length)]? = some v)(h9:Contract prg 43 [c.pv,v.fromV.pv] (.tup [rad.pv,.nilI]))(h10:Contract prg 45 [c.pv,v.fromV.pv] (.tup [cur.pv,.nilI]))(h11:Contract prg 50 [cur.pv,(⟨rad,rad⟩:ARange).pv] (vB sam))(h12:sam=true)(h13:Contract prg 44 [c.pv,v.fromV.pv] (.tup [pre.pv,(.iface 94 (vI pre1))]))(h14:Contract prg 60 [(.iface 94 (vI pre1)),(vI 8)] (vB isV))(h15:isV=true)(h16:Contract prg 39 [rad.pv] (vI sig)):Contract prg 13 [c.pv,(.int .u8 (pick:Int))] (vB (decide (sig≤0))) :=
 Contract.ofL Tryz.func13 (by kernel_rfl) (L.done mixed tabOk (n:=174) (ns:=[1,1,1,1,1,1,1,1,1,1,1,1,1,3,1,1,1,1,1,1,1,1,1,1,1,1,1,1,1,1,1,1,1]) (tr:=[.reg [],.reg [(.pv (vB awa)),.none,.none,.none,(.pv (vB val)),.none,(.dec false)],.dec false,.reg [.none,.none,(.pv (.tup [(lpv AArc.cells dwe),.nilI]))],.reg [],.auto,.reg [.none,(iI (dwe.length:Int))],.dec false,.reg [.none,.none,(iI (pick:Int)),.none,(iI (dwe.length:Int)),(iI (((pick%dwe.length):Nat):Int)),(.row (pick%dwe.length) (AArc.cells v))],.reg [.none,.none,(.pv (.tup [rad.pv,.nilI]))],.reg [.none,.none,(.pv (.tup [cur.pv,.nilI]))],.reg [.none,.none,.none,.none,.none,.none,.none,.none,.none,.none,.none,(.pv (vB sam))],.dec false,.reg [.none,.none,(.pv (.tup [pre.pv,(.iface 94 (vI pre1))]))],.reg [],.auto,.reg [.none,(.pv (vB isV)),.none,.none,(.pv (vI sig)),.none,(.dec true)]]) (cj h1 (cj (bnot_f h2) (cj (bnot_f h2) (cj h3 (cj (bnot_f h2) (cj (bnot_f h2) (cj (bnot_f h4) (cj h5 (cj (o_len AArc.cells dwe) (cj (deqN_f h6) (cj (cv_i64N h7) (cj (o_len AArc.cells dwe) (cj (bs_remN (x:=pick) h6) (cj (o_at AArc.cells (Eq.refl ((((pick%dwe.length):Nat):Int):Int)) h8) (cj h9 (cj h10 (cj (Eq.refl false) (cj (Eq.refl false) (cj (Eq.refl false) (cj (Eq.refl false) (cj (Eq.refl false) (cj (Eq.refl false) (cj (Eq.refl false) (cj h11 (cj (Eq.refl false) (cj (bnot_f h12) (cj h13 (cj h14 (cj h15 (cj h15 (cj h16 (cj h15 (cj h15 True.intro))))))))))))))))))))))))))))))))) (by kernel_rfl))
end linkworklaw53_CamDwells
namespace linkworklaw53_awake
theorem e0(exa:ACam)(pre:ARange)(exa1:ACam)(con:Bool)(par:ARat)(rat:Bool)(par1:ARat)(rat1:Bool)(h1:Contract prg 104 [] exa.pv)(h2:Contract prg 44 [exa.pv,(⟨false,[],[]⟩:ARat).pv] (.tup [pre.pv,.nilI]))(h3:Contract prg 104 [] exa1.pv)(h4:Contract prg 56 [exa1.pv] (.tup [(vB con),.nilI]))(h5:con=true)(h6:Contract prg 105 [(vI 113),(vI 710)] par.pv)(h7:Contract prg 49 [pre.lo.pv,par.pv] (vB rat))(h8:rat=true)(h9:Contract prg 105 [(vI 53),(vI 333)] par1.pv)(h10:Contract prg 49 [pre.hi.pv,par1.pv] (vB rat1)):Contract prg 40 [] (vB rat1) :=
 Contract.ofL Tryz.func40 (by kernel_rfl) (L.done mixed tabOk (n:=84) (ns:=[1,1,1,1,1,1,1,1,1,1,1,1,1,1,1,1,1,1,1,1,1]) (tr:=[.reg [],.reg [(.pv exa.pv),.none,(.pv (.tup [pre.pv,.nilI]))],.reg [(.pv exa1.pv),(.pv (.tup [(vB con),.nilI]))],dr 21 1 [.none,.none,.none,.none,.none,.none,.none,.none,.none,.none,.none,.none,(.pv par.pv),(.pv (vB rat)),(.dec true),.none,.none,.none,(.pv par1.pv),(.pv (vB rat1)),(.dec true)]]) (cj h1 (cj h2 (cj h3 (cj h4 (cj (Eq.refl true) (cj (Eq.refl true) (cj (Eq.refl true) (cj h5 (cj h5 (cj h5 (cj h6 (cj h5 (cj h7 (cj h5 (cj h8 (cj h8 (cj h8 (cj h9 (cj h8 (cj h10 (cj h8 True.intro))))))))))))))))))))) (by kernel_rfl))
end linkworklaw53_awake
namespace linkworklaw53_large
@[reducible] noncomputable def fn:Func:=Tryz.f41
noncomputable def atK1:List Itm:=focus [0,2,0,2,0,0,2,1,2,0,0,2,0,0] [.code (bodyOf fn)]
def inv1(i_4:Nat)(c:ACam):St:=⟨[(3,(.ptr 3 0)),(4,(eI (i_4:Int)))],[(3,(.lit [(.pv (polyPV c.lift.breaks)),(.pv (lpv (lcell ARat.cells) c.lift.pieces))]))]⟩
@[reducible] noncomputable def Loop1(i_4:Nat)(c:ACam)(r:PV):Prop:=L prg fn atK1 (inv1 i_4 c) r
noncomputable def atK2:List Itm:=focus [0,2,0,2,0,0,2,1,2,0,0,2,0,0,0,0,0,2,1,2,2,2,2,0,0,2,0,0] [.code (bodyOf fn)]
def inv2(i_5:Nat)(c:ACam):St:=⟨[(3,(.ptr 3 0)),(5,(eI (i_5:Int)))],[(3,(.lit [(.pv (polyPV c.lift.breaks)),(.pv (lpv (lcell ARat.cells) c.lift.pieces))]))]⟩
@[reducible] noncomputable def Loop2(i_5:Nat)(c:ACam)(r:PV):Prop:=L prg fn atK2 (inv2 i_5 c) r
noncomputable def atK3:List Itm:=focus [0,2,0,2,0,0,2,1,2,0,0,2,0,0,0,0,0,2,1,2,2,2,2,0,0,2,0,0,0,0,0,2,0,2,0,0,0,0,2,1,2,0,2,0,0] [.code (bodyOf fn)]
def inv3(i_5 k_6:Nat)(c:ACam):St:=⟨[(3,(.ptr 3 0)),(5,(eI (i_5:Int))),(6,(eI (k_6:Int)))],[(3,(.lit [(.pv (polyPV c.lift.breaks)),(.pv (lpv (lcell ARat.cells) c.lift.pieces))]))]⟩
@[reducible] noncomputable def Loop3(i_5 k_6:Nat)(c:ACam)(r:PV):Prop:=L prg fn atK3 (inv3 i_5 k_6 c) r
theorem e0(c:ACam)(lon:Bool)(h1:Contract prg 42 [c.base.pv] (vB lon))(h2:lon=true):Contract prg 41 [c.pv] (vB true) :=
 Contract.ofL Tryz.func41 (by kernel_rfl) (L.done mixed tabOk (n:=90) (ns:=[1,1,1,1,1,1,1,1,1,1,1,1,1,1,1,1]) (tr:=[.reg [],.reg [],.reg [.none,.none,(.pv (vB lon)),.none,.skip,.skip,.skip,.skip,(.dec true),.none,.skip,.skip,.skip,.skip,.none,.none,.skip,.skip,.skip,.skip,.skip,.skip,.skip,.skip,.skip,.skip],.auto,.reg []]) (cj h1 (cj h2 (cj h2 (cj h2 (cj h2 (cj h2 (cj (Eq.refl true) (cj (Eq.refl true) (cj (Eq.refl true) (cj (Eq.refl true) (cj (Eq.refl true) (cj (Eq.refl true) (cj (Eq.refl true) (cj (Eq.refl true) (cj (Eq.refl true) (cj (Eq.refl true) True.intro)))))))))))))))) (by kernel_rfl))
theorem e1(c:ACam)(lon:Bool)(h1:Contract prg 42 [c.base.pv] (vB lon))(h2:lon=false)(h3:40<c.lift.breaks.length):Contract prg 41 [c.pv] (vB true) :=
 Contract.ofL Tryz.func41 (by kernel_rfl) (L.done mixed tabOk (n:=90) (ns:=[1,1,1,1,1,1,1,1,1,1,1,1,1,1,1,1,1,1]) (tr:=[.reg [],.reg [],.reg [.none,.none,(.pv (vB lon)),.none,.none,.none,(iI (c.lift.breaks.length:Int)),.none,(.dec false),.none,.skip,.skip,.skip,.skip,(.dec true),.none,.skip,.skip,.skip,.skip,.skip,.skip,.skip,.skip,.skip,.skip],.auto,.reg []]) (cj h1 (cj h2 (cj h2 (cj h2 (cj (o_len ARat.cells c.lift.breaks) (cj h2 (cj h2 (cj (dltN_t h3) (cj (dltN_t h3) (cj (dltN_t h3) (cj (dltN_t h3) (cj (dltN_t h3) (cj (Eq.refl true) (cj (Eq.refl true) (cj (Eq.refl true) (cj (Eq.refl true) (cj (Eq.refl true) (cj (Eq.refl true) True.intro)))))))))))))))))) (by kernel_rfl))
theorem e2(c:ACam)(lon:Bool)(h1:Contract prg 42 [c.base.pv] (vB lon))(h2:lon=false)(h3:c.lift.breaks.length≤40)(h4:40<c.lift.pieces.length):Contract prg 41 [c.pv] (vB true) :=
 Contract.ofL Tryz.func41 (by kernel_rfl) (L.done mixed tabOk (n:=90) (ns:=[1,1,1,1,1,1,1,1,1,1,1,1,1,1,1,1,1,1,1,1]) (tr:=[.reg [],.reg [],.reg [.none,.none,(.pv (vB lon)),.none,.none,.none,(iI (c.lift.breaks.length:Int)),.none,(.dec false),.none,.none,.none,(iI (c.lift.pieces.length:Int)),.none,(.dec false),.none,.skip,.skip,.skip,.skip,.skip,.skip,.skip,.skip,.skip,.skip,(.dec true)],.auto,.reg []]) (cj h1 (cj h2 (cj h2 (cj h2 (cj (o_len ARat.cells c.lift.breaks) (cj h2 (cj h2 (cj (dltN_f h3) (cj (dltN_f h3) (cj (dltN_f h3) (cj (o_len (lcell ARat.cells) c.lift.pieces) (cj (dltN_f h3) (cj (dltN_f h3) (cj (dltN_t h4) (cj (dltN_t h4) (cj (dltN_t h4) (cj (dltN_t h4) (cj (dltN_t h4) (cj (dltN_t h4) (cj (dltN_t h4) True.intro)))))))))))))))))))) (by kernel_rfl))
theorem e3(c:ACam)(lon:Bool)(h1:Contract prg 42 [c.base.pv] (vB lon))(h2:lon=false)(h3:c.lift.breaks.length≤40)(h4:c.lift.pieces.length≤40)(h5:5<c.lift.pieces.length)(h6:c.lift.pieces.length≤16):Contract prg 41 [c.pv] (vB true) :=
 Contract.ofL Tryz.func41 (by kernel_rfl) (L.done mixed tabOk (n:=90) (ns:=[1,1,1,1,1,1,1,1,1,1,1,1,1,1,1,1,1,1,1,1,1,1,1,1,1,1,1,1]) (tr:=[.reg [],.reg [],.reg [.none,.none,(.pv (vB lon)),.none,.none,.none,(iI (c.lift.breaks.length:Int)),.none,(.dec false),.none,.none,.none,(iI (c.lift.pieces.length:Int)),.none,(.dec false),.none,.none,.none,(iI (c.lift.pieces.length:Int)),.none,.none,.none,.none,(iI (c.lift.pieces.length:Int)),.none,(.dec true),(.dec false)],.dec true,.reg []]) (cj h1 (cj h2 (cj h2 (cj h2 (cj (o_len ARat.cells c.lift.breaks) (cj h2 (cj h2 (cj (dltN_f h3) (cj (dltN_f h3) (cj (dltN_f h3) (cj (o_len (lcell ARat.cells) c.lift.pieces) (cj (dltN_f h3) (cj (dltN_f h3) (cj (dltN_f h4) (cj (dltN_f h4) (cj (dltN_f h4) (cj (o_len (lcell ARat.cells) c.lift.pieces) (cj (dltN_f h4) (cj (dltN_f h4) (cj (dltN_t h5) (cj (dltN_t h5) (cj (dltN_t h5) (cj (o_len (lcell ARat.cells) c.lift.pieces) (cj (dltN_t h5) (cj (dltN_f h4) (cj (dltN_t h5) (cj (dltN_f h4) (cj (dleN_t h6) True.intro)))))))))))))))))))))))))))) (by kernel_rfl))
theorem e4(c:ACam)(lon:Bool){r:PV}(h1:Contract prg 42 [c.base.pv] (vB lon))(h2:lon=false)(h3:c.lift.breaks.length≤40)(h4:c.lift.pieces.length≤40)(h5:5<c.lift.pieces.length)(h6:16<c.lift.pieces.length)(hL:Loop1 0 c r):Contract prg 41 [c.pv] r :=
 Contract.ofL Tryz.func41 (by kernel_rfl) (L.go mixed tabOk (n:=102) (ns:=[1,1,1,1,1,1,1,1,1,1,1,1,1,1,1,1,1,1,1,1,1,1,1,1,1,1,1,1]) (tr:=[.reg [],.reg [],.reg [.none,.none,(.pv (vB lon)),.none,.none,.none,(iI (c.lift.breaks.length:Int)),.none,(.dec false),.none,.none,.none,(iI (c.lift.pieces.length:Int)),.none,(.dec false),.none,.none,.none,(iI (c.lift.pieces.length:Int)),.none,.none,.none,.none,(iI (c.lift.pieces.length:Int)),.none,(.dec true),(.dec false)],.dec false,.reg [],.keep [3,4],.drop [1]]) (cj h1 (cj h2 (cj h2 (cj h2 (cj (o_len ARat.cells c.lift.breaks) (cj h2 (cj h2 (cj (dltN_f h3) (cj (dltN_f h3) (cj (dltN_f h3) (cj (o_len (lcell ARat.cells) c.lift.pieces) (cj (dltN_f h3) (cj (dltN_f h3) (cj (dltN_f h4) (cj (dltN_f h4) (cj (dltN_f h4) (cj (o_len (lcell ARat.cells) c.lift.pieces) (cj (dltN_f h4) (cj (dltN_f h4) (cj (dltN_t h5) (cj (dltN_t h5) (cj (dltN_t h5) (cj (o_len (lcell ARat.cells) c.lift.pieces) (cj (dltN_t h5) (cj (dltN_f h4) (cj (dltN_t h5) (cj (dltN_f h4) (cj (dleN_f h6) True.intro)))))))))))))))))))))))))))) (by kernel_rfl) hL)
theorem e5(c:ACam)(lon:Bool){r:PV}(h1:Contract prg 42 [c.base.pv] (vB lon))(h2:lon=false)(h3:c.lift.breaks.length≤40)(h4:c.lift.pieces.length≤40)(h5:c.lift.pieces.length≤5)(hL:Loop1 0 c r):Contract prg 41 [c.pv] r :=
 Contract.ofL Tryz.func41 (by kernel_rfl) (L.go mixed tabOk (n:=102) (ns:=[1,1,1,1,1,1,1,1,1,1,1,1,1,1,1,1,1,1,1,1,1,1,1,1,1,1]) (tr:=[.reg [],.reg [],.reg [.none,.none,(.pv (vB lon)),.none,.none,.none,(iI (c.lift.breaks.length:Int)),.none,(.dec false),.none,.none,.none,(iI (c.lift.pieces.length:Int)),.none,(.dec false),.none,.none,.none,(iI (c.lift.pieces.length:Int)),.none,.none,.skip,.skip,.skip,.skip,(.dec false),(.dec false)],.auto,.reg [],.keep [3,4],.drop [1]]) (cj h1 (cj h2 (cj h2 (cj h2 (cj (o_len ARat.cells c.lift.breaks) (cj h2 (cj h2 (cj (dltN_f h3) (cj (dltN_f h3) (cj (dltN_f h3) (cj (o_len (lcell ARat.cells) c.lift.pieces) (cj (dltN_f h3) (cj (dltN_f h3) (cj (dltN_f h4) (cj (dltN_f h4) (cj (dltN_f h4) (cj (o_len (lcell ARat.cells) c.lift.pieces) (cj (dltN_f h4) (cj (dltN_f h4) (cj (dltN_f h5) (cj (dltN_f h5) (cj (dltN_f h5) (cj (dltN_f h5) (cj (dltN_f h4) (cj (dltN_f h5) (cj (dltN_f h4) True.intro)))))))))))))))))))))))))) (by kernel_rfl) hL)
theorem l10(i_4:Nat)(c:ACam)(v:ARat)(lon:Bool)(h1:i_4<c.lift.breaks.length)(h2:c.lift.breaks[i_4]? = some v)(h3:Contract prg 42 [v.pv] (vB lon))(h4:lon=true):Loop1 i_4 c (vB true) :=
 L.done mixed tabOk (n:=141) (ns:=[1,1,3,1,1]) (tr:=[.auto,.reg [.none,.none,.none,(iI (c.lift.breaks.length:Int))],.dec true,.reg [.none,.none,.none,(.row i_4 (ARat.cells v)),.none,(.pv (vB lon))],.dec true,.reg []]) (cj (o_len ARat.cells c.lift.breaks) (cj (dltN_t h1) (cj (o_at ARat.cells (Eq.refl (((i_4:Nat):Int):Int)) h2) (cj h3 (cj h4 True.intro))))) (by kernel_rfl)
theorem l11(i_4:Nat)(c:ACam)(v:ARat)(lon:Bool){r:PV}(h1:i_4<c.lift.breaks.length)(h2:c.lift.breaks[i_4]? = some v)(h3:Contract prg 42 [v.pv] (vB lon))(h4:lon=false)(h5:(i_4+1)<9223372036854775808)(hL:Loop1 (i_4+1) c r):Loop1 i_4 c r :=
 L.go mixed tabOk (n:=144) (ns:=[1,1,3,1,1,1]) (tr:=[.auto,.reg [.none,.none,.none,(iI (c.lift.breaks.length:Int))],.dec true,.reg [.none,.none,.none,(.row i_4 (ARat.cells v)),.none,(.pv (vB lon))],.dec false,.reg [.none,(iI (((i_4+1):Nat):Int))],.keep [3,4]]) (cj (o_len ARat.cells c.lift.breaks) (cj (dltN_t h1) (cj (o_at ARat.cells (Eq.refl (((i_4:Nat):Int):Int)) h2) (cj h3 (cj h4 (cj (bs_addN h5) True.intro)))))) (by kernel_rfl) hL
theorem l12(i_4:Nat)(c:ACam){r:PV}(h1:c.lift.breaks.length≤i_4)(hL:Loop2 0 c r):Loop1 i_4 c r :=
 L.go mixed tabOk (n:=144) (ns:=[1,1]) (tr:=[.auto,.reg [.none,.none,.none,(iI (c.lift.breaks.length:Int))],.dec false,.reg [],.keep [3,5]]) (cj (o_len ARat.cells c.lift.breaks) (cj (dltN_f h1) True.intro)) (by kernel_rfl) hL
theorem l20(i_5:Nat)(c:ACam)(v:List ARat)(h1:i_5<c.lift.pieces.length)(h2:c.lift.pieces[i_5]? = some v)(h3:6<v.length)(h4:v.length≤9):Loop2 i_5 c (vB true) :=
 L.done mixed tabOk (n:=186) (ns:=[1,1,3,1,1,1,1,1,3,1,1,1,1,1,1,1,1,1,1,1,1,1]) (tr:=[.auto,.reg [.none,.none,.none,(iI (c.lift.pieces.length:Int))],.dec true,.reg [.none,.none,.none,(.row i_5 ((lcell ARat.cells) v)),.none,(iI (v.length:Int)),.none,.none,.none,.none,.none,(.row i_5 ((lcell ARat.cells) v)),.none,(iI (v.length:Int)),.none,(.dec true),.none,.skip,.skip,.skip,.skip,.skip,.skip,.skip,(.dec true)],.auto,.reg []]) (cj (o_len (lcell ARat.cells) c.lift.pieces) (cj (dltN_t h1) (cj (o_at (lcell ARat.cells) (Eq.refl (((i_5:Nat):Int):Int)) h2) (cj (o_len ARat.cells v) (cj (dltN_t h3) (cj (dltN_t h3) (cj (dltN_t h3) (cj (dltN_t h3) (cj (o_at (lcell ARat.cells) (Eq.refl (((i_5:Nat):Int):Int)) h2) (cj (dltN_t h3) (cj (dltN_t h3) (cj (o_len ARat.cells v) (cj (dltN_t h3) (cj (dltN_t h3) (cj (dleN_t h4) (cj (dleN_t h4) (cj (dleN_t h4) (cj (dleN_t h4) (cj (dleN_t h4) (cj (dleN_t h4) (cj (dleN_t h4) (cj (dleN_t h4) True.intro)))))))))))))))))))))) (by kernel_rfl)
theorem l21(i_5:Nat)(c:ACam)(v:List ARat)(h1:i_5<c.lift.pieces.length)(h2:c.lift.pieces[i_5]? = some v)(h3:6<v.length)(h4:9<v.length)(h5:80<v.length):Loop2 i_5 c (vB true) :=
 L.done mixed tabOk (n:=186) (ns:=[1,1,3,1,1,1,1,1,3,1,1,1,1,1,1,1,1,1,3,1,1,1,1,1,1]) (tr:=[.auto,.reg [.none,.none,.none,(iI (c.lift.pieces.length:Int))],.dec true,.reg [.none,.none,.none,(.row i_5 ((lcell ARat.cells) v)),.none,(iI (v.length:Int)),.none,.none,.none,.none,.none,(.row i_5 ((lcell ARat.cells) v)),.none,(iI (v.length:Int)),.none,(.dec true),.none,.none,.none,.none,(.row i_5 ((lcell ARat.cells) v)),.none,(iI (v.length:Int)),.none,(.dec false)],.dec true,.reg []]) (cj (o_len (lcell ARat.cells) c.lift.pieces) (cj (dltN_t h1) (cj (o_at (lcell ARat.cells) (Eq.refl (((i_5:Nat):Int):Int)) h2) (cj (o_len ARat.cells v) (cj (dltN_t h3) (cj (dltN_t h3) (cj (dltN_t h3) (cj (dltN_t h3) (cj (o_at (lcell ARat.cells) (Eq.refl (((i_5:Nat):Int):Int)) h2) (cj (dltN_t h3) (cj (dltN_t h3) (cj (o_len ARat.cells v) (cj (dltN_t h3) (cj (dltN_t h3) (cj (dleN_f h4) (cj (dleN_f h4) (cj (dleN_f h4) (cj (dleN_f h4) (cj (o_at (lcell ARat.cells) (Eq.refl (((i_5:Nat):Int):Int)) h2) (cj (dleN_f h4) (cj (dleN_f h4) (cj (o_len ARat.cells v) (cj (dleN_f h4) (cj (dleN_f h4) (cj (dltN_t h5) True.intro))))))))))))))))))))))))) (by kernel_rfl)
theorem l22(i_5:Nat)(c:ACam)(v:List ARat){r:PV}(h1:i_5<c.lift.pieces.length)(h2:c.lift.pieces[i_5]? = some v)(h3:6<v.length)(h4:9<v.length)(h5:v.length≤80)(hL:Loop3 i_5 0 c r):Loop2 i_5 c r :=
 L.go mixed tabOk (n:=195) (ns:=[1,1,3,1,1,1,1,1,3,1,1,1,1,1,1,1,1,1,3,1,1,1,1,1,1]) (tr:=[.auto,.reg [.none,.none,.none,(iI (c.lift.pieces.length:Int))],.dec true,.reg [.none,.none,.none,(.row i_5 ((lcell ARat.cells) v)),.none,(iI (v.length:Int)),.none,.none,.none,.none,.none,(.row i_5 ((lcell ARat.cells) v)),.none,(iI (v.length:Int)),.none,(.dec true),.none,.none,.none,.none,(.row i_5 ((lcell ARat.cells) v)),.none,(iI (v.length:Int)),.none,(.dec false)],.dec false,.reg [],.keep [3,5,6]]) (cj (o_len (lcell ARat.cells) c.lift.pieces) (cj (dltN_t h1) (cj (o_at (lcell ARat.cells) (Eq.refl (((i_5:Nat):Int):Int)) h2) (cj (o_len ARat.cells v) (cj (dltN_t h3) (cj (dltN_t h3) (cj (dltN_t h3) (cj (dltN_t h3) (cj (o_at (lcell ARat.cells) (Eq.refl (((i_5:Nat):Int):Int)) h2) (cj (dltN_t h3) (cj (dltN_t h3) (cj (o_len ARat.cells v) (cj (dltN_t h3) (cj (dltN_t h3) (cj (dleN_f h4) (cj (dleN_f h4) (cj (dleN_f h4) (cj (dleN_f h4) (cj (o_at (lcell ARat.cells) (Eq.refl (((i_5:Nat):Int):Int)) h2) (cj (dleN_f h4) (cj (dleN_f h4) (cj (o_len ARat.cells v) (cj (dleN_f h4) (cj (dleN_f h4) (cj (dltN_f h5) True.intro))))))))))))))))))))))))) (by kernel_rfl) hL
theorem l24(i_5:Nat)(c:ACam)(v:List ARat){r:PV}(h1:i_5<c.lift.pieces.length)(h2:c.lift.pieces[i_5]? = some v)(h3:v.length≤6)(h4:v.length≤80)(hL:Loop3 i_5 0 c r):Loop2 i_5 c r :=
 L.go mixed tabOk (n:=195) (ns:=[1,1,3,1,1,1,1,1,1,1,1,1,1,1,1,1,3,1,1,1,1,1]) (tr:=[.auto,.reg [.none,.none,.none,(iI (c.lift.pieces.length:Int))],.dec true,.reg [.none,.none,.none,(.row i_5 ((lcell ARat.cells) v)),.none,(iI (v.length:Int)),.none,.none,.skip,.skip,.skip,.skip,.skip,.skip,.skip,(.dec false),.none,.none,.none,.none,(.row i_5 ((lcell ARat.cells) v)),.none,(iI (v.length:Int))],.dec false,.reg [],.keep [3,5,6]]) (cj (o_len (lcell ARat.cells) c.lift.pieces) (cj (dltN_t h1) (cj (o_at (lcell ARat.cells) (Eq.refl (((i_5:Nat):Int):Int)) h2) (cj (o_len ARat.cells v) (cj (dltN_f h3) (cj (dltN_f h3) (cj (dltN_f h3) (cj (dltN_f h3) (cj (dltN_f h3) (cj (dltN_f h3) (cj (dltN_f h3) (cj (dltN_f h3) (cj (Eq.refl false) (cj (Eq.refl false) (cj (Eq.refl false) (cj (Eq.refl false) (cj (o_at (lcell ARat.cells) (Eq.refl (((i_5:Nat):Int):Int)) h2) (cj (Eq.refl false) (cj (Eq.refl false) (cj (o_len ARat.cells v) (cj (Eq.refl false) (cj (dltN_f h4) True.intro)))))))))))))))))))))) (by kernel_rfl) hL
theorem l25(i_5:Nat)(c:ACam)(h1:c.lift.pieces.length≤i_5):Loop2 i_5 c (vB false) :=
 L.done mixed tabOk (n:=177) (ns:=[1,1]) (tr:=[.auto,.reg [.none,.none,.none,(iI (c.lift.pieces.length:Int))],.dec false,.reg []]) (cj (o_len (lcell ARat.cells) c.lift.pieces) (cj (dltN_f h1) True.intro)) (by kernel_rfl)
theorem l30(i_5 k_6:Nat)(c:ACam)(v:List ARat)(v1:ARat)(lon:Bool)(h1:c.lift.pieces[i_5]? = some v)(h2:k_6<v.length)(h3:v[k_6]? = some v1)(h4:Contract prg 42 [v1.pv] (vB lon))(h5:lon=true):Loop3 i_5 k_6 c (vB true) :=
 L.done mixed tabOk (n:=234) (ns:=[3,1,1,3,3,1,1]) (tr:=[.auto,.reg [.none,.none,.none,.none,(.row i_5 ((lcell ARat.cells) v)),.none,(iI (v.length:Int))],.dec true,.reg [.none,.none,.none,(.row i_5 ((lcell ARat.cells) v)),.none,.none,(.row k_6 (ARat.cells v1)),.none,(.pv (vB lon))],.dec true,.reg []]) (cj (o_at (lcell ARat.cells) (Eq.refl (((i_5:Nat):Int):Int)) h1) (cj (o_len ARat.cells v) (cj (dltN_t h2) (cj (o_at (lcell ARat.cells) (Eq.refl (((i_5:Nat):Int):Int)) h1) (cj (o_at ARat.cells (Eq.refl (((k_6:Nat):Int):Int)) h3) (cj h4 (cj h5 True.intro))))))) (by kernel_rfl)
theorem l31(i_5 k_6:Nat)(c:ACam)(v:List ARat)(v1:ARat)(lon:Bool){r:PV}(h1:c.lift.pieces[i_5]? = some v)(h2:k_6<v.length)(h3:v[k_6]? = some v1)(h4:Contract prg 42 [v1.pv] (vB lon))(h5:lon=false)(h6:(k_6+1)<9223372036854775808)(hL:Loop3 i_5 (k_6+1) c r):Loop3 i_5 k_6 c r :=
 L.go mixed tabOk (n:=237) (ns:=[3,1,1,3,3,1,1,1]) (tr:=[.auto,.reg [.none,.none,.none,.none,(.row i_5 ((lcell ARat.cells) v)),.none,(iI (v.length:Int))],.dec true,.reg [.none,.none,.none,(.row i_5 ((lcell ARat.cells) v)),.none,.none,(.row k_6 (ARat.cells v1)),.none,(.pv (vB lon))],.dec false,.reg [.none,(iI (((k_6+1):Nat):Int))],.keep [3,5,6]]) (cj (o_at (lcell ARat.cells) (Eq.refl (((i_5:Nat):Int):Int)) h1) (cj (o_len ARat.cells v) (cj (dltN_t h2) (cj (o_at (lcell ARat.cells) (Eq.refl (((i_5:Nat):Int):Int)) h1) (cj (o_at ARat.cells (Eq.refl (((k_6:Nat):Int):Int)) h3) (cj h4 (cj h5 (cj (bs_addN h6) True.intro)))))))) (by kernel_rfl) hL
theorem l32(i_5 k_6:Nat)(c:ACam)(v:List ARat){r:PV}(h1:c.lift.pieces[i_5]? = some v)(h2:v.length≤k_6)(h3:(i_5+1)<9223372036854775808)(hL:Loop2 (i_5+1) c r):Loop3 i_5 k_6 c r :=
 L.go mixed tabOk (n:=228) (ns:=[3,1,1,1]) (tr:=[.auto,.reg [.none,.none,.none,.none,(.row i_5 ((lcell ARat.cells) v)),.none,(iI (v.length:Int))],.dec false,.reg [.none,(iI (((i_5+1):Nat):Int))],.keep [3,5]]) (cj (o_at (lcell ARat.cells) (Eq.refl (((i_5:Nat):Int):Int)) h1) (cj (o_len ARat.cells v) (cj (dltN_f h2) (cj (bs_addN h3) True.intro)))) (by kernel_rfl) hL
end linkworklaw53_large
namespace linkworklaw53_long
theorem e0(x:ARat)(h1:(x.num.length+x.den.length)<9223372036854775808):Contract prg 42 [x.pv] (vB (decide ((((x.num.length+x.den.length):Nat):Int)>2))) :=
 Contract.ofL Tryz.func42 (by kernel_rfl) (L.done mixed tabOk (n:=72) (ns:=[1,1,1]) (tr:=[.reg [],.reg [.none,.none,(iI (x.num.length:Int)),.none,.none,(iI (x.den.length:Int)),(iI (((x.num.length+x.den.length):Nat):Int))]]) (cj (o_len wordPV x.num) (cj (o_len wordPV x.den) (cj (bs_addN h1) True.intro))) (by kernel_rfl))
end linkworklaw53_long
namespace linkworklaw53_same
theorem e0(a b:ARange)(rat rat1:Bool)(h1:Contract prg 49 [a.lo.pv,b.lo.pv] (vB rat))(h2:rat=true)(h3:Contract prg 49 [a.hi.pv,b.hi.pv] (vB rat1)):Contract prg 50 [a.pv,b.pv] (vB rat1) :=
 Contract.ofL Tryz.func50 (by kernel_rfl) (L.done mixed tabOk (n:=72) (ns:=[1,1,1,1,1,1,1,1]) (tr:=[.reg [],.reg [.none,.none,.none,.none,(.pv (vB rat)),.none,.none,.none,.none,.none,(.pv (vB rat1)),(.dec true)]]) (cj h1 (cj h2 (cj h2 (cj h2 (cj h2 (cj h2 (cj h3 (cj h2 True.intro)))))))) (by kernel_rfl))
end linkworklaw53_same
namespace linkworklaw53_valid
theorem e0(c:ACam)(lar:Bool)(che:Int)(h1:Contract prg 41 [c.pv] (vB lar))(h2:lar=false)(h3:Contract prg 46 [c.pv] (vI che)):Contract prg 62 [c.pv] (vB (che==0)) :=
 Contract.ofL Tryz.func62 (by kernel_rfl) (L.done mixed tabOk (n:=72) (ns:=[1,1,1,1,1,1]) (tr:=[.reg [],.reg [.none,(.pv (vB lar)),.none,.none,.none,(.pv (vI che)),.none,(.dec true)]]) (cj h1 (cj (bnot_t h2) (cj (bnot_t h2) (cj h3 (cj (bnot_t h2) (cj (bnot_t h2) True.intro)))))) (by kernel_rfl))
theorem e1(c:ACam)(lar:Bool)(h1:Contract prg 41 [c.pv] (vB lar))(h2:lar=true):Contract prg 62 [c.pv] (vB false) :=
 Contract.ofL Tryz.func62 (by kernel_rfl) (L.done mixed tabOk (n:=72) (ns:=[1,1,1,1,1]) (tr:=[.reg [],.reg [.none,(.pv (vB lar)),.none,.none,.skip,.skip,.skip,(.dec false)]]) (cj h1 (cj (bnot_f h2) (cj (bnot_f h2) (cj (bnot_f h2) (cj (bnot_f h2) True.intro))))) (by kernel_rfl))
end linkworklaw53_valid
namespace linkworklaw53_example
theorem e0(par par1:ARat)(h1:Contract prg 105 [(vI 1),(vI 1)] par.pv)(h2:Contract prg 105 [(vI 1),(vI 1)] par1.pv):Contract prg 104 [] ((⟨par,(⟨[(⟨false,[],[]⟩:ARat)],[[(⟨false,[],[]⟩:ARat),par1]]⟩:ALaw)⟩:ACam).pv) :=
 Contract.ofL Tryz.func104 (by kernel_rfl) (L.done mixed tabOk (n:=72) (ns:=[1,3,1,3,3]) (tr:=[.reg [],.reg [(.pv par.pv),.none,(.slc 0 0 (([(⟨false,[],[]⟩:ARat)]:List ARat).map ARat.cells)),.none,(.pv par1.pv),(.slc 0 0 (([(⟨false,[],[]⟩:ARat),par1]:List ARat).map ARat.cells)),(.slc 0 0 (([[(⟨false,[],[]⟩:ARat),par1]]:List (List ARat)).map (lcell ARat.cells)))]]) (cj h1 (cj (o_bs sz_ARat ([(⟨false,[],[]⟩:ARat)]:List ARat)) (cj h2 (cj (o_bs sz_ARat ([(⟨false,[],[]⟩:ARat),par1]:List ARat)) (cj (o_bs (sz_l ARat.cells) ([[(⟨false,[],[]⟩:ARat),par1]]:List (List ARat))) True.intro))))) (by kernel_rfl))
end linkworklaw53_example
namespace linkworklaw53_part
theorem e0(n d:Int)(mak:ARat)(mak1:Int)(h1:Contract prg 86 [(vI n),(vI d)] (.tup [mak.pv,(vI mak1)])):Contract prg 105 [(vI n),(vI d)] mak.pv :=
 Contract.ofL Tryz.func105 (by kernel_rfl) (L.done mixed tabOk (n:=78) (ns:=[1]) (tr:=[.reg [],.reg [.none,.none,(.pv (.tup [mak.pv,(vI mak1)]))],.reg []]) (cj h1 True.intro) (by kernel_rfl))
end linkworklaw53_part
end Go.Proofs.YtbgkjomonebfcaaGreat.Sym.Path
namespace Go.Proofs.YtbgkjomonebfcaaGreat.Sym
open Go Path CInt
set_option linter.unusedVariables false
theorem short_valid{a:ARat}(hv:a.valid=true)(h:a.num.length+a.den.length≤2):a.num.length≤1∧a.den.length≤1:=by
 by_cases h0:a.num=[]
 ·rw[valid_zero hv h0];simp
 ·obtain⟨h1,_⟩:=valid_parts hv h0
  have:=List.length_pos_iff.2 h0
  have:=List.length_pos_iff.2 h1
  omega
namespace C53
theorem part(n d:Int)(hn:InI64 n)(hd:InI64 d)(h0:d≠0):Contract prg 105 [vI n,vI d] (mkR (Rat.divInt n d)).pv :=
 linkworklaw53_part.e0 n d _ _ (CRb.Make n d hn hd h0)
def exC:ACam:=⟨mkR (Rat.divInt 1 1),⟨[⟨false,[],[]⟩],[[⟨false,[],[]⟩,mkR (Rat.divInt 1 1)]]⟩⟩
theorem example':Contract prg 104 [] exC.pv :=
 linkworklaw53_example.e0 _ _ (part 1 1 (by unfold InI64;decide) (by unfold InI64;decide) (by decide)) (part 1 1 (by unfold InI64;decide) (by unfold InI64;decide) (by decide))
theorem exC_good:GCam exC:=⟨by decide +kernel,by decide +kernel,by decide +kernel,by decide +kernel,⟨by decide +kernel,by decide +kernel⟩,by decide +kernel⟩
theorem exC_conv:convC exC=true:=by decide +kernel
theorem ratR'(q:Rat)(hq:ht q≤68719476736):Contract prg 49 [(mkR q).pv,(mkR q).pv] (vB true):=by
 have h:=fit_mkRk hq
 have:=CBa.Rat (mkR q) (mkR q) (by omega) (by omega)
 rwa[eqR_self] at this
theorem awake:Contract prg 40 [] (vB true):=by
 have p1:=part 113 710 (by unfold InI64;decide) (by unfold InI64;decide) (by decide)
 have p2:=part 53 333 (by unfold InI64;decide) (by unfold InI64;decide) (by decide)
 have hpr:=CCa.Pressure exC_good 0 (by decide) (by decide +kernel)
 have hcv:=CCa.Convex exC_good
 rw[exC_conv] at hcv
 have e1:minR (tanP exC 0 piHi) (tanP exC 0 piLo)=Rat.divInt 113 710:=by decide +kernel
 have e2:maxR (tanP exC 0 piHi) (tanP exC 0 piLo)=Rat.divInt 53 333:=by decide +kernel
 rw[e1,e2] at hpr
 exact linkworklaw53_awake.e0 _ _ _ _ _ _ _ _ example' hpr example' hcv rfl p1 (ratR' _ (by decide +kernel)) rfl p2 (ratR' _ (by decide +kernel))
theorem long(x:ARat)(h:x.num.length+x.den.length<9223372036854775808):Contract prg 42 [x.pv] (vB (decide (2<x.num.length+x.den.length))):=by
 have:=linkworklaw53_long.e0 x h
 rwa[show decide ((((x.num.length+x.den.length):Nat):Int)>2)=decide (2<x.num.length+x.den.length) from by congr 1;apply propext;omega] at this
abbrev S2(l:List ARat):Prop:=∀a∈l,a.num.length+a.den.length≤2
structure SmallC (c:ACam):Prop where
 base:c.base.num.length+c.base.den.length≤2
 nb:c.lift.breaks.length≤40
 np:c.lift.pieces.length≤40
 nq:c.lift.pieces.length≤5∨16<c.lift.pieces.length
 sb:S2 c.lift.breaks
 sp:∀p∈c.lift.pieces,S2 p∧p.length≤80∧(p.length≤6∨9<p.length)
def Held(c:ACam):Prop:=c.base.num.length+c.base.den.length<9223372036854775808∧(∀a∈c.lift.breaks,a.num.length+a.den.length<9223372036854775808)∧∀p∈c.lift.pieces,∀a∈p,a.num.length+a.den.length<9223372036854775808
theorem large(c:ACam)(hh:Held c):Contract prg 41 [c.pv] (vB true)∨(SmallC c∧Contract prg 41 [c.pv] (vB false)):=by
 have hlb:=long c.base hh.1
 by_cases h0:2<c.base.num.length+c.base.den.length
 ·exact Or.inl (linkworklaw53_large.e0 c _ hlb (decide_eq_true h0))
 have h0':=decide_eq_false h0
 by_cases h1:40<c.lift.breaks.length
 ·exact Or.inl (linkworklaw53_large.e1 c _ hlb h0' h1)
 by_cases h2:40<c.lift.pieces.length
 ·exact Or.inl (linkworklaw53_large.e2 c _ hlb h0' (by omega) h2)
 by_cases h3:5<c.lift.pieces.length∧c.lift.pieces.length≤16
 ·exact Or.inl (linkworklaw53_large.e3 c _ hlb h0' (by omega) (by omega) h3.1 h3.2)
 have loop3:∀(i:Nat) (v:List ARat),c.lift.pieces[i]? = some v→(linkworklaw53_large.Loop2 (i+1) c (vB true)∨((∀p∈c.lift.pieces.drop (i+1),S2 p∧p.length≤80∧(p.length≤6∨9<p.length))∧linkworklaw53_large.Loop2 (i+1) c (vB false))) →
   v.length≤80→∀(j k:Nat),v.length-k=j→(linkworklaw53_large.Loop3 i k c (vB true)∨(S2 (v.drop k)∧(∀p∈c.lift.pieces.drop (i+1),S2 p∧p.length≤80∧(p.length≤6∨9<p.length))∧linkworklaw53_large.Loop3 i k c (vB false))):=by
  intro i v hv hnext hlv j
  have hi:=(List.getElem?_eq_some_iff.1 hv).1
  induction j with
  |zero =>
   intro k hj
   rcases hnext with h|⟨h,h'⟩
   ·exact Or.inl (linkworklaw53_large.l32 i k c v hv (by omega) (by omega) h)
   ·refine Or.inr ⟨?_,h,linkworklaw53_large.l32 i k c v hv (by omega) (by omega) h'⟩
    rw[List.drop_of_length_le (by omega)];exact fun a ha=>by cases ha
  |succ j ih =>
   intro k hj
   obtain⟨u,hu⟩:∃u,v[k]? = some u:=⟨_,List.getElem?_eq_getElem (by omega)⟩
   have hl:=long u (hh.2.2 v (List.mem_of_getElem? hv) u (List.mem_of_getElem? hu))
   by_cases h4:2<u.num.length+u.den.length
   ·exact Or.inl (linkworklaw53_large.l30 i k c v u _ hv (by omega) hu hl (decide_eq_true h4))
   ·rcases ih (k+1) (by omega) with h|⟨h,h',h''⟩
    ·exact Or.inl (linkworklaw53_large.l31 i k c v u _ hv (by omega) hu hl (decide_eq_false h4) (by omega) h)
    ·refine Or.inr ⟨?_,h',linkworklaw53_large.l31 i k c v u _ hv (by omega) hu hl (decide_eq_false h4) (by omega) h''⟩
     rw[drop_cons hu]
     intro a ha
     rcases List.mem_cons.1 ha with e|ha
     ·rw[e];omega
     ·exact h a ha
 have loop2:∀(j i:Nat),c.lift.pieces.length-i=j→(linkworklaw53_large.Loop2 i c (vB true)∨((∀p∈c.lift.pieces.drop i,S2 p∧p.length≤80∧(p.length≤6∨9<p.length))∧linkworklaw53_large.Loop2 i c (vB false))):=by
  intro j
  induction j with
  |zero =>
   intro i hj
   refine Or.inr ⟨?_,linkworklaw53_large.l25 i c (by omega)⟩
   rw[List.drop_of_length_le (by omega)];exact fun a ha=>by cases ha
  |succ j ih =>
   intro i hj
   obtain⟨v,hv⟩:∃v,c.lift.pieces[i]? = some v:=⟨_,List.getElem?_eq_getElem (by omega)⟩
   by_cases h9:6<v.length∧v.length≤9
   ·exact Or.inl (linkworklaw53_large.l20 i c v (by omega) hv h9.1 h9.2)
   ·have go:∀b,linkworklaw53_large.Loop3 i 0 c (vB b)→v.length≤80→linkworklaw53_large.Loop2 i c (vB b):=by
     intro b hb h80
     by_cases h6:6<v.length
     ·exact linkworklaw53_large.l22 i c v (by omega) hv h6 (by omega) h80 hb
     ·exact linkworklaw53_large.l24 i c v (by omega) hv (by omega) h80 hb
    by_cases h80:80<v.length
    ·exact Or.inl (linkworklaw53_large.l21 i c v (by omega) hv (by omega) (by omega) h80)
    ·rcases loop3 i v hv (ih (i+1) (by omega)) (by omega) _ 0 rfl with h|⟨h,h',h''⟩
     ·exact Or.inl (go _ h (by omega))
     ·refine Or.inr ⟨?_,go _ h'' (by omega)⟩
      rw[drop_cons hv]
      intro p hp
      rcases List.mem_cons.1 hp with e|hp
      ·rw[e];exact⟨by rwa[List.drop_zero] at h,by omega,by omega⟩
      ·exact h' p hp
 have loop1:∀(j i:Nat),c.lift.breaks.length-i=j→(linkworklaw53_large.Loop1 i c (vB true)∨(S2 (c.lift.breaks.drop i)∧(∀p∈c.lift.pieces,S2 p∧p.length≤80∧(p.length≤6∨9<p.length))∧linkworklaw53_large.Loop1 i c (vB false))):=by
  intro j
  induction j with
  |zero =>
   intro i hj
   rcases loop2 _ 0 rfl with h|⟨h,h'⟩
   ·exact Or.inl (linkworklaw53_large.l12 i c (by omega) h)
   ·rw[List.drop_zero] at h
    refine Or.inr ⟨?_,h,linkworklaw53_large.l12 i c (by omega) h'⟩
    rw[List.drop_of_length_le (by omega)];exact fun a ha=>by cases ha
  |succ j ih =>
   intro i hj
   obtain⟨u,hu⟩:∃u,c.lift.breaks[i]? = some u:=⟨_,List.getElem?_eq_getElem (by omega)⟩
   have hl:=long u (hh.2.1 u (List.mem_of_getElem? hu))
   by_cases h4:2<u.num.length+u.den.length
   ·exact Or.inl (linkworklaw53_large.l10 i c u _ (by omega) hu hl (decide_eq_true h4))
   ·rcases ih (i+1) (by omega) with h|⟨h,h',h''⟩
    ·exact Or.inl (linkworklaw53_large.l11 i c u _ (by omega) hu hl (decide_eq_false h4) (by omega) h)
    ·refine Or.inr ⟨?_,h',linkworklaw53_large.l11 i c u _ (by omega) hu hl (decide_eq_false h4) (by omega) h''⟩
     rw[drop_cons hu]
     intro a ha
     rcases List.mem_cons.1 ha with e|ha
     ·rw[e];omega
     ·exact h a ha
 have go:∀b,linkworklaw53_large.Loop1 0 c (vB b)→Contract prg 41 [c.pv] (vB b):=by
  intro b hb
  by_cases h5:5<c.lift.pieces.length
  ·exact linkworklaw53_large.e4 c _ hlb h0' (by omega) (by omega) h5 (by omega) hb
  ·exact linkworklaw53_large.e5 c _ hlb h0' (by omega) (by omega) (by omega) hb
 rcases loop1 _ 0 rfl with h|⟨h,h',h''⟩
 ·exact Or.inl (go _ h)
 ·rw[List.drop_zero] at h
  exact Or.inr ⟨⟨by omega,by omega,by omega,by omega,h,h'⟩,go _ h''⟩
theorem small_fit{c:ACam}(s:SmallC c):FitW 2 c.lift:=⟨fun a ha=>by have:=s.sb a ha;omega,fun p hp a ha=>by have:=(s.sp p hp).1 a ha;omega⟩
theorem small_good{c:ACam}(s:SmallC c)(h:chkCam c=0):GCam c:=by
 obtain⟨h1,h2,h3⟩:=chkCam_zero h
 have g:=good_of h1
 have hb:=short_valid h2 s.base
 refine⟨h1,h2,h3,ht_fit (k:=4) (by omega) (by omega) (by omega),⟨fun a ha=>short_valid (List.all_eq_true.1 g.valid a ha) (s.sb a ha),fun p hp a ha=>short_valid (List.all_eq_true.1 (chk_valid (g.ps p hp).1) a ha) ((s.sp p hp).1 a ha)⟩,fun p hp => ?_⟩
 have:=(s.sp p hp).2.2
 have:=(g.ps p hp).2
 omega
theorem same(r:ARange)(h1:r.lo.num.length<9223372036854775807∧r.lo.den.length<9223372036854775807)(h2:r.hi.num.length<9223372036854775807∧r.hi.den.length<9223372036854775807):Contract prg 50 [r.pv,r.pv] (vB true):=by
 have a:=CBa.Rat r.lo r.lo h1.1 h1.2
 have b:=CBa.Rat r.hi r.hi h2.1 h2.2
 rw[eqR_self] at a b
 exact linkworklaw53_same.e0 r r _ _ a rfl b
theorem sameG{a b:Rat}(ha:ht a≤68719476736)(hb:ht b≤68719476736):Contract prg 50 [(mkG a b).pv,(mkG a b).pv] (vB true):=by
 have f1:=fit_mkRk ha
 have f2:=fit_mkRk hb
 exact same (mkG a b) ⟨Nat.lt_of_le_of_lt f1.1 (by omega),Nat.lt_of_le_of_lt f1.2 (by omega)⟩ ⟨Nat.lt_of_le_of_lt f2.1 (by omega),Nat.lt_of_le_of_lt f2.2 (by omega)⟩
end C53
end Go.Proofs.YtbgkjomonebfcaaGreat.Sym
namespace Go.Proofs.YtbgkjomonebfcaaGreat.Sym
open Go Go.RowKit Go.ChangeShapes Go.WideShapes
set_option linter.unusedVariables false
theorem opens_ALaw:Opens prg 74 ALaw.cells (fun l=>(∀a∈l.breaks,LenR a)∧∀p∈l.pieces,∀a∈p,LenR a):=by
 intro H enc w base spare held fuel cs x h hwt
 obtain⟨fs,hu,e⟩:=flds_spec (show fldsOf (prg.underlying 74)=some [(22,0),(72,1)] by kernel_rfl)
 have hl:=opens_struct hu h
 have hl:cs.length=1+1:=hl.trans (by kernel_rfl)
 obtain⟨a,r0,q0⟩:=opens_field hu h hwt 0 0 1 (e 0) (by kernel_rfl) opens_rats
 obtain⟨b,r1,q1⟩:=opens_field hu h hwt 1 1 1 (e 1) (by kernel_rfl) opens_polys
 refine⟨⟨a,b⟩,?_,q0,q1⟩
 rw[split2 cs 1 1 hl]
 exact rdCells_append r0 r1
theorem opens_ACam:Opens prg 76 ACam.cells C53.Held:=by
 intro H enc w base spare held fuel cs x h hwt
 obtain⟨fs,hu,e⟩:=flds_spec (show fldsOf (prg.underlying 76)=some [(26,0),(74,3)] by kernel_rfl)
 have hl:=opens_struct hu h
 have hl:cs.length=3+2:=hl.trans (by kernel_rfl)
 obtain⟨a,r0,q0⟩:=opens_field hu h hwt 0 0 3 (e 0) (by kernel_rfl) opens_ARat
 obtain⟨b,r1,q1,q2⟩:=opens_field hu h hwt 1 3 2 (e 1) (by kernel_rfl) opens_ALaw
 refine⟨⟨a,b⟩,?_,lenR_sum q0,fun u hu=>lenR_sum (q1 u hu),fun p hp u hu=>lenR_sum (q2 p hp u hu)⟩
 rw[split2 cs 3 2 hl]
 exact rdCells_append r0 r1
end Go.Proofs.YtbgkjomonebfcaaGreat.Sym

namespace Go.Proofs.YtbgkjomonebfcaaGreat.Sym
open Go Path CInt
set_option linter.unusedVariables false
theorem dwells_lt{l:ALaw}(g:Good l):∀(j t:Nat) (acc:List (Rat×Rat)),t+j=l.pieces.length→(∀p∈acc,p.1<p.2)→(openB l t=true→∃w,acc[acc.length-1]? = some w∧w.2=endW l (t-1))→∀p∈dwellsF l j t acc,p.1<p.2
 |0,_,acc,_,h,_=>h
 |j+1,t,acc,hj,h,ho=>by
  have hlen:=g.len
  have own:brkW l t<endW l t:=by have:=lenW_pos g (t:=t) (by omega);unfold lenW at this;grind
  rw[dwellsF]
  cases hc:constB l t with
  |false=>exact dwells_lt g j (t+1) acc (by omega) h (by rw[openB_succ,hc];intro h;cases h)
  |true =>
   rw[cond_true]
   cases hk:contB l t with
   |false =>
    refine dwells_lt g j (t+1) _ (by omega) ?_ ?_
    ·intro p hp
     rcases List.mem_append.1 hp with hp|hp
     ·exact h p hp
     ·rw[List.mem_singleton.1 hp];exact own
    ·intro _
     exact⟨(brkW l t,endW l t),by simp,rfl⟩
   |true =>
    unfold contB at hk
    rw[Bool.and_eq_true,decide_eq_true_eq] at hk
    obtain⟨hk1,hk2⟩:=hk
    obtain⟨u,rfl⟩:∃u,t=u+1:=by
     cases t with
     |zero=>rw[openB_zero] at hk1;cases hk1
     |succ u=>exact⟨u,rfl⟩
    obtain⟨w,hw1,hw2⟩:=ho hk1
    rw[Nat.add_sub_cancel] at hw2
    rw[endW_next (by omega)] at hw2
    have hw:=h w (List.mem_of_getElem? hw1)
    have hpos:0<acc.length:=by
     have:=(List.getElem?_eq_some_iff.1 hw1).1;omega
    refine dwells_lt g j (u+1+1) _ (by omega) ?_ ?_
    ·intro p hp
     unfold lastTo at hp
     rw[hw1] at hp
     rcases List.mem_or_eq_of_mem_set hp with hp|hp
     ·exact h p hp
     ·rw[hp];show w.1<endW l (u+1);grind
    ·intro _
     refine⟨(w.1,endW l (u+1)),?_,rfl⟩
     rw[lastTo_len]
     unfold lastTo
     rw[hw1]
     rw[List.getElem?_set_self (by omega)]
theorem dwellsF_small(l:ALaw)(k:Nat)(hf:FitW k l)(hk:1≤k):∀(j t:Nat) (acc:List (Rat×Rat)),(∀p∈acc,ht p.1≤k∧ht p.2≤k)→(dwellsF l j t acc).length≤acc.length+j∧∀p∈dwellsF l j t acc,ht p.1≤k∧ht p.2≤k
 |0,_,acc,h=>⟨Nat.le_refl _,h⟩
 |j+1,t,acc,h=>by
  rw[dwellsF]
  have he:=ht_endW hf hk t
  have hb:=ht_brkW hf hk t
  cases constB l t with
  |false =>
   obtain⟨a,b⟩:=dwellsF_small l k hf hk j (t+1) acc h
   exact⟨by rw[cond_false];omega,b⟩
  |true =>
   rw[cond_true]
   cases contB l t with
   |false =>
    obtain⟨a,b⟩:=dwellsF_small l k hf hk j (t+1) (acc++[(brkW l t,endW l t)]) (fun p hp=>by
     rcases List.mem_append.1 hp with hp|hp
     ·exact h p hp
     ·rw[List.mem_singleton.1 hp];exact⟨hb,he⟩)
    exact⟨by rw[List.length_append,List.length_singleton] at a;rw[cond_false];omega,b⟩
   |true =>
    obtain⟨a,b⟩:=dwellsF_small l k hf hk j (t+1) (lastTo acc (endW l t)) (fun p hp=>by
     unfold lastTo at hp
     split at hp
     ·rename_i w hw
      rcases List.mem_or_eq_of_mem_set hp with hp|hp
      ·exact h p hp
      ·rw[hp];exact⟨(h w (List.mem_of_getElem? hw)).1,he⟩
     ·exact h p hp)
    exact⟨by rw[lastTo_len] at a;rw[cond_true];omega,b⟩
theorem flat_derive2{l:ALaw}{p:Rat×Rat}{c:Rat}(h:Flat l p c){x:Rat}(h1:p.1≤frac x)(h2:frac x<p.2):atW (deriveW (deriveW l)) x=0:=by
 obtain⟨_,_,h3⟩:=h
 obtain⟨h4,h5⟩:=h3 _ h1 h2
 rw[atW_eq,deriveW_pc,deriveW_br,deriveW_pc,deriveW_br]
 have:deriveL (pcW l (pieceL (vals l.breaks) (frac x)))=[]:=by
  unfold deriveL
  rw[List.drop_of_length_le (ble_iff.1 h4)];rfl
 rw[this];rfl
namespace C53
theorem valid(c:ACam)(hh:Held c):Contract prg 62 [c.pv] (vB false)∨(chkCam c=0∧SmallC c∧Contract prg 62 [c.pv] (vB true)):=by
 rcases large c hh with hl|⟨s,hl⟩
 ·exact Or.inl (linkworklaw53_valid.e1 c _ hl rfl)
 have hck2:=CCr.Check c (fitW_up (small_fit s) (by omega)) (by have:=s.base;omega)
 have:=linkworklaw53_valid.e0 c _ _ hl rfl hck2
 by_cases h:chkCam c=0
 ·rw[h] at this;exact Or.inr ⟨h,s,this⟩
 ·rw[show (chkCam c==0)=false from by simpa using h] at this
  exact Or.inl this
theorem CamDwells(c:ACam)(pick:Nat)(hh:Held c)(hk:pick<256):Contract prg 13 [c.pv,.int .u8 (pick:Int)] (vB true):=by
 rcases valid c hh with hv|⟨h,s,hv⟩
 ·exact linkworklaw53_CamDwells.e1 c _ _ _ _ awake rfl hv rfl awake
 have g:=small_good s h
 have gl:=good_of g.law
 have hlen:=gl.len
 have hle:=gl.le
 have hdw:=CLw.Dwells c.lift g.law (fitW_up g.fl (by omega))
 by_cases h0:(dwellsW c.lift).length=0
 ·exact linkworklaw53_CamDwells.e2 c _ _ _ _ awake rfl hv rfl hdw (by rw[List.length_map];exact h0)
 have hflat:=dwells_flat gl c.lift.pieces.length 0 [] (by omega) (fun p hp=>by cases hp) (by rw[openB_zero];intro h;cases h)
 have hlt:=dwells_lt gl c.lift.pieces.length 0 [] (by omega) (fun p hp=>by cases hp) (by rw[openB_zero];intro h;cases h)
 obtain⟨p1,p2⟩:=dwellsF_small c.lift 1 g.fl (by omega) c.lift.pieces.length 0 [] (fun p hp=>by cases hp)
 have hmod:pick%(dwellsW c.lift).length<(dwellsW c.lift).length:=Nat.mod_lt _ (by omega)
 obtain⟨p,hp⟩:∃p,(dwellsW c.lift)[pick%(dwellsW c.lift).length]? = some p:=⟨_,List.getElem?_eq_getElem hmod⟩
 have hm:((dwellsW c.lift).map arcR)[pick%((dwellsW c.lift).map arcR).length]? = some (arcR p):=by rw[List.length_map,List.getElem?_map,hp];rfl
 have hpm:=List.mem_of_getElem? hp
 obtain⟨q1,q2⟩:=p2 p hpm
 obtain⟨k,hf⟩:=hflat p hpm
 have hl:=hlt p hpm
 have hfr:frac p.1=p.1:=frac_id hf.1 (by have:=hf.2.1;grind)
 have a1:atW (deriveW c.lift) p.1=0:=flat_deriveW hf (by grind) (by grind)
 have a2:atW (deriveW (deriveW c.lift)) p.1=0:=flat_derive2 hf (by grind) (by grind)
 have hx4:ht p.1≤4:=by omega
 have r1:=CCa.Radius g p.1 hx4
 have r3:=CCa.Curvature g p.1 hx4
 have hr:=CCa.ht_rad g hx4
 have cur:∀pi,curP c p.1 pi=radC c p.1:=by intro pi;unfold curP;rw[a2];grind
 rw[cur,cur] at r3
 have mm:∀a:Rat,minR a a=a∧maxR a a=a:=by intro a;unfold minR maxR;constructor<;>split<;>rfl
 rw[(mm _).1,(mm _).2] at r3
 have hs:=sameG (a:=radC c p.1) (b:=radC c p.1) (by omega) (by omega)
 by_cases hp0:0<radC c p.1
 ·have r2:=CCa.Pressure g p.1 hx4 hp0
  have tan:∀pi,tanP c p.1 pi=0:=by intro pi;unfold tanP;rw[a1,Rat.div_def,Rat.zero_mul]
  rw[tan,tan,(mm _).1,(mm _).2] at r2
  have hz:=sameG (a:=0) (b:=0) (by decide) (by decide)
  exact linkworklaw53_CamDwells.e3 c _ _ _ _ (arcR p) _ _ _ _ _ awake rfl hv rfl hdw (by rw[List.length_map];exact h0) (by omega) hm r1 r3 hs rfl r2 hz
 ·have r2:=CCa.Pressure0 g p.1 hx4 (by grind)
  have sr:=QF.Sign (radC c p.1) (by omega)
  have:=linkworklaw53_CamDwells.e4 c _ _ _ _ (arcR p) _ _ _ _ _ _ _ awake rfl hv rfl hdw (by rw[List.length_map];exact h0) (by omega) hm r1 r3 hs rfl r2 (CBa.Is (some 8) 8) rfl sr
  rwa[decide_eq_true (cmpR_le.2 (by grind))] at this
theorem CamDwellsI(c:ACam)(pick:Int)(hh:Held c)(hk:0≤pick∧pick≤255):Contract prg 13 [c.pv,.int .u8 pick] (vB true):=by
 obtain⟨n,rfl⟩:=Int.eq_ofNat_of_zero_le hk.1
 exact CamDwells c n hh (by omega)
end C53
end Go.Proofs.YtbgkjomonebfcaaGreat.Sym
namespace Go.Proofs.YtbgkjomonebfcaaGreat.Sym
open Go Go.RowKit Go.ChangeShapes Go.WideShapes Go.ChangeAt
set_option linter.unusedVariables false
namespace RowCamDwells
theorem own:ownKnob Tryz.prog.godebug=none:=by kernel_rfl
theorem laid:laidOutB prg=true:=by kernel_rfl
theorem okArg{P:Program}{W:World}{base:Nat}{ps:Array TypeId}{args:Array Value}(hval:∀(j:Nat) t v,ps[j]? = some t→args[j]? = some v→Value.okWide P W .any base t v)(j:Nat){t:TypeId}{v:Value}(h1:ps[j]? = some t)(h2:args[j]? = some v):Value.okWide P W .any base t v:=hval j t v h1 h2
set_option maxRecDepth 100000 in
theorem contract(H:Type)(enc:TypeId×Value→H)(W:World)(base:Nat)(args:Array Value)(ds gs:List (DataW H))(before:List MemPlace)
  (hval:∀(j:Nat) t v,Tryz.f13.params[j]? = some t→args[j]? = some v→Value.okWide Tryz.prog W .any base t v)
  (hW:DataW.Whole enc Tryz.prog Tryz.f13.params.toList Rows.camDwellsSpec.vars false W args.toList ds gs before)
  (hz:(DataW.weightsEach Tryz.prog (Tryz.f13.params.toList++Rows.camDwellsSpec.plain.varTypes Tryz.prog) (ds++gs)).all (·≤reachBytes)=true) :
  Calls Tryz.prog 13 args W fun e W'=>∃v,e = .returned v∧Rows.camDwellsSpec.post enc Tryz.prog Tryz.f13 false true false false W args v W':=by
 have hW':=hW
 obtain⟨p,q,hA,hV,rfl,hfz,hnd⟩:=hW
 have hp:Tryz.f13.params = #[76,5]:=by kernel_rfl
 rw[hp] at hA hval hz
 obtain⟨v0,vs0,d0,ds0,p0,q0,hargs,rfl,rfl,h0,r0⟩:=trodAll_cons hA
 obtain⟨v1,vs1,d1,ds1,p1,q1,rfl,rfl,rfl,h1,r1⟩:=trodAll_cons r0
 obtain⟨rfl,rfl,rfl⟩:=trodAll_nil r1
 obtain rfl:args = #[v0,v1]:=by cases args;simp_all
 obtain⟨rfl,rfl⟩:=trodVars_none hV
 obtain⟨n0,hn0⟩:=h0
 have hw0:∀k∈d0.weights prg 76,k≤reachBytes:=by
  intro k hk
  have:=List.all_eq_true.1 hz k (DataW.weights_mem_each (j:=0) rfl rfl k hk)
  simpa using this
 obtain⟨x0,hx0,b0⟩:=opens_ACam enc W 0 (fun _=>true) true n0 _ _ hn0 hw0
 obtain⟨fs0,hu0,_⟩:=flds_spec (show fldsOf (prg.underlying 76)=some [(26,0),(74,3)] by kernel_rfl)
 have hv0:Value.okWide Tryz.prog W .any base 76 v0:=okArg hval 0 (by simp) (by simp)
 have hrd0:Rd (Old W) W x0.pv v0:=rd_struct (P:=Tryz.prog) (cs:=x0.cells) hu0 hv0 hx0
 obtain⟨n1,hn1⟩:=h1
 have hw1:∀k∈d1.weights prg 5,k≤reachBytes:=by
  intro k hk
  have:=List.all_eq_true.1 hz k (DataW.weights_mem_each (j:=1) rfl rfl k hk)
  simpa using this
 obtain⟨x1,hx1,b1⟩:=(opens_int (k := .u8) (show prg.underlying 5=some (.int .u8) by kernel_rfl)) enc W 0 (fun _=>true) true n1 _ _ hn1 hw1
 obtain⟨m1,rfl,_,_,_⟩:=open_int (show Tryz.prog.underlying 5=some (.int .u8) by kernel_rfl) (okArg hval 1 (t:=5) (v:=v1) (by simp) (by simp)) (⟨n1,hn1⟩:DataW.Trod enc Tryz.prog W 0 (fun _=>true) true 5 v1 d1 p1)
 have hrd1:Rd (Old W) W (.int .u8 x1) (.int .u8 m1):=by
  have:=(hx1.2 0 _ _ rfl rfl).2
  exact this
 have hc:=C53.CamDwellsI x0 x1 b0 (u8_val b1)
 refine(hc.2 (Old W) W (fun _=>none) #[v0,.int .u8 m1] (fun b hb=>hb) ⟨(fun r sc h=>by cases h),(fun r r' b h=>by obtain⟨_,h⟩:=h)⟩ rfl ?_).mono ?_
 ·intro j e v he hv
  cases j with
  |zero=>simp at he hv;subst he hv;exact hrd0
  |succ j =>
   cases j with
   |zero=>simp at he hv;subst he hv;exact hrd1
   |succ j=>simp at he
 ·intro e W' ⟨v,β',he,_,hk,_,hv,_⟩
  subst he
  have hv:Rd _ W' (vB true) v:=hv
  cases hv
  have hk':Keeps (fun _=>False) W W':=⟨hk.os,hk.tape,hk.output,hk.size,fun k h1 _=>hk.block k h1 (fun ⟨y,hy,_⟩=>by obtain⟨_,hy⟩:=hy),hk.shape⟩
  refine⟨_,rfl,post_true (tb:=4) hW' hk' rfl (by kernel_rfl) (by kernel_rfl) rfl rfl rfl laid ?_⟩
  rw[hp]
  intro t ht
  have:t=76∨t=5:=by simpa using ht
  rcases this with rfl|rfl
  all_goals exact⟨by kernel_rfl,of_decide_eq_true (by kernel_rfl)⟩
set_option maxRecDepth 100000 in
theorem lifted(os:Os)(started:os.Started)(H:Type)(enc:TypeId×Value→H) :
  ReturnsInHanded {} Tryz.checked os 13 .any (Rows.camDwellsSpec.pre6 enc Tryz.prog Tryz.f13 Rows.camDwellsRow.domain false) (Rows.camDwellsSpec.post enc Tryz.prog Tryz.f13 false true false false):=by
 refine returnsInHanded_of_change_sized (C:=Tryz.checked) own started (by kernel_rfl) Tryz.func13
  (ChangeSpec.witness6 (enc:=enc) (C:=Tryz.checked) false ⟨#[],#[.agg #[.bool false,.slice none 0 0,.slice none 0 0,.slice none 0 0,.slice none 0 0],.int .u8 0],[]⟩ 8 (by kernel_rfl) (by kernel_rfl) (by kernel_rfl) (by kernel_rfl)) ?_
 intro W base args ds gs before hval hW _ hz _
 exact contract H enc W base args ds gs before hval hW hz
theorem j1:(Rows.camDwellsRow.inPlace==Tryz.prog.inPlace 13)=true:=by kernel_rfl
theorem j2:(Rows.camDwellsRow.unfollowed==Tryz.prog.unfollowed 13)=true:=by kernel_rfl
theorem j3:(Rows.camDwellsRow.recurses==Tryz.prog.recurses 13)=true:=by kernel_rfl
theorem j4:(Rows.camDwellsRow.named==Tryz.prog.varsNamed 13)=true:=by kernel_rfl
theorem closed:joinedFacts Tryz.prog 13 Tryz.f13 Rows.camDwellsSpec Rows.camDwellsRow=true:=by
 unfold joinedFacts
 rw[j1,j2,j3,j4]
 kernel_rfl
theorem proved:Rows.CamDwellsSaid :=
 OpenClaim.holds_of_wide 13 Tryz.f13 rfl rfl rfl rfl rfl rfl rfl ⟨rfl,rfl,rfl,rfl,rfl⟩ rfl rfl rfl rfl rfl (by kernel_rfl) Tryz.func13 closed
  (of_decide_eq_true (by kernel_rfl)) (by unfold Func.isWrapper;first|(rw [if_pos (by decide +kernel)];kernel_rfl)|(rw [if_neg (by decide +kernel)];exact⟨rfl,rfl⟩))
  (fun os started H enc _=>lifted os started H enc)
end RowCamDwells
end Go.Proofs.YtbgkjomonebfcaaGreat.Sym
