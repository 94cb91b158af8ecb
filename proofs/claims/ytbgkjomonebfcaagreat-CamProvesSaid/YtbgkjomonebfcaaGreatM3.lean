/- The statement CamProves is proved: what Within and Convex accept holds at every position; no condition. -/
import Derived.Test.YtbgkjomonebfcaaGreatM2
import Derived.Test.YtbgkjomonebfcaaGreatM0
import Derived.Test.YtbgkjomonebfcaaGreatRows
import Derived.JoinedCond
namespace Go.Proofs.YtbgkjomonebfcaaGreat.Sym
open Go Path CInt
set_option linter.unusedVariables false
namespace CLw
theorem one:Contract prg 149 [] (mkR (1:Int)).pv:=law_one.e0 _ (CFr.Of 1 (by unfold InI64;omega))
theorem Check2(l:ALaw)(hl:l.pieces.length<4611686018427387904)(hf:∀p∈l.pieces,FitP 274877906944 p):∀(j t:Nat),l.pieces.length-t=j→law_Check.Loop2 l t (errPV (errOf (chkP (l.pieces.drop t)))):=by
 intro j
 induction j with
 |zero =>
  intro t hj
  rw[List.drop_of_length_le (by omega)]
  exact law_Check.l23 l t (by omega)
 |succ j ih =>
  intro t hj
  obtain⟨v,hv⟩:∃v,l.pieces[t]? = some v:=⟨_,List.getElem?_eq_getElem (by omega)⟩
  have hvf:=hf v (List.mem_of_getElem? hv)
  have hc:=CPo.Check v hvf
  rw[drop_cons hv,chkP]
  by_cases h0:chk v=0
  ·rw[decide_eq_false (by simpa using h0),cond_false]
   rw[h0] at hc
   have hd:=poly_Degree.e0 v (by have:=chk_len h0;unfold InI64;omega)
   by_cases h9:9<v.length
   ·rw[show Nat.blt 9 v.length=true from by simpa[Nat.blt_eq] using h9,cond_true]
    exact law_Check.l20 l t v _ (by omega) hv hc hd (by omega)
   ·rw[show Nat.blt 9 v.length=false from by cases hb:Nat.blt 9 v.length with
     |false=>rfl
     |true=>exact absurd (by simpa[Nat.blt_eq] using hb) h9,cond_false]
    exact law_Check.l21 l t v _ (by omega) hv hc hd (by omega) (by omega) (ih (t+1) (by omega))
  ·rw[decide_eq_true h0,cond_true]
   rw[errOf_ne h0] at hc ⊢
   exact law_Check.l22 l t v _ (by omega) hv hc
theorem Check(l:ALaw)(hf:FitW 1073741824 l):Contract prg 114 [l.pv] (errPV (errOf (chkLaw l))):=by
 unfold chkLaw
 by_cases h0:l.breaks.length=0
 ·rw[if_pos (Or.inl h0)];exact law_Check.e0 l h0
 by_cases h1:l.breaks.length=l.pieces.length
 ·rw[if_neg (by intro h;rcases h with h|h<;>omega)]
  by_cases h2:16<l.breaks.length
  ·rw[if_pos h2];exact law_Check.e2 l h0 h1 h2
  ·rw[if_neg h2]
   have hps:∀p∈l.pieces,FitP 274877906944 p:=fun p hp a ha=>⟨by have:=(hf.2 p hp a ha).1;omega,by have:=(hf.2 p hp a ha).2;omega⟩
   have loop:∀(j t:Nat) (p:Option Rat),l.breaks.length-t=j→t≤l.breaks.length→(t=0→p=none)→(∀k v,t=k+1→l.breaks[k]? = some v→p=some v.val)→law_Check.Loop1 l t (errPV (errOf (chkR p (l.breaks.drop t) l.pieces))):=by
    intro j
    induction j with
    |zero =>
     intro t p hj ht _ _
     rw[List.drop_of_length_le (by omega),chkR_nil]
     refine law_Check.l110 l t (by omega) ?_
     have:=Check2 l (by omega) hps _ 0 rfl
     rwa[List.drop_zero] at this
    |succ j ih =>
     intro t p hj ht hp0 hp
     obtain⟨v,hv⟩:∃v,l.breaks[t]? = some v:=⟨_,List.getElem?_eq_getElem (by omega)⟩
     have hvf:=hf.1 v (List.mem_of_getElem? hv)
     have hva:=CFr.Valid v ⟨by omega,by omega⟩
     have hsg:=CFr.Sign v ⟨by omega,by omega⟩
     have hone:=one
     have hcm:=CFr.Cmp v (mkR (1:Int)) ⟨by omega,by omega⟩ ⟨by decide,by decide⟩
     rw[mkR_val,show((1:Int):Rat)=1 from rfl] at hcm
     rw[drop_cons hv]
     cases hvv:v.valid with
     |false =>
      rw[chkR_stop (chkB_out (outB_inv hvv)) (by omega)]
      exact law_Check.l10 l t v _ (by omega) hv hva hvv
     |true =>
      by_cases hs:v.val<0
      ·rw[chkR_stop (chkB_out (outB_lt hs)) (by omega)]
       exact law_Check.l11 l t v _ _ (by omega) hv hva hvv hsg (cmpR_lt.2 hs)
      ·have hs':0≤cmpR v.val 0:=cmpR_ge.2 (by grind)
       by_cases hc:1≤v.val
       ·rw[chkR_stop (chkB_out (outB_ge hc)) (by omega)]
        exact law_Check.l12 l t v _ _ _ _ (by omega) hv hva hvv hsg hs' hone hcm (cmpR_ge.2 hc)
       ·have ho:=outB_no hvv hs hc
        have hc':cmpR v.val 1<0:=cmpR_lt.2 (by grind)
        by_cases ht0:t=0
        ·have:=hp0 ht0
         subst this
         by_cases hz:v.val=0
         ·rw[chkR_cons ho (by unfold badB;exact decide_eq_false (by simpa using hz))]
          refine law_Check.l16 l t v _ _ _ _ _ (by omega) hv hva hvv hsg hs' hone hcm hc' ht0 hsg (cmpR_eq.2 hz) (by omega) (by omega) (ih (t+1) _ (by omega) (by omega) (by omega) ?_)
          intro k u hk hu
          have:k=t:=by omega
          subst this
          rw[hv] at hu;injection hu with hu;rw[hu]
         ·rw[chkR_stop (chkB_bad ho (by unfold badB;exact decide_eq_true hz)) (by omega)]
          exact law_Check.l13 l t v _ _ _ _ _ (by omega) hv hva hvv hsg hs' hone hcm hc' ht0 hsg (fun e=>hz (cmpR_eq.1 e))
        ·obtain⟨k,hk⟩:∃k,t=k+1:=⟨t-1,by omega⟩
         obtain⟨u,hu⟩:∃u,l.breaks[k]? = some u:=⟨_,List.getElem?_eq_getElem (by omega)⟩
         have:=hp k u hk hu
         subst this
         have huf:=hf.1 u (List.mem_of_getElem? hu)
         have hcu:=CFr.Cmp v u ⟨by omega,by omega⟩ ⟨by omega,by omega⟩
         by_cases hz:v.val≤u.val
         ·rw[chkR_stop (chkB_bad ho (by unfold badB;exact decide_eq_true hz)) (by omega)]
          exact law_Check.l17 l t v _ _ _ _ k u _ (by omega) hv hva hvv hsg hs' hone hcm hc' ht0 (by omega) (by unfold InI64;omega) (by omega) hu hcu (cmpR_le.2 hz)
         ·rw[chkR_cons ho (by unfold badB;exact decide_eq_false hz)]
          refine law_Check.l18 l t v _ _ _ _ k u _ (by omega) hv hva hvv hsg hs' hone hcm hc' ht0 (by omega) (by unfold InI64;omega) (by omega) hu hcu (cmpR_gt.2 (by grind)) (by omega) (ih (t+1) _ (by omega) (by omega) (by omega) ?_)
          intro k' u' hk' hu'
          have:k'=t:=by omega
          subst this
          rw[hv] at hu';injection hu' with hu';rw[hu']
   refine law_Check.e3 l h0 h1 (by omega) ?_
   have:=loop _ 0 none rfl (by omega) (fun _=>rfl) (fun k v h=>by omega)
   rwa[List.drop_zero] at this
 ·rw[if_pos (Or.inr h1)];exact law_Check.e1 l h0 h1
theorem wrapped(x:ARat)(h:x.num.length≤1073741824∧x.den.length≤1073741824):Contract prg 142 [x.pv] (.tup [(mkR (frac x.val)).pv,.nilI]):=by
 obtain⟨f1,f2⟩:=h
 have hh:=ht_fit (k:=1073741824) f1 f2 (by omega)
 have hfl:=CFr.Floor x ⟨by omega,by omega⟩
 have hw:=wl_floor x.val
 have hfr:=CFr.From (Sym.whole x.val.floor) (⟨false,[(1:UInt32)]⟩:AWhole) (show wl _≤_ by omega) (by decide) (by decide)
 rw[whole_val,show Rat.divInt x.val.floor (⟨false,[(1:UInt32)]⟩:AWhole).val=(x.val.floor:Rat) from by rw[show (⟨false,[(1:UInt32)]⟩:AWhole).val=1 from rfl,Rat.divInt_eq_div];grind] at hfr
 have hi:=ht_int x.val.floor
 have hs:=CFr.Sub x (mkR (x.val.floor:Rat)) ⟨by omega,by omega⟩ (fit_mkR (by omega))
 rw[mkR_val] at hs
 exact law_wrapped.e0 x _ _ _ _ hfl law_whole.e0 hfr hs
theorem piece(l:ALaw)(x:ARat)(g:Good l)(hf:FitP 1073741824 l.breaks)(hx:x.num.length≤1073741824∧x.den.length≤1073741824)(h0:0≤x.val):Contract prg 147 [l.pv,x.pv] (vI (pieceL (vals l.breaks) x.val:Nat)):=by
 have hlen:(vals l.breaks).length=l.breaks.length:=by unfold vals;rw[List.length_map]
 have hle:=g.le
 have hn0:=g.n0
 have loop:∀(n:Nat),n<l.breaks.length→(∀b,(vals l.breaks)[n+1]? = some b→x.val<b)→law_piece.Loop1 (n:Int) l x (vI (pieceL (vals l.breaks) x.val:Nat)):=by
  intro n
  induction n with
  |zero =>
   intro hn hup
   obtain⟨v,hv⟩:∃v,l.breaks[0]? = some v:=⟨_,List.getElem?_eq_getElem (by omega)⟩
   have hvf:=hf v (List.mem_of_getElem? hv)
   have hc:=CFr.Cmp v x ⟨by omega,by omega⟩ ⟨by omega,by omega⟩
   have e:=g.first v hv
   have hp:pieceL (vals l.breaks) x.val=0:=by
    refine pieceF_eq _ _ 0 (fun j b hj=>by omega) (fun b hb=>hup b ?_) (by omega)
    rw[List.getElem?_drop] at hb;rw[Nat.add_comm];exact hb
   rw[hp]
   refine law_piece.l11 _ l x 0 v _ (by omega) hv hc (cmpR_le.2 (by grind))
  |succ n ih =>
   intro hn hup
   obtain⟨v,hv⟩:∃v,l.breaks[n+1]? = some v:=⟨_,List.getElem?_eq_getElem (by omega)⟩
   have hvf:=hf v (List.mem_of_getElem? hv)
   have hvv:(vals l.breaks)[n+1]? = some v.val:=by unfold vals;rw[List.getElem?_map,hv];rfl
   have hc:=CFr.Cmp v x ⟨by omega,by omega⟩ ⟨by omega,by omega⟩
   by_cases hle2:v.val≤x.val
   ·have hp:pieceL (vals l.breaks) x.val=n+1:=by
     refine pieceF_eq _ _ (n+1) (fun j b hj hb => ?_) (fun b hb=>hup b ?_) (by rw[List.length_drop];omega)
     ·rw[List.getElem?_drop] at hb
      by_cases hjn:j=n
      ·subst hjn
       rw[Nat.add_comm,hvv] at hb;injection hb with hb;rw[←hb];exact hle2
      ·have h1:1+j<(vals l.breaks).length:=(List.getElem?_eq_some_iff.1 hb).1
       have h2:n+1<(vals l.breaks).length:=by omega
       have:=List.pairwise_iff_getElem.1 g.asc (1+j) (n+1) h1 h2 (by omega)
       rw[(List.getElem?_eq_some_iff.1 hb).2,(List.getElem?_eq_some_iff.1 hvv).2] at this
       grind
     ·rw[List.getElem?_drop] at hb;rw[Nat.add_comm];exact hb
    rw[hp]
    refine law_piece.l11 _ l x (n+1) v _ (by omega) hv hc (cmpR_le.2 (by grind))
   ·refine law_piece.l10 _ l x (n+1) v _ (by omega) hv hc (cmpR_gt.2 (by grind)) (by unfold InI64;omega) ?_
    have:=ih (by omega) (fun b hb=>by rw[hvv] at hb;injection hb with hb;rw[←hb];grind)
    rwa[show ((n+1:Nat):Int)-1=(n:Int) from by omega]
 have:=loop (l.breaks.length-1) (by omega) (fun b hb=>by
  rw[List.getElem?_eq_none (by omega)] at hb;cases hb)
 refine law_piece.e0 l x (by unfold InI64;omega) ?_
 rwa[show ((l.breaks.length-1:Nat):Int)=(l.breaks.length:Int)-1 from by omega] at this
theorem frac_nonneg(x:Rat):0≤frac x:=by
 have:=Rat.floor_le (a:=x)
 unfold frac
 grind
theorem At(l:ALaw)(x:ARat)(hc:chkLaw l=0)(hf:FitW 1048576 l)(hv:x.valid=true)(hx:x.num.length≤1048576∧x.den.length≤1048576):Contract prg 107 [l.pv,x.pv] (.tup [(mkR (atW l x.val)).pv,.nilI]):=by
 have g:=good_of hc
 have hk:=Check l ⟨fun a ha=>⟨by have:=(hf.1 a ha).1;omega,by have:=(hf.1 a ha).2;omega⟩,fun p hp a ha=>⟨by have:=(hf.2 p hp a ha).1;omega,by have:=(hf.2 p hp a ha).2;omega⟩⟩
 rw[hc] at hk
 have hva:=CFr.Valid x ⟨by omega,by omega⟩
 have hw:=wrapped x ⟨by omega,by omega⟩
 have hxv:=hv
 obtain⟨f1,f2⟩:=hx
 have hh:=ht_fit (k:=1048576) f1 f2 (by omega)
 have hfr:=ht_frac hh
 have hxf:=fit_mkRk (k:=2097154) (q:=frac x.val) (by omega)
 have hn0:=g.n0
 have hlen:=g.len
 have hle:=g.le
 have hlen2:(vals l.breaks).length=l.breaks.length:=by unfold vals;rw[List.length_map]
 have hlt:=pieceL_lt (bs:=vals l.breaks) (by omega) (frac x.val)
 obtain⟨v,hv⟩:∃v,l.breaks[pieceL (vals l.breaks) (frac x.val)]? = some v:=⟨_,List.getElem?_eq_getElem (by omega)⟩
 obtain⟨p,hp⟩:∃p,l.pieces[pieceL (vals l.breaks) (frac x.val)]? = some p:=⟨_,List.getElem?_eq_getElem (by omega)⟩
 have hvf:=hf.1 v (List.mem_of_getElem? hv)
 have hpf:=hf.2 p (List.mem_of_getElem? hp)
 have hvh:=ht_fit hvf.1 hvf.2 (by omega)
 obtain⟨hpc,hpl⟩:=g.ps p (List.mem_of_getElem? hp)
 have hsub:=CFr.Sub (mkR (frac x.val)) v ⟨by omega,by omega⟩ ⟨by omega,by omega⟩
 rw[mkR_val] at hsub
 have hsf:=fit_mkRk (k:=1073741824) (q:=frac x.val-v.val) (by have:=ht_sub (frac x.val) v.val;omega)
 have e:atW l x.val=evalL (vals p) (frac x.val-v.val):=by unfold atW;rw[List.getD_eq_getElem?_getD,List.getD_eq_getElem?_getD,hv,hp];rfl
 rw[e]
 have hpi:=piece l (mkR (frac x.val)) g (fun a ha=>⟨by have:=(hf.1 a ha).1;omega,by have:=(hf.1 a ha).2;omega⟩) ⟨by omega,by omega⟩ (by rw[mkR_val];exact frac_nonneg _)
 rw[mkR_val] at hpi
 have hev:=CPo.Eval p (mkR (frac x.val-v.val)) hpc (fun a ha=>⟨by have:=(hpf a ha).1;omega,by have:=(hpf a ha).2;omega⟩) hsf
 rw[mkR_val] at hev
 exact law_At.e1 l x _ _ _ _ p _ v _ _ none hk hva hxv hw hpi rfl hp rfl hv hsub hev
end CLw
end Go.Proofs.YtbgkjomonebfcaaGreat.Sym
namespace Go.Proofs.YtbgkjomonebfcaaGreat.Sym
open Go Path CInt
set_option linter.unusedVariables false
namespace CRl
theorem Check2(l:ALaw)(hl:l.pieces.length<4611686018427387904)(hf:∀p∈l.pieces,FitP 274877906944 p):∀(j t:Nat),l.pieces.length-t=j→linkworkref52_Check.Loop2 t l (vI (chkP (l.pieces.drop t))):=by
 intro j
 induction j with
 |zero =>
  intro t hj
  rw[List.drop_of_length_le (by omega)]
  exact linkworkref52_Check.l23 t l (by omega)
 |succ j ih =>
  intro t hj
  obtain⟨v,hv⟩:∃v,l.pieces[t]? = some v:=⟨_,List.getElem?_eq_getElem (by omega)⟩
  have hvf:=hf v (List.mem_of_getElem? hv)
  have hc:=CRe.Check v hvf
  rw[drop_cons hv,chkP]
  by_cases h0:chk v=0
  ·rw[decide_eq_false (by simpa using h0),cond_false]
   by_cases h9:9<v.length
   ·rw[show Nat.blt 9 v.length=true from by simpa[Nat.blt_eq] using h9,cond_true]
    exact linkworkref52_Check.l21 t l v _ (by omega) hv hc h0 h9
   ·rw[show Nat.blt 9 v.length=false from by cases hb:Nat.blt 9 v.length with
     |false=>rfl
     |true=>exact absurd (by simpa[Nat.blt_eq] using hb) h9,cond_false]
    exact linkworkref52_Check.l22 t l v _ (by omega) hv hc h0 (by omega) (by omega) (ih (t+1) (by omega))
  ·rw[decide_eq_true h0,cond_true]
   exact linkworkref52_Check.l20 t l v _ (by omega) hv hc h0
theorem Check(l:ALaw)(hf:FitW 1073741824 l):Contract prg 68 [l.pv] (vI (chkLaw l)):=by
 unfold chkLaw
 by_cases h0:l.breaks.length=0
 ·rw[if_pos (Or.inl h0)];exact linkworkref52_Check.e0 l h0
 by_cases h1:l.breaks.length=l.pieces.length
 ·rw[if_neg (by intro h;rcases h with h|h<;>omega)]
  by_cases h2:16<l.breaks.length
  ·rw[if_pos h2];exact linkworkref52_Check.e2 l h0 h1 h2
  ·rw[if_neg h2]
   have hps:∀p∈l.pieces,FitP 274877906944 p:=fun p hp a ha=>⟨by have:=(hf.2 p hp a ha).1;omega,by have:=(hf.2 p hp a ha).2;omega⟩
   have loop:∀(j t:Nat) (p:Option Rat),l.breaks.length-t=j→t≤l.breaks.length→(t=0→p=none)→(∀k v,t=k+1→l.breaks[k]? = some v→p=some v.val)→linkworkref52_Check.Loop1 t l (vI (chkR p (l.breaks.drop t) l.pieces)):=by
    intro j
    induction j with
    |zero =>
     intro t p hj ht _ _
     rw[List.drop_of_length_le (by omega),chkR_nil]
     refine linkworkref52_Check.l110 t l (by omega) ?_
     have:=Check2 l (by omega) hps _ 0 rfl
     rwa[List.drop_zero] at this
    |succ j ih =>
     intro t p hj ht hp0 hp
     obtain⟨v,hv⟩:∃v,l.breaks[t]? = some v:=⟨_,List.getElem?_eq_getElem (by omega)⟩
     have hvf:=hf.1 v (List.mem_of_getElem? hv)
     have hva:=CRb.Valid v ⟨by omega,by omega⟩
     have hsg:=CRb.Sign v ⟨by omega,by omega⟩
     have hone:=(CRb.Of 1 (by unfold InI64;omega))
     have hcm:=CRb.Cmp v (mkR (1:Int)) ⟨by omega,by omega⟩ ⟨by decide,by decide⟩
     rw[mkR_val,show((1:Int):Rat)=1 from rfl] at hcm
     rw[drop_cons hv]
     cases hvv:v.valid with
     |false =>
      rw[chkR_stop (chkB_out (outB_inv hvv)) (by omega)]
      exact linkworkref52_Check.l10 t l v _ (by omega) hv hva hvv
     |true =>
      by_cases hs:v.val<0
      ·rw[chkR_stop (chkB_out (outB_lt hs)) (by omega)]
       exact linkworkref52_Check.l11 t l v _ _ (by omega) hv hva hvv hsg (cmpR_lt.2 hs)
      ·have hs':0≤cmpR v.val 0:=cmpR_ge.2 (by grind)
       by_cases hc:1≤v.val
       ·rw[chkR_stop (chkB_out (outB_ge hc)) (by omega)]
        exact linkworkref52_Check.l12 t l v _ _ _ _ (by omega) hv hva hvv hsg hs' hone hcm (cmpR_ge.2 hc)
       ·have ho:=outB_no hvv hs hc
        have hc':cmpR v.val 1<0:=cmpR_lt.2 (by grind)
        by_cases ht0:t=0
        ·have:=hp0 ht0
         subst this
         by_cases hz:v.val=0
         ·rw[chkR_cons ho (by unfold badB;exact decide_eq_false (by simpa using hz))]
          refine linkworkref52_Check.l16 t l v _ _ _ _ _ (by omega) hv hva hvv hsg hs' hone hcm hc' ht0 hsg (cmpR_eq.2 hz) (by omega) (by omega) (ih (t+1) _ (by omega) (by omega) (by omega) ?_)
          intro k u hk hu
          have:k=t:=by omega
          subst this
          rw[hv] at hu;injection hu with hu;rw[hu]
         ·rw[chkR_stop (chkB_bad ho (by unfold badB;exact decide_eq_true hz)) (by omega)]
          exact linkworkref52_Check.l13 t l v _ _ _ _ _ (by omega) hv hva hvv hsg hs' hone hcm hc' ht0 hsg (fun e=>hz (cmpR_eq.1 e))
        ·obtain⟨k,hk⟩:∃k,t=k+1:=⟨t-1,by omega⟩
         obtain⟨u,hu⟩:∃u,l.breaks[k]? = some u:=⟨_,List.getElem?_eq_getElem (by omega)⟩
         have:=hp k u hk hu
         subst this
         have huf:=hf.1 u (List.mem_of_getElem? hu)
         have hcu:=CRb.Cmp v u ⟨by omega,by omega⟩ ⟨by omega,by omega⟩
         by_cases hz:v.val≤u.val
         ·rw[chkR_stop (chkB_bad ho (by unfold badB;exact decide_eq_true hz)) (by omega)]
          exact linkworkref52_Check.l17 t l v _ _ _ _ k u _ (by omega) hv hva hvv hsg hs' hone hcm hc' ht0 (by omega) (by unfold InI64;omega) (by omega) hu hcu (cmpR_le.2 hz)
         ·rw[chkR_cons ho (by unfold badB;exact decide_eq_false hz)]
          refine linkworkref52_Check.l18 t l v _ _ _ _ k u _ (by omega) hv hva hvv hsg hs' hone hcm hc' ht0 (by omega) (by unfold InI64;omega) (by omega) hu hcu (cmpR_gt.2 (by grind)) (by omega) (ih (t+1) _ (by omega) (by omega) (by omega) ?_)
          intro k' u' hk' hu'
          have:k'=t:=by omega
          subst this
          rw[hv] at hu';injection hu' with hu';rw[hu']
   refine linkworkref52_Check.e3 l h0 h1 (by omega) ?_
   have:=loop _ 0 none rfl (by omega) (fun _=>rfl) (fun k v h=>by omega)
   rwa[List.drop_zero] at this
 ·rw[if_pos (Or.inr h1)];exact linkworkref52_Check.e1 l h0 h1
end CRl
end Go.Proofs.YtbgkjomonebfcaaGreat.Sym
namespace Go.Proofs.YtbgkjomonebfcaaGreat.Sym
open Go Path CInt
set_option linter.unusedVariables false
theorem drop_take_map{α β:Type}{l:List α}{t:Nat}{v:α}(f:α→β)(h:l[t]? = some v):(l.take (t+1)).map f=(l.take t).map f++[f v]:=by
 rw[List.take_add_one,h,List.map_append];rfl
namespace CLw
theorem Derive(l:ALaw)(hc:chkLaw l=0)(hf:FitW 1073741824 l):Contract prg 185 [l.pv] (.tup [(deriveW l).pv,.nilI]):=by
 have g:=good_of hc
 have hk:=Check l hf
 rw[hc] at hk
 have hle:=g.le
 have hlen:=g.len
 have loop:∀(j t:Nat) (sb:List ARat) (sp:List (List ARat)),l.pieces.length-t=j→t≤l.pieces.length→sb=(l.breaks.take t).map (fun a=>mkR a.val)→sp=(l.pieces.take t).map (fun p=>(deriveL (vals p)).map mkR)→law_Derive.Loop1 l t sb sp (.tup [(deriveW l).pv,.nilI]):=by
  intro j
  induction j with
  |zero =>
   intro t sb sp hj ht hb hp
   rw[List.take_of_length_le (by omega)] at hb hp
   have e:deriveW l=⟨sb,sp⟩:=by
    unfold deriveW vals
    rw[hb,hp,List.map_map];rfl
   rw[e]
   exact law_Derive.l12 l t sb sp (by omega)
  |succ j ih =>
   intro t sb sp hj ht hb hp
   obtain⟨v,hv⟩:∃v,l.pieces[t]? = some v:=⟨_,List.getElem?_eq_getElem (by omega)⟩
   obtain⟨b,hb'⟩:∃b,l.breaks[t]? = some b:=⟨_,List.getElem?_eq_getElem (by omega)⟩
   have hvf:=hf.2 v (List.mem_of_getElem? hv)
   have hbf:=hf.1 b (List.mem_of_getElem? hb')
   have hd:=CPo.Derive v (g.ps v (List.mem_of_getElem? hv)).1 (fun a ha=>⟨by have:=(hvf a ha).1;omega,by have:=(hvf a ha).2;omega⟩)
   have ha:=CPo.addZ b ⟨by omega,by omega⟩
   have h1:sb.length=t:=by rw[hb,List.length_map,List.length_take];omega
   have h2:sp.length=t:=by rw[hp,List.length_map,List.length_take];omega
   refine law_Derive.l10 l t sb sp v _ b _ (by omega) hv hd hb' ha (by simp;omega) (by simp;omega) (by omega) (ih (t+1) _ _ (by omega) (by omega) ?_ ?_)
   ·rw[drop_take_map _ hb',hb]
   ·rw[drop_take_map _ hv,hp]
 exact law_Derive.e0 l hk (loop _ 0 [] [] rfl (by omega) rfl rfl)
end CLw
end Go.Proofs.YtbgkjomonebfcaaGreat.Sym
namespace Go.Proofs.YtbgkjomonebfcaaGreat.Sym
open Go Path CInt
set_option linter.unusedVariables false
theorem chkP_of : ∀ {ps : List (List ARat)}, (∀ p ∈ ps, chk p = 0 ∧ p.length ≤ 9) → chkP ps = 0
  | [], _ => rfl
  | a :: r, h => by
    obtain ⟨h1, h2⟩ := h a (List.mem_cons_self ..)
    rw [chkP, h1, show decide ((0 : Int) ≠ 0) = false from rfl, cond_false]
    rw [show Nat.blt 9 a.length = false from by
      cases hb : Nat.blt 9 a.length with
      | false => rfl
      | true => have : 9 < a.length := by simpa [Nat.blt_eq] using hb
                omega, cond_false]
    exact chkP_of (fun p hp => h p (List.mem_cons_of_mem _ hp))
theorem chkB_zero{l:ALaw}(h:chkLaw l=0):chkB none l.breaks=0:=by
 unfold chkLaw at h
 split at h
 ·cases h
 ·split at h
  ·cases h
  ·unfold chkR at h
   refine Classical.byContradiction fun hb => ?_
   rw[decide_eq_true hb,cond_true] at h
   exact hb h
theorem chk_derive{l:ALaw}(h:chkLaw l=0):chkLaw (deriveW l)=0:=by
 have g:=good_of h
 have hb:=chkB_zero h
 have e:(deriveW l).breaks=l.breaks:=vals_of g.valid
 have hlen:=g.len
 have hn0:=g.n0
 have hle:=g.le
 have hp:(deriveW l).pieces.length=l.pieces.length:=by unfold deriveW;simp
 unfold chkLaw
 rw[if_neg (by rw[e,hp];omega),if_neg (by rw[e];omega)]
 unfold chkR
 rw[e,hb]
 refine chkP_of (fun p hp => ?_)
 unfold deriveW at hp
 obtain⟨q,hq,rfl⟩:=List.mem_map.1 hp
 have h9:=(g.ps q hq).2
 have hd:=len_deriveL (vals q)
 have hv:(vals q).length=q.length:=by unfold vals;rw[List.length_map]
 exact⟨chk_map (lastZ_deriveL _) (by omega),by rw[List.length_map];omega⟩
theorem fitW_derive{l:ALaw}{k:Nat}(g:Good l)(hk:1≤k)(h:FitW k l):FitW (k+2) (deriveW l):=by
 have e:(deriveW l).breaks=l.breaks:=vals_of g.valid
 constructor
 ·rw[e];exact fun a ha=>⟨by have:=(h.1 a ha).1;omega,by have:=(h.1 a ha).2;omega⟩
 ·intro p hp
  unfold deriveW at hp
  obtain⟨q,hq,rfl⟩:=List.mem_map.1 hp
  have h9:=(g.ps q hq).2
  exact fit_mapk (fl_deriveL (by unfold vals;rw[List.length_map];omega) (fl_vals (h.2 q hq) hk))
end Go.Proofs.YtbgkjomonebfcaaGreat.Sym
namespace Go.Proofs.YtbgkjomonebfcaaGreat.Sym
open Go Path CInt
set_option linter.unusedVariables false
def mkG(a b:Rat):ARange:=⟨mkR a,mkR b⟩
def ARange.ok(r:ARange):Bool:=r.lo.valid&&(r.hi.valid&&decide (r.lo.val≤r.hi.val))
def loG(r:ARange):Rat:=bif r.ok then r.lo.val else 0
def hiG(r:ARange):Rat:=bif r.ok then r.hi.val else 0
theorem ok_parts{r:ARange}(h:r.ok=true):r.lo.valid=true∧r.hi.valid=true∧r.lo.val≤r.hi.val:=by
 unfold ARange.ok at h
 simp only[Bool.and_eq_true,decide_eq_true_eq] at h
 exact h
theorem loG_le(r:ARange):loG r≤hiG r:=by
 unfold loG hiG
 cases h:r.ok with
 |true=>exact(ok_parts h).2.2
 |false=>exact Rat.le_refl
theorem ok_mkG{a b:Rat}(h:a≤b):(mkG a b).ok=true:=by
 unfold ARange.ok mkG
 simp only[mkR_valid,mkR_val,decide_eq_true h,Bool.and_self]
theorem loG_mk{a b:Rat}(h:a≤b):loG (mkG a b)=a:=by unfold loG;rw[ok_mkG h,cond_true];exact mkR_val a
theorem hiG_mk{a b:Rat}(h:a≤b):hiG (mkG a b)=b:=by unfold hiG;rw[ok_mkG h,cond_true];exact mkR_val b
theorem mkG_of{r:ARange}(h:r.ok=true):mkG (loG r) (hiG r)=r:=by
 obtain⟨h1,h2,h3⟩:=ok_parts h
 unfold mkG loG hiG
 rw[h,cond_true,cond_true,mkR_of h1,mkR_of h2]
theorem mkG_not{r:ARange}(h:r.ok=false):mkG (loG r) (hiG r)=⟨⟨false,[],[]⟩,⟨false,[],[]⟩⟩:=by
 unfold mkG loG hiG
 rw[h];rfl
abbrev FitG(k:Nat)(r:ARange):Prop:=(r.lo.num.length≤k∧r.lo.den.length≤k)∧(r.hi.num.length≤k∧r.hi.den.length≤k)
theorem fit_mkG{a b:Rat}{k:Nat}(ha:ht a≤k)(hb:ht b≤k):FitG k (mkG a b):=⟨fit_mkRk ha,fit_mkRk hb⟩
theorem ht_loG{r:ARange}{k:Nat}(h:FitG k r)(hk:1≤k):ht (loG r)≤k:=by
 unfold loG
 cases r.ok with
 |true=>exact ht_fit h.1.1 h.1.2 hk
 |false=>exact Nat.le_trans (Nat.le_of_eq ht_zero) hk
theorem ht_hiG{r:ARange}{k:Nat}(h:FitG k r)(hk:1≤k):ht (hiG r)≤k:=by
 unfold hiG
 cases r.ok with
 |true=>exact ht_fit h.2.1 h.2.2 hk
 |false=>exact Nat.le_trans (Nat.le_of_eq ht_zero) hk
namespace CIv
theorem Valid(r:ARange)(h:FitG 68719476736 r):Contract prg 155 [r.pv] (vB r.ok):=by
 have h1:=CFr.Valid r.lo ⟨by omega,by omega⟩
 have h2:=CFr.Valid r.hi ⟨by omega,by omega⟩
 have h3:=CFr.Cmp r.lo r.hi ⟨by omega,by omega⟩ ⟨by omega,by omega⟩
 unfold ARange.ok
 cases hv:r.lo.valid with
 |false=>exact interval_Valid.e2 r _ h1 hv
 |true =>
  cases hw:r.hi.valid with
  |false=>exact interval_Valid.e1 r _ _ h1 hv h2 hw
  |true =>
   have:=interval_Valid.e0 r _ _ _ h1 hv h2 hw h3
   rwa[show decide (cmpR r.lo.val r.hi.val≤0)=decide (r.lo.val≤r.hi.val) from decide_eq_decide.2 cmpR_le] at this
theorem clean(r:ARange)(h:FitG 68719476736 r):Contract prg 137 [r.pv] (mkG (loG r) (hiG r)).pv:=by
 have hv:=Valid r h
 cases hk:r.ok with
 |false=>rw[mkG_not hk];exact interval_clean.e0 r _ hv hk
 |true =>
  obtain⟨h1,h2,h3⟩:=ok_parts hk
  have:=interval_clean.e1 r _ _ _ hv hk (CPo.addZ r.lo ⟨by omega,by omega⟩) (CPo.addZ r.hi ⟨by omega,by omega⟩)
  rw[mkR_of h1,mkR_of h2] at this
  rw[mkG_of hk];exact this
theorem Point(x:Rat)(hx:ht x≤68719476736):Contract prg 189 [(mkR x).pv] (mkG x x).pv:=interval_Point.e0 _ _ _ (QF.addZ x hx) (QF.addZ x hx)
theorem Hull(r s:ARange)(h:FitG 68719476736 r)(h':FitG 68719476736 s):Contract prg 188 [r.pv,s.pv] (mkG (minR (loG r) (loG s)) (maxR (hiG r) (hiG s))).pv :=
 interval_Hull.e0 r s _ _ _ _ (clean r h) (clean s h') (QF.Min _ _ (ht_loG h (by omega)) (ht_loG h' (by omega))) (QF.Max _ _ (ht_hiG h (by omega)) (ht_hiG h' (by omega)))
theorem Contains(r:ARange)(x:Rat)(h:FitG 68719476736 r)(hx:ht x≤68719476736):Contract prg 138 [r.pv,(mkR x).pv] (vB (decide (loG r≤x∧x≤hiG r))):=by
 have c1:=QF.Cmp (loG r) x (ht_loG h (by omega)) hx
 have c2:=QF.Cmp x (hiG r) hx (ht_hiG h (by omega))
 by_cases h1:loG r≤x
 ·have:=interval_Contains.e0 r _ _ _ _ (clean r h) c1 (cmpR_le.2 h1) c2
  rwa[show decide (cmpR x (hiG r)≤0)=decide (loG r≤x∧x≤hiG r) from decide_eq_decide.2 ⟨fun e=>⟨h1,cmpR_le.1 e⟩,fun e=>cmpR_le.2 e.2⟩] at this
 ·rw[decide_eq_false (fun e=>h1 e.1)]
  exact interval_Contains.e1 r _ _ _ (clean r h) c1 (cmpR_gt.2 (by grind))
end CIv
end Go.Proofs.YtbgkjomonebfcaaGreat.Sym

namespace Go.Proofs.YtbgkjomonebfcaaGreat.Sym
open Go Path CInt
set_option linter.unusedVariables false
def brkW(l:ALaw)(i:Nat):Rat:=match l.breaks[i]? with
 |some b=>b.val
 |none=>0
def pcW(l:ALaw)(i:Nat):List Rat:=match l.pieces[i]? with
 |some p=>vals p
 |none=>[]
def lenW(l:ALaw)(i:Nat):Rat:=endW l i-brkW l i
theorem brkW_of{l:ALaw}{i:Nat}{b:ARat}(h:l.breaks[i]? = some b):brkW l i=b.val:=by unfold brkW;rw[h]
theorem pcW_of{l:ALaw}{i:Nat}{p:List ARat}(h:l.pieces[i]? = some p):pcW l i=vals p:=by unfold pcW;rw[h]
theorem ht_endW{l:ALaw}{k:Nat}(hf:FitW k l)(hk:1≤k)(i:Nat):ht (endW l i)≤k:=by
 unfold endW
 cases h:l.breaks[i+1]? with
 |some v=>have hv:=hf.1 v (List.mem_of_getElem? h);exact ht_fit hv.1 hv.2 hk
 |none=>exact Nat.le_trans (show ht ((1:Int):Rat)≤1 from by decide) hk
theorem ht_brkW{l:ALaw}{k:Nat}(hf:FitW k l)(hk:1≤k)(i:Nat):ht (brkW l i)≤k:=by
 unfold brkW
 cases h:l.breaks[i]? with
 |some v=>have hv:=hf.1 v (List.mem_of_getElem? h);exact ht_fit hv.1 hv.2 hk
 |none=>exact Nat.le_trans (Nat.le_of_eq ht_zero) hk
theorem ht_lenW{l:ALaw}{k:Nat}(hf:FitW k l)(hk:1≤k)(i:Nat):ht (lenW l i)≤2*k+1:=by
 have h1:=ht_endW hf hk i
 have h2:=ht_brkW hf hk i
 have h3:=ht_sub (endW l i) (brkW l i)
 unfold lenW;omega
theorem fl_pcW{l:ALaw}{k:Nat}(hf:FitW k l)(hk:1≤k)(i:Nat):Fl k (pcW l i):=by
 unfold pcW
 cases h:l.pieces[i]? with
 |some p=>exact fl_vals (hf.2 p (List.mem_of_getElem? h)) hk
 |none=>exact fun x hx=>by cases hx
theorem Good.at{l:ALaw}(g:Good l){t:Nat}(h:t<l.pieces.length):∃b p,l.breaks[t]? = some b∧l.pieces[t]? = some p∧b=mkR (brkW l t)∧p=(pcW l t).map mkR∧chk p=0∧p.length≤9:=by
 have hlen:=g.len
 obtain⟨b,hb⟩:∃b,l.breaks[t]? = some b:=⟨_,List.getElem?_eq_getElem (by omega)⟩
 obtain⟨p,hp⟩:∃p,l.pieces[t]? = some p:=⟨_,List.getElem?_eq_getElem h⟩
 obtain⟨h1,h2⟩:=g.ps p (List.mem_of_getElem? hp)
 refine⟨b,p,hb,hp,?_,?_,h1,h2⟩
 ·rw[brkW_of hb,mkR_of (List.all_eq_true.1 g.valid b (List.mem_of_getElem? hb))]
 ·rw[pcW_of hp,vals_of (chk_valid h1)]
theorem pcW_len{l:ALaw}(g:Good l)(t:Nat):(pcW l t).length≤9:=by
 unfold pcW
 cases h:l.pieces[t]? with
 |some p=>have:=(g.ps p (List.mem_of_getElem? h)).2;unfold vals;rw[List.length_map];exact this
 |none=>simp
theorem asc_get{q:List Rat}(h:q.Pairwise (·<·)){i j:Nat}{x y:Rat}(hi:q[i]? = some x)(hj:q[j]? = some y)(hij:i<j):x<y:=by
 obtain⟨a1,a2⟩:=List.getElem?_eq_some_iff.1 hi
 obtain⟨b1,b2⟩:=List.getElem?_eq_some_iff.1 hj
 have:=List.pairwise_iff_getElem.1 h i j a1 b1 hij
 rwa[a2,b2] at this
theorem endW_gt{l:ALaw}(g:Good l){t:Nat}(h:t<l.breaks.length):brkW l t<endW l t:=by
 obtain⟨b,hb⟩:∃b,l.breaks[t]? = some b:=⟨_,List.getElem?_eq_getElem h⟩
 rw[brkW_of hb]
 unfold endW
 cases h2:l.breaks[t+1]? with
 |none=>have:=(g.unit b (List.mem_of_getElem? hb)).2;show b.val<((1:Int):Rat);exact this
 |some c =>
  have hv1:(vals l.breaks)[t]? = some b.val:=by unfold vals;rw[List.getElem?_map,hb];rfl
  have hv2:(vals l.breaks)[t+1]? = some c.val:=by unfold vals;rw[List.getElem?_map,h2];rfl
  exact asc_get g.asc hv1 hv2 (Nat.lt_succ_self t)
theorem lenW_pos{l:ALaw}(g:Good l){t:Nat}(h:t<l.breaks.length):0<lenW l t:=by
 have:=endW_gt g h
 unfold lenW;grind
end Go.Proofs.YtbgkjomonebfcaaGreat.Sym

namespace Go.Proofs.YtbgkjomonebfcaaGreat.Sym
open Go Path CInt
set_option linter.unusedVariables false
theorem frac_lt(x:Rat):frac x<1:=by
 have:=Rat.lt_floor_add_one x
 have e:((x.floor+1:Int):Rat)=(x.floor:Rat)+1:=by simp
 unfold frac
 grind
theorem frac_ge(x:Rat):0≤frac x:=by
 have:=Rat.floor_le (a:=x)
 unfold frac
 grind
theorem piece_spec{l:ALaw}(g:Good l){y:Rat}(h0:0≤y)(h1:y<1):pieceL (vals l.breaks) y<l.breaks.length∧brkW l (pieceL (vals l.breaks) y)≤y∧y<endW l (pieceL (vals l.breaks) y):=by
 have hl:(vals l.breaks).length=l.breaks.length:=List.length_map ..
 have hn0:=g.n0
 have hlt:=pieceL_lt (bs:=vals l.breaks) (by omega) y
 have key:∀(r:List Rat) (i:Nat),pieceF r y=i→(∀j b,j<i→r[j]? = some b→b≤y)∧(∀b,r[i]? = some b→y<b):=by
  intro r
  induction r with
  |nil=>intro i hi;exact⟨fun j b _ h=>by simp at h,fun b h=>by simp at h⟩
  |cons a r ih =>
   intro i hi
   rw[pieceF] at hi
   by_cases ha:a≤y
   ·rw[decide_eq_true ha,cond_true] at hi
    subst hi
    obtain⟨k1,k2⟩:=ih _ rfl
    refine⟨fun j b hj h => ?_,fun b h=>k2 b (by simpa using h)⟩
    cases j with
    |zero=>simp at h;rw[←h];exact ha
    |succ j=>exact k1 j b (by omega) (by simpa using h)
   ·rw[decide_eq_false ha,cond_false] at hi
    subst hi
    exact⟨fun j b hj=>by omega,fun b h=>by simp at h;rw[←h];grind⟩
 obtain⟨k1,k2⟩:=key ((vals l.breaks).drop 1) _ rfl
 have k1:∀j b,j<pieceL (vals l.breaks) y→((vals l.breaks).drop 1)[j]? = some b→b≤y:=k1
 have k2:∀b,((vals l.breaks).drop 1)[pieceL (vals l.breaks) y]? = some b→y<b:=k2
 generalize pieceL (vals l.breaks) y=i at hlt k1 k2 ⊢
 refine⟨by omega,?_,?_⟩
 ·cases i with
  |zero =>
   obtain⟨b,hb⟩:∃b,l.breaks[0]? = some b:=⟨_,List.getElem?_eq_getElem (by omega)⟩
   rw[brkW_of hb,g.first b hb];exact h0
  |succ i =>
   obtain⟨b,hb⟩:∃b,l.breaks[i+1]? = some b:=⟨_,List.getElem?_eq_getElem (by omega)⟩
   rw[brkW_of hb]
   refine k1 i b.val (by omega) ?_
   rw[List.getElem?_drop,Nat.add_comm]
   unfold vals;rw[List.getElem?_map,hb];rfl
 ·unfold endW
  cases hb:l.breaks[i+1]? with
  |none=>show y<((1:Int):Rat);exact h1
  |some b =>
   refine k2 b.val ?_
   rw[List.getElem?_drop,Nat.add_comm]
   unfold vals;rw[List.getElem?_map,hb];rfl
theorem atW_eq{l:ALaw}(x:Rat):atW l x=evalL (pcW l (pieceL (vals l.breaks) (frac x))) (frac x-brkW l (pieceL (vals l.breaks) (frac x))):=by
 unfold atW pcW brkW
 rw[List.getD_eq_getElem?_getD,List.getD_eq_getElem?_getD]
 cases l.pieces[pieceL (vals l.breaks) (frac x)]? <;> cases l.breaks[pieceL (vals l.breaks) (frac x)]? <;> rfl
theorem deriveW_pc(l:ALaw)(i:Nat):pcW (deriveW l) i=deriveL (pcW l i):=by
 unfold pcW deriveW
 show(match (l.pieces.map (fun p=>(deriveL (vals p)).map mkR))[i]? with|some p=>vals p|none=>[])=_
 rw[List.getElem?_map]
 cases l.pieces[i]? with
 |none=>rfl
 |some p=>exact vals_mkR _
theorem deriveW_br(l:ALaw):vals (deriveW l).breaks=vals l.breaks:=vals_mkR _
end Go.Proofs.YtbgkjomonebfcaaGreat.Sym
namespace Go.Proofs.YtbgkjomonebfcaaGreat.Sym.Path
open Go
set_option maxRecDepth 20000
set_option linter.unusedVariables false
namespace cam_Radius
theorem e0(c:ACam)(x atV add:ARat)(h1:Contract prg 106 [c.pv,x.pv] .nilI)(h2:Contract prg 107 [c.lift.pv,x.pv] (.tup [atV.pv,.nilI]))(h3:Contract prg 63 [c.base.pv,atV.pv] add.pv):Contract prg 43 [c.pv,x.pv] (.tup [add.pv,.nilI]) :=
 Contract.ofL Tryz.func43 (by kernel_rfl) (L.done mixed tabOk (n:=114) (ns:=[1,1,1]) (tr:=[.reg [],.reg [.none,.none,(.pv .nilI)],.reg [],.auto,.reg [.none,.none,.none,(.pv (.tup [atV.pv,.nilI]))],.reg [],.auto,.reg [.none,.none,.none,(.pv add.pv)]]) (cj h1 (cj h2 (cj h3 True.intro))) (by kernel_rfl))
end cam_Radius
namespace cam_Pressure
theorem e1(c:ACam)(x rad:ARat)(sig:Int)(der of mul hig mul1 div low mul2 div2:ARat)(enc:ARange)(h1:Contract prg 43 [c.pv,x.pv] (.tup [rad.pv,.nilI]))(h2:Contract prg 39 [rad.pv] (vI sig))(h3:0<sig)(h4:Contract prg 108 [c.lift.pv,(vI 1),x.pv] (.tup [der.pv,.nilI]))(h5:Contract prg 73 [(vI 2)] of.pv)(h6:Contract prg 85 [of.pv,rad.pv] mul.pv)(h7:Contract prg 110 [] hig.pv)(h8:Contract prg 85 [mul.pv,hig.pv] mul1.pv)(h9:Contract prg 109 [der.pv,mul1.pv] (.tup [div.pv,.nilI]))(h10:Contract prg 111 [] low.pv)(h11:Contract prg 85 [mul.pv,low.pv] mul2.pv)(h12:Contract prg 109 [der.pv,mul2.pv] (.tup [div2.pv,.nilI]))(h13:Contract prg 112 [div.pv,div2.pv] enc.pv):Contract prg 44 [c.pv,x.pv] (.tup [enc.pv,.nilI]) :=
 Contract.ofL Tryz.func44 (by kernel_rfl) (L.done mixed tabOk (n:=177) (ns:=[1,1,1,1,1,1,1,1,1,1,1,1,1]) (tr:=[.reg [],.reg [.none,.none,(.pv (.tup [rad.pv,.nilI]))],.reg [],.auto,.reg [.none,(.pv (vI sig))],.dec false,.reg [.none,.none,.none,(.pv (.tup [der.pv,.nilI]))],.reg [],.auto,dr 4 1 [(.pv of.pv),.none,(.pv mul.pv)],dr 10 1 [.none,.none,(.pv hig.pv),(.pv mul1.pv),(.pv (.tup [div.pv,.nilI]))],.reg [],.auto,dr 10 1 [.none,.none,(.pv low.pv),(.pv mul2.pv),(.pv (.tup [div2.pv,.nilI]))],.reg [],.auto,.reg [.none,.none,(.pv enc.pv)]]) (cj h1 (cj h2 (cj (dle_f h3) (cj h4 (cj h5 (cj h6 (cj h7 (cj h8 (cj h9 (cj h10 (cj h11 (cj h12 (cj h13 True.intro))))))))))))) (by kernel_rfl))
end cam_Pressure
namespace cam_Curvature
theorem e0(c:ACam)(x rad der hig squ mul add low squ1 mul1 add1:ARat)(enc:ARange)(h1:Contract prg 43 [c.pv,x.pv] (.tup [rad.pv,.nilI]))(h2:Contract prg 108 [c.lift.pv,(vI 2),x.pv] (.tup [der.pv,.nilI]))(h3:Contract prg 110 [] hig.pv)(h4:Contract prg 113 [hig.pv] squ.pv)(h5:Contract prg 85 [der.pv,squ.pv] mul.pv)(h6:Contract prg 63 [rad.pv,mul.pv] add.pv)(h7:Contract prg 111 [] low.pv)(h8:Contract prg 113 [low.pv] squ1.pv)(h9:Contract prg 85 [der.pv,squ1.pv] mul1.pv)(h10:Contract prg 63 [rad.pv,mul1.pv] add1.pv)(h11:Contract prg 112 [add.pv,add1.pv] enc.pv):Contract prg 45 [c.pv,x.pv] (.tup [enc.pv,.nilI]) :=
 Contract.ofL Tryz.func45 (by kernel_rfl) (L.done mixed tabOk (n:=114) (ns:=[1,1,1,1,1,1,1,1,1,1,1]) (tr:=[.reg [],.reg [.none,.none,(.pv (.tup [rad.pv,.nilI]))],.reg [],.auto,.reg [.none,.none,.none,(.pv (.tup [der.pv,.nilI]))],.reg [],.auto,dr 13 2 [.none,.none,(.pv hig.pv),(.pv squ.pv),(.pv mul.pv),(.pv add.pv),.none,.none,(.pv low.pv),(.pv squ1.pv),(.pv mul1.pv),(.pv add1.pv),(.pv enc.pv)]]) (cj h1 (cj h2 (cj h3 (cj h4 (cj h5 (cj h6 (cj h7 (cj h8 (cj h9 (cj h10 (cj h11 True.intro))))))))))) (by kernel_rfl))
end cam_Curvature
namespace linkworkref53_Check
theorem e0(c:ACam)(che:Int)(h1:Contract prg 68 [c.lift.pv] (vI che))(h2:che≠0):Contract prg 46 [c.pv] (vI che) :=
 Contract.ofL Tryz.func46 (by kernel_rfl) (L.done mixed tabOk (n:=90) (ns:=[1,1]) (tr:=[.reg [],.reg [.none,.none,(.pv (vI che))],.reg [],.dec true,.reg []]) (cj h1 (cj (dne_t h2) True.intro)) (by kernel_rfl))
theorem e1(c:ACam)(che:Int)(val:Bool)(h1:Contract prg 68 [c.lift.pv] (vI che))(h2:che=0)(h3:Contract prg 48 [c.base.pv] (vB val))(h4:val=false):Contract prg 46 [c.pv] (vI 3) :=
 Contract.ofL Tryz.func46 (by kernel_rfl) (L.done mixed tabOk (n:=105) (ns:=[1,1,1,1,1,1,1,1]) (tr:=[.reg [],.reg [.none,.none,(.pv (vI che))],.reg [],.dec false,.reg [.none,.none,(.pv (vB val)),.none,.none,.skip,.skip,.skip,.skip,(.dec true)],.auto,.reg []]) (cj h1 (cj (dne_f h2) (cj h3 (cj (bnot_t h4) (cj (bnot_t h4) (cj (bnot_t h4) (cj (bnot_t h4) (cj (bnot_t h4) True.intro)))))))) (by kernel_rfl))
theorem e2(c:ACam)(che:Int)(val:Bool)(sig:Int)(h1:Contract prg 68 [c.lift.pv] (vI che))(h2:che=0)(h3:Contract prg 48 [c.base.pv] (vB val))(h4:val=true)(h5:Contract prg 59 [c.base.pv] (vI sig))(h6:sig≤0):Contract prg 46 [c.pv] (vI 3) :=
 Contract.ofL Tryz.func46 (by kernel_rfl) (L.done mixed tabOk (n:=105) (ns:=[1,1,1,1,1,1,1,1,1,1]) (tr:=[.reg [],.reg [.none,.none,(.pv (vI che))],.reg [],.dec false,.reg [.none,.none,(.pv (vB val)),.none,.none,.none,.none,(.pv (vI sig)),.none,(.dec false)],.dec true,.reg []]) (cj h1 (cj (dne_f h2) (cj h3 (cj (bnot_f h4) (cj (bnot_f h4) (cj (bnot_f h4) (cj h5 (cj (bnot_f h4) (cj (bnot_f h4) (cj (dle_t h6) True.intro)))))))))) (by kernel_rfl))
theorem e3(c:ACam)(che:Int)(val:Bool)(sig:Int)(h1:Contract prg 68 [c.lift.pv] (vI che))(h2:che=0)(h3:Contract prg 48 [c.base.pv] (vB val))(h4:val=true)(h5:Contract prg 59 [c.base.pv] (vI sig))(h6:0<sig):Contract prg 46 [c.pv] (vI 0) :=
 Contract.ofL Tryz.func46 (by kernel_rfl) (L.done mixed tabOk (n:=108) (ns:=[1,1,1,1,1,1,1,1,1,1]) (tr:=[.reg [],.reg [.none,.none,(.pv (vI che))],.reg [],.dec false,.reg [.none,.none,(.pv (vB val)),.none,.none,.none,.none,(.pv (vI sig)),.none,(.dec false)],.dec false,.reg []]) (cj h1 (cj (dne_f h2) (cj h3 (cj (bnot_f h4) (cj (bnot_f h4) (cj (bnot_f h4) (cj h5 (cj (bnot_f h4) (cj (bnot_f h4) (cj (dle_f h6) True.intro)))))))))) (by kernel_rfl))
end linkworkref53_Check
namespace cam_Check
theorem e0(c:ACam)(val:Bool)(h1:Contract prg 114 [c.lift.pv] .nilI)(h2:Contract prg 97 [c.base.pv] (vB val))(h3:val=false):Contract prg 47 [c.pv] (.iface 94 (vI 3)) :=
 Contract.ofL Tryz.func47 (by kernel_rfl) (L.done mixed tabOk (n:=105) (ns:=[1,1,1,1,1,1,1]) (tr:=[.reg [],.reg [.none,.none,(.pv .nilI)],.reg [],.auto,.reg [.none,.none,(.pv (vB val)),.none,.none,.skip,.skip,.skip,.skip,(.dec true)],.auto,.reg []]) (cj h1 (cj h2 (cj (bnot_t h3) (cj (bnot_t h3) (cj (bnot_t h3) (cj (bnot_t h3) (cj (bnot_t h3) True.intro))))))) (by kernel_rfl))
theorem e1(c:ACam)(val:Bool)(sig:Int)(h1:Contract prg 114 [c.lift.pv] .nilI)(h2:Contract prg 97 [c.base.pv] (vB val))(h3:val=true)(h4:Contract prg 39 [c.base.pv] (vI sig))(h5:sig≤0):Contract prg 47 [c.pv] (.iface 94 (vI 3)) :=
 Contract.ofL Tryz.func47 (by kernel_rfl) (L.done mixed tabOk (n:=105) (ns:=[1,1,1,1,1,1,1,1,1]) (tr:=[.reg [],.reg [.none,.none,(.pv .nilI)],.reg [],.auto,.reg [.none,.none,(.pv (vB val)),.none,.none,.none,.none,(.pv (vI sig)),.none,(.dec false)],.dec true,.reg []]) (cj h1 (cj h2 (cj (bnot_f h3) (cj (bnot_f h3) (cj (bnot_f h3) (cj h4 (cj (bnot_f h3) (cj (bnot_f h3) (cj (dle_t h5) True.intro))))))))) (by kernel_rfl))
theorem e2(c:ACam)(val:Bool)(sig:Int)(h1:Contract prg 114 [c.lift.pv] .nilI)(h2:Contract prg 97 [c.base.pv] (vB val))(h3:val=true)(h4:Contract prg 39 [c.base.pv] (vI sig))(h5:0<sig):Contract prg 47 [c.pv] .nilI :=
 Contract.ofL Tryz.func47 (by kernel_rfl) (L.done mixed tabOk (n:=108) (ns:=[1,1,1,1,1,1,1,1,1]) (tr:=[.reg [],.reg [.none,.none,(.pv .nilI)],.reg [],.auto,.reg [.none,.none,(.pv (vB val)),.none,.none,.none,.none,(.pv (vI sig)),.none,(.dec false)],.dec false,.reg []]) (cj h1 (cj h2 (cj (bnot_f h3) (cj (bnot_f h3) (cj (bnot_f h3) (cj h4 (cj (bnot_f h3) (cj (bnot_f h3) (cj (dle_f h5) True.intro))))))))) (by kernel_rfl))
theorem e3(c:ACam)(che:Int)(h1:Contract prg 114 [c.lift.pv] (.iface 94 (vI che))):Contract prg 47 [c.pv] (.iface 94 (vI che)) :=
 Contract.ofL Tryz.func47 (by kernel_rfl) (L.done mixed tabOk (n:=90) (ns:=[1]) (tr:=[.reg [],.reg [.none,.none,(.pv (.iface 94 (vI che)))],.reg [],.auto,.reg []]) (cj h1 True.intro) (by kernel_rfl))
end cam_Check
namespace cam_Positive
theorem e0(c:ACam)(of:ARat)(all:Bool)(all1:Option Int)(h1:Contract prg 47 [c.pv] .nilI)(h2:Contract prg 73 [(vI 1)] of.pv)(h3:Contract prg 126 [c.pv,of.pv,(⟨false,[],[]⟩:ARat).pv,(vI 0)] (.tup [(vB all),(errPV all1)])):Contract prg 54 [c.pv] (.tup [(vB all),(errPV all1)]) :=
 Contract.ofL Tryz.func54 (by kernel_rfl) (L.done mixed tabOk (n:=93) (ns:=[1,1,1]) (tr:=[.reg [],.reg [.none,(.pv .nilI)],.reg [],.auto,dr 6 2 [.none,(.pv of.pv),.none,(.pv (.tup [(vB all),(errPV all1)]))]]) (cj h1 (cj h2 (cj h3 True.intro))) (by kernel_rfl))
end cam_Positive
namespace cam_Within
@[reducible] noncomputable def fn:Func:=Tryz.f55
noncomputable def atK1:List Itm:=focus [0,2,0,0,2,0,2,1,2,0,0,2,1,2,0,2,0,0,2,0,0] [.code (bodyOf fn)]
def inv1(t_33:Nat)(c:ACam)(mul1:ARat):St:=⟨[(2,(.ptr 2 0)),(7,(.ptr 7 0)),(31,(.row 31 0 2 1)),(32,(eI 2)),(33,(eI (t_33:Int)))],[(2,(.lit [(eB c.base.neg),(.pv (wordsPV c.base.num)),(.pv (wordsPV c.base.den)),(.pv (polyPV c.lift.breaks)),(.pv (lpv (lcell ARat.cells) c.lift.pieces))])),(7,(.lit [(eB mul1.neg),(.pv (wordsPV mul1.num)),(.pv (wordsPV mul1.den))])),(31,(.pure (([(-1),1]:List Int).map intCell).flatten))]⟩
@[reducible] noncomputable def Loop1(t_33:Nat)(c:ACam)(mul1:ARat)(r:PV):Prop:=L prg fn atK1 (inv1 t_33 c mul1) r
theorem e2(c:ACam)(limit:ARat)(val:Bool)(sig:Int)(of low mul mul1:ARat){r:PV}(h1:Contract prg 47 [c.pv] .nilI)(h2:Contract prg 97 [limit.pv] (vB val))(h3:val=true)(h4:Contract prg 39 [limit.pv] (vI sig))(h5:0<sig)(h6:Contract prg 73 [(vI 2)] of.pv)(h7:Contract prg 111 [] low.pv)(h8:Contract prg 85 [low.pv,limit.pv] mul.pv)(h9:Contract prg 85 [of.pv,mul.pv] mul1.pv)(hL:Loop1 0 c mul1 r):Contract prg 55 [c.pv,limit.pv] r :=
 Contract.ofL Tryz.func55 (by kernel_rfl) (L.go mixed tabOk (n:=123) (ns:=[1,1,1,1,1,1,1,1,1,1,1,1]) (tr:=[.reg [],.reg [.none,(.pv .nilI)],.reg [],.auto,.reg [.none,(.pv (vB val)),.none,.none,.none,(.pv (vI sig)),.none,(.dec false)],.dec false,dr 6 1 [(.pv of.pv),(.pv low.pv),.none,(.pv mul.pv),(.pv mul1.pv)],.reg [],.keep [2,7,31,32,33],.drop [3],.ord [2,7,31]]) (cj h1 (cj h2 (cj (bnot_f h3) (cj (bnot_f h3) (cj h4 (cj (bnot_f h3) (cj (bnot_f h3) (cj (dle_f h5) (cj h6 (cj h7 (cj h8 (cj h9 True.intro)))))))))))) (by kernel_rfl) hL)
theorem l10(t_33:Nat)(c:ACam)(mul1:ARat)(v:Int)(of:ARat)(all:Bool)(h1:t_33<2)(h2:[(-1),1][t_33]? = some v)(h3:Contract prg 73 [(vI v)] of.pv)(h4:Contract prg 126 [c.pv,mul1.pv,of.pv,(vI 1)] (.tup [(vB all),.nilI]))(h5:all=false):Loop1 t_33 c mul1 (.tup [(vB false),.nilI]) :=
 L.done mixed tabOk (n:=174) (ns:=[1,2,1,1,1,1,1,1]) (tr:=[.auto,.reg [],.dec true,.reg [(.nat t_33),(.ev (.pv (vI v)))],dr 9 1 [.none,.none,.none,(.pv of.pv),(.pv (.tup [(vB all),.nilI]))],.reg [],.dec true,.reg []]) (cj (dltN_t h1) (cj (cj (Eq.refl (((t_33:Nat):Int):Int)) h1) (cj (o_get (enc:=intCell) (f:=fun a=>(vI a)) (fun _=>rfl) h2) (cj h3 (cj h4 (cj (Eq.refl false) (cj (Eq.refl false) (cj (bnot_t h5) True.intro)))))))) (by kernel_rfl)
theorem l11(t_33:Nat)(c:ACam)(mul1:ARat)(v:Int)(of:ARat)(all:Bool){r:PV}(h1:t_33<2)(h2:[(-1),1][t_33]? = some v)(h3:Contract prg 73 [(vI v)] of.pv)(h4:Contract prg 126 [c.pv,mul1.pv,of.pv,(vI 1)] (.tup [(vB all),.nilI]))(h5:all=true)(h6:(t_33+1)<9223372036854775808)(hL:Loop1 (t_33+1) c mul1 r):Loop1 t_33 c mul1 r :=
 L.go mixed tabOk (n:=177) (ns:=[1,2,1,1,1,1,1,1,1]) (tr:=[.auto,.reg [],.dec true,.reg [(.nat t_33),(.ev (.pv (vI v)))],dr 9 1 [.none,.none,.none,(.pv of.pv),(.pv (.tup [(vB all),.nilI]))],.reg [],.dec false,.reg [(iI (((t_33+1):Nat):Int))],.keep [2,7,31,32,33]]) (cj (dltN_t h1) (cj (cj (Eq.refl (((t_33:Nat):Int):Int)) h1) (cj (o_get (enc:=intCell) (f:=fun a=>(vI a)) (fun _=>rfl) h2) (cj h3 (cj h4 (cj (Eq.refl false) (cj (Eq.refl false) (cj (bnot_f h5) (cj (bs_addN h6) True.intro))))))))) (by kernel_rfl) hL
theorem l13(t_33:Nat)(c:ACam)(mul1:ARat)(pos:Bool)(pos1:Option Int)(h1:2≤t_33)(h2:Contract prg 54 [c.pv] (.tup [(vB pos),(errPV pos1)])):Loop1 t_33 c mul1 (.tup [(vB pos),(errPV pos1)]) :=
 L.done mixed tabOk (n:=156) (ns:=[1,1]) (tr:=[.auto,.reg [],.dec false,.reg [.none,(.pv (.tup [(vB pos),(errPV pos1)]))]]) (cj (dltN_f h1) (cj h2 True.intro)) (by kernel_rfl)
end cam_Within
namespace cam_Convex
@[reducible] noncomputable def fn:Func:=Tryz.f56
noncomputable def atK1:List Itm:=focus [0,2,0,0,2,0,2,1,2,0,0,2,0,0] [.code (bodyOf fn)]
def inv1(t_18:Nat)(c:ACam)(low hig:ARat):St:=⟨[(1,(.ptr 1 0)),(16,(.row 16 0 2 3)),(17,(eI 2)),(18,(eI (t_18:Int)))],[(1,(.lit [(eB c.base.neg),(.pv (wordsPV c.base.num)),(.pv (wordsPV c.base.den)),(.pv (polyPV c.lift.breaks)),(.pv (lpv (lcell ARat.cells) c.lift.pieces))])),(16,(.pure (([low,hig]:List ARat).map ARat.cells).flatten))]⟩
@[reducible] noncomputable def Loop1(t_18:Nat)(c:ACam)(low hig:ARat)(r:PV):Prop:=L prg fn atK1 (inv1 t_18 c low hig) r
theorem e0(c:ACam)(low hig:ARat){r:PV}(h1:Contract prg 47 [c.pv] .nilI)(h2:Contract prg 111 [] low.pv)(h3:Contract prg 110 [] hig.pv)(hL:Loop1 0 c low hig r):Contract prg 56 [c.pv] r :=
 Contract.ofL Tryz.func56 (by kernel_rfl) (L.go mixed tabOk (n:=102) (ns:=[1,1,1]) (tr:=[.reg [],.reg [.none,(.pv .nilI)],.reg [],.auto,.reg [(.pv low.pv),(.pv hig.pv)],.keep [1,16,17,18],.ord [1,16]]) (cj h1 (cj h2 (cj h3 True.intro))) (by kernel_rfl) hL)
theorem l10(t_18:Nat)(c:ACam)(low hig v of squ:ARat)(all:Bool)(h1:t_18<2)(h2:[low,hig][t_18]? = some v)(h3:Contract prg 73 [(vI 1)] of.pv)(h4:Contract prg 113 [v.pv] squ.pv)(h5:Contract prg 126 [c.pv,of.pv,squ.pv,(vI 2)] (.tup [(vB all),.nilI]))(h6:all=false):Loop1 t_18 c low hig (.tup [(vB false),.nilI]) :=
 L.done mixed tabOk (n:=153) (ns:=[1,2,2,1,1,1,1,1,1]) (tr:=[.auto,.reg [],.dec true,.reg [(.nat t_18),(.seg [(vB v.neg),(wordsPV v.num),(wordsPV v.den)])],dr 9 1 [.none,(.pv of.pv),.none,(.pv squ.pv),(.pv (.tup [(vB all),.nilI]))],.reg [],.dec true,.reg []]) (cj (dltN_t h1) (cj (cj (Eq.refl (((t_18:Nat):Int):Int)) h1) (cj (o_seg sz_ARat h2) (cj h3 (cj h4 (cj h5 (cj (Eq.refl false) (cj (Eq.refl false) (cj (bnot_t h6) True.intro))))))))) (by kernel_rfl)
theorem l11(t_18:Nat)(c:ACam)(low hig v of squ:ARat)(all:Bool){r:PV}(h1:t_18<2)(h2:[low,hig][t_18]? = some v)(h3:Contract prg 73 [(vI 1)] of.pv)(h4:Contract prg 113 [v.pv] squ.pv)(h5:Contract prg 126 [c.pv,of.pv,squ.pv,(vI 2)] (.tup [(vB all),.nilI]))(h6:all=true)(h7:(t_18+1)<9223372036854775808)(hL:Loop1 (t_18+1) c low hig r):Loop1 t_18 c low hig r :=
 L.go mixed tabOk (n:=156) (ns:=[1,2,2,1,1,1,1,1,1,1]) (tr:=[.auto,.reg [],.dec true,.reg [(.nat t_18),(.seg [(vB v.neg),(wordsPV v.num),(wordsPV v.den)])],dr 9 1 [.none,(.pv of.pv),.none,(.pv squ.pv),(.pv (.tup [(vB all),.nilI]))],.reg [],.dec false,.reg [(iI (((t_18+1):Nat):Int))],.keep [1,16,17,18],.drop [6]]) (cj (dltN_t h1) (cj (cj (Eq.refl (((t_18:Nat):Int):Int)) h1) (cj (o_seg sz_ARat h2) (cj h3 (cj h4 (cj h5 (cj (Eq.refl false) (cj (Eq.refl false) (cj (bnot_f h6) (cj (bs_addN h7) True.intro)))))))))) (by kernel_rfl) hL
theorem l13(t_18:Nat)(c:ACam)(low hig:ARat)(h1:2≤t_18):Loop1 t_18 c low hig (.tup [(vB true),.nilI]) :=
 L.done mixed tabOk (n:=135) (ns:=[1]) (tr:=[.auto,.reg [],.dec false,.reg []]) (cj (dltN_f h1) True.intro) (by kernel_rfl)
end cam_Convex
namespace cam_given
theorem e1(c:ACam)(x:ARat)(val:Bool)(h1:Contract prg 47 [c.pv] .nilI)(h2:Contract prg 97 [x.pv] (vB val))(h3:val=true):Contract prg 106 [c.pv,x.pv] .nilI :=
 Contract.ofL Tryz.func106 (by kernel_rfl) (L.done mixed tabOk (n:=108) (ns:=[1,1,1]) (tr:=[.reg [],.reg [.none,(.pv .nilI)],.reg [],.auto,.reg [.none,(.pv (vB val))],.dec false,.reg []]) (cj h1 (cj h2 (cj (bnot_f h3) True.intro))) (by kernel_rfl))
end cam_given
namespace cam_derived
@[reducible] noncomputable def fn:Func:=Tryz.f108
noncomputable def atK1:List Itm:=focus [0,2,0,0,2,0,0] [.code (bodyOf fn)]
def inv1(n:Int)(t_11:Nat)(site_3:ALaw)(x:ARat):St:=⟨[(3,(.ptr 3 0)),(5,(.ptr 5 0)),(6,(.ptr 6 0)),(10,(eI n)),(11,(eI (t_11:Int)))],[(3,(.lit [(.pv (polyPV site_3.breaks)),(.pv (lpv (lcell ARat.cells) site_3.pieces))])),(5,(.lit [(eB x.neg),(.pv (wordsPV x.num)),(.pv (wordsPV x.den))])),(6,(.lit [(eB false),(.pv (.list [])),(.pv (.list []))]))]⟩
@[reducible] noncomputable def Loop1(n:Int)(t_11:Nat)(site_3:ALaw)(x:ARat)(r:PV):Prop:=L prg fn atK1 (inv1 n t_11 site_3 x) r
theorem e0 (l : ALaw) (n : Int) (x : ARat) {r : PV}  (hL : Loop1 n 0 l x r) : Contract prg 108 [l.pv, (vI n), x.pv] r :=
 Contract.ofL Tryz.func108 (by kernel_rfl) (L.go mixed tabOk (n:=81) (ns:=[]) (tr:=[.reg [],.reg [],.keep [3,5,6,10,11],.ord [3,5,6]]) True.intro (by kernel_rfl) hL)
theorem l10(n:Int)(t_11:Nat)(site_3:ALaw)(x:ARat)(der:ALaw){r:PV}(h1:(t_11:Int)<n)(h2:Contract prg 185 [site_3.pv] (.tup [der.pv,.nilI]))(h3:(t_11+1)<9223372036854775808)(hL:Loop1 n (t_11+1) der x r):Loop1 n t_11 site_3 x r :=
 L.go mixed tabOk (n:=135) (ns:=[1,1,1]) (tr:=[.auto,.reg [],.dec true,.reg [.none,(.pv (.tup [der.pv,.nilI]))],.reg [],.auto,.reg [],.reg [(iI (((t_11+1):Nat):Int))],.keep [3,5,6,10,11],.drop [8]]) (cj (dlt_t h1) (cj h2 (cj (bs_addN h3) True.intro))) (by kernel_rfl) hL
theorem l12(n:Int)(t_11:Nat)(site_3:ALaw)(x atV:ARat)(atV1:Option Int)(h1:n≤(t_11:Int))(h2:Contract prg 107 [site_3.pv,x.pv] (.tup [atV.pv,(errPV atV1)])):Loop1 n t_11 site_3 x (.tup [atV.pv,(errPV atV1)]) :=
 L.done mixed tabOk (n:=114) (ns:=[1,1]) (tr:=[.auto,.reg [],.dec false,.reg [.none,.none,(.pv (.tup [atV.pv,(errPV atV1)]))]]) (cj (dlt_f h1) (cj h2 True.intro)) (by kernel_rfl)
end cam_derived
namespace cam_high
theorem e0(rat:ARat)(h1:Contract prg 187 [(vI 355),(vI 113)] rat.pv):Contract prg 110 [] rat.pv :=
 Contract.ofL Tryz.func110 (by kernel_rfl) (L.done mixed tabOk (n:=72) (ns:=[1]) (tr:=[.reg [],.reg [(.pv rat.pv)]]) (cj h1 True.intro) (by kernel_rfl))
end cam_high
namespace cam_low
theorem e0(rat:ARat)(h1:Contract prg 187 [(vI 333),(vI 106)] rat.pv):Contract prg 111 [] rat.pv :=
 Contract.ofL Tryz.func111 (by kernel_rfl) (L.done mixed tabOk (n:=72) (ns:=[1]) (tr:=[.reg [],.reg [(.pv rat.pv)]]) (cj h1 True.intro) (by kernel_rfl))
end cam_low
namespace cam_enclose
theorem e0(a b:ARat)(poi poi1 hul:ARange)(h1:Contract prg 189 [a.pv] poi.pv)(h2:Contract prg 189 [b.pv] poi1.pv)(h3:Contract prg 188 [poi.pv,poi1.pv] hul.pv):Contract prg 112 [a.pv,b.pv] hul.pv :=
 Contract.ofL Tryz.func112 (by kernel_rfl) (L.done mixed tabOk (n:=72) (ns:=[1,1,1]) (tr:=[.reg [],dr 5 1 [.none,(.pv poi.pv),.none,(.pv poi1.pv),(.pv hul.pv)]]) (cj h1 (cj h2 (cj h3 True.intro))) (by kernel_rfl))
end cam_enclose
namespace cam_square
theorem e0(pi of of1 mul mul1 div:ARat)(div1:Option Int)(h1:Contract prg 73 [(vI 1)] of.pv)(h2:Contract prg 73 [(vI 4)] of1.pv)(h3:Contract prg 85 [pi.pv,pi.pv] mul.pv)(h4:Contract prg 85 [of1.pv,mul.pv] mul1.pv)(h5:Contract prg 109 [of.pv,mul1.pv] (.tup [div.pv,(errPV div1)])):Contract prg 113 [pi.pv] div.pv :=
 Contract.ofL Tryz.func113 (by kernel_rfl) (L.done mixed tabOk (n:=78) (ns:=[1,1,1,1,1]) (tr:=[.reg [],dr 12 1 [(.pv of.pv),(.pv of1.pv),.none,.none,(.pv mul.pv),(.pv mul1.pv),(.pv (.tup [div.pv,(errPV div1)]))],.reg []]) (cj h1 (cj h2 (cj h3 (cj h4 (cj h5 True.intro))))) (by kernel_rfl))
end cam_square
namespace cam_all
@[reducible] noncomputable def fn:Func:=Tryz.f126
noncomputable def atK1:List Itm:=focus [0,2,0,2,0,0,2,0,0] [.code (bodyOf fn)]
def inv1(n:Int)(t_22:Nat)(c:ACam)(byV f:ARat)(site_10:ALaw):St:=⟨[(4,(.ptr 4 0)),(5,(.ptr 5 0)),(6,(.ptr 6 0)),(10,(.ptr 10 0)),(21,(eI n)),(22,(eI (t_22:Int)))],[(4,(.lit [(eB c.base.neg),(.pv (wordsPV c.base.num)),(.pv (wordsPV c.base.den)),(.pv (polyPV c.lift.breaks)),(.pv (lpv (lcell ARat.cells) c.lift.pieces))])),(5,(.lit [(eB byV.neg),(.pv (wordsPV byV.num)),(.pv (wordsPV byV.den))])),(6,(.lit [(eB f.neg),(.pv (wordsPV f.num)),(.pv (wordsPV f.den))])),(10,(.lit [(.pv (polyPV site_10.breaks)),(.pv (lpv (lcell ARat.cells) site_10.pieces))]))]⟩
@[reducible] noncomputable def Loop1(n:Int)(t_22:Nat)(c:ACam)(byV f:ARat)(site_10:ALaw)(r:PV):Prop:=L prg fn atK1 (inv1 n t_22 c byV f site_10) r
noncomputable def atK2:List Itm:=focus [0,2,0,2,0,0,2,0,0,0,0,2,0,1,2,2,2,2,0,0,2,0,0] [.code (bodyOf fn)]
def inv2(c:ACam)(t_38:Nat)(byV f:ARat)(site_10:ALaw):St:=⟨[(4,(.ptr 4 0)),(5,(.ptr 5 0)),(6,(.ptr 6 0)),(10,(.ptr 10 0)),(36,(.pv (lpv (lcell ARat.cells) c.lift.pieces))),(37,(eI (c.lift.pieces.length:Int))),(38,(eI (t_38:Int)))],[(4,(.lit [(eB c.base.neg),(.pv (wordsPV c.base.num)),(.pv (wordsPV c.base.den)),(.pv (polyPV c.lift.breaks)),(.pv (lpv (lcell ARat.cells) c.lift.pieces))])),(5,(.lit [(eB byV.neg),(.pv (wordsPV byV.num)),(.pv (wordsPV byV.den))])),(6,(.lit [(eB f.neg),(.pv (wordsPV f.num)),(.pv (wordsPV f.den))])),(10,(.lit [(.pv (polyPV site_10.breaks)),(.pv (lpv (lcell ARat.cells) site_10.pieces))]))]⟩
@[reducible] noncomputable def Loop2(c:ACam)(t_38:Nat)(byV f:ARat)(site_10:ALaw)(r:PV):Prop:=L prg fn atK2 (inv2 c t_38 byV f site_10) r
theorem e0 (c : ACam) (byV f : ARat) (n : Int) {r : PV}  (hL : Loop1 n 0 c byV f c.lift r) : Contract prg 126 [c.pv, byV.pv, f.pv, (vI n)] r :=
 Contract.ofL Tryz.func126 (by kernel_rfl) (L.go mixed tabOk (n:=87) (ns:=[]) (tr:=[.reg [],.reg [],.reg [],.keep [4,5,6,10,21,22],.ord [4,5,6,10]]) True.intro (by kernel_rfl) hL)
theorem l10(n:Int)(t_22:Nat)(c:ACam)(byV f:ARat)(site_10 der:ALaw){r:PV}(h1:(t_22:Int)<n)(h2:Contract prg 185 [site_10.pv] (.tup [der.pv,.nilI]))(h3:(t_22+1)<9223372036854775808)(hL:Loop1 n (t_22+1) c byV f der r):Loop1 n t_22 c byV f site_10 r :=
 L.go mixed tabOk (n:=141) (ns:=[1,1,1]) (tr:=[.auto,.reg [],.dec true,.reg [.none,(.pv (.tup [der.pv,.nilI]))],.reg [],.auto,.reg [],.reg [(iI (((t_22+1):Nat):Int))],.keep [4,5,6,10,21,22],.drop [11]]) (cj (dlt_t h1) (cj h2 (cj (bs_addN h3) True.intro))) (by kernel_rfl) hL
theorem l12(n:Int)(t_22:Nat)(c:ACam)(byV f:ARat)(site_10:ALaw){r:PV}(h1:n≤(t_22:Int))(hL:Loop2 c 0 byV f site_10 r):Loop1 n t_22 c byV f site_10 r :=
 L.go mixed tabOk (n:=129) (ns:=[1,1]) (tr:=[.auto,.reg [],.dec false,.reg [.none,.none,.none,(iI (c.lift.pieces.length:Int))],.keep [4,5,6,10,36,37,38]]) (cj (dlt_f h1) (cj (o_len (lcell ARat.cells) c.lift.pieces) True.intro)) (by kernel_rfl) hL
theorem l20(c:ACam)(t_38:Nat)(byV f:ARat)(site_10:ALaw)(v v1 com:List ARat)(of v2 v3 sub:ARat)(pos:Bool)(h1:t_38<c.lift.pieces.length)(h2:c.lift.pieces[t_38]? = some v)(h3:site_10.pieces[t_38]? = some v1)(h4:Contract prg 198 [c.base.pv,byV.pv,(polyPV v),f.pv,(polyPV v1)] (.tup [(polyPV com),.nilI]))(h5:Contract prg 73 [(vI 1)] of.pv)(h6:(t_38+1)<9223372036854775808)(h7:(t_38+1)<c.lift.breaks.length)(h8:c.lift.breaks[(t_38+1)]? = some v2)(h9:c.lift.breaks[t_38]? = some v3)(h10:Contract prg 146 [v2.pv,v3.pv] sub.pv)(h11:Contract prg 199 [(polyPV com),sub.pv] (.tup [(vB pos),.nilI]))(h12:pos=false):Loop2 c t_38 byV f site_10 (.tup [(vB false),.nilI]) :=
 L.done mixed tabOk (n:=222) (ns:=[1,3,3,1,1,1,1,1,1,3,3,1,1,1,1,1]) (tr:=[.auto,.reg [],.dec true,.reg [.none,(.row t_38 ((lcell ARat.cells) v))],dr 15 1 [.none,.none,.none,.none,.none,.none,.none,.none,(.row t_38 ((lcell ARat.cells) v1)),.none,(.pv (.tup [(polyPV com),.nilI]))],.reg [],.auto,.reg [(.pv of.pv)],.reg [.none,(iI (((t_38+1):Nat):Int)),.none,.none,.none,(iI (c.lift.breaks.length:Int))],.dec true,.reg [.none,.none,.none,.none,(iI (((t_38+1):Nat):Int)),(.row (t_38+1) (ARat.cells v2))],dr 14 1 [.none,.none,.none,.none,.none,.none,(.row t_38 (ARat.cells v3)),.none,(.pv sub.pv),(.pv (.tup [(vB pos),.nilI]))],.reg [],.dec true,.reg []]) (cj (dltN_t h1) (cj (o_at (lcell ARat.cells) (Eq.refl (((t_38:Nat):Int):Int)) h2) (cj (o_at (lcell ARat.cells) (Eq.refl (((t_38:Nat):Int):Int)) h3) (cj h4 (cj h5 (cj (bs_addN h6) (cj (o_len ARat.cells c.lift.breaks) (cj (dltN_t h7) (cj (bs_addN h6) (cj (o_at ARat.cells (Eq.refl ((((t_38+1):Nat):Int):Int)) h8) (cj (o_at ARat.cells (Eq.refl (((t_38:Nat):Int):Int)) h9) (cj h10 (cj h11 (cj (Eq.refl false) (cj (Eq.refl false) (cj (bnot_t h12) True.intro)))))))))))))))) (by kernel_rfl)
theorem l21(c:ACam)(t_38:Nat)(byV f:ARat)(site_10:ALaw)(v v1 com:List ARat)(of v2 v3 sub:ARat)(pos:Bool){r:PV}(h1:t_38<c.lift.pieces.length)(h2:c.lift.pieces[t_38]? = some v)(h3:site_10.pieces[t_38]? = some v1)(h4:Contract prg 198 [c.base.pv,byV.pv,(polyPV v),f.pv,(polyPV v1)] (.tup [(polyPV com),.nilI]))(h5:Contract prg 73 [(vI 1)] of.pv)(h6:(t_38+1)<9223372036854775808)(h7:(t_38+1)<c.lift.breaks.length)(h8:c.lift.breaks[(t_38+1)]? = some v2)(h9:c.lift.breaks[t_38]? = some v3)(h10:Contract prg 146 [v2.pv,v3.pv] sub.pv)(h11:Contract prg 199 [(polyPV com),sub.pv] (.tup [(vB pos),.nilI]))(h12:pos=true)(hL:Loop2 c (t_38+1) byV f site_10 r):Loop2 c t_38 byV f site_10 r :=
 L.go mixed tabOk (n:=225) (ns:=[1,3,3,1,1,1,1,1,1,3,3,1,1,1,1,1,1]) (tr:=[.auto,.reg [],.dec true,.reg [.none,(.row t_38 ((lcell ARat.cells) v))],dr 15 1 [.none,.none,.none,.none,.none,.none,.none,.none,(.row t_38 ((lcell ARat.cells) v1)),.none,(.pv (.tup [(polyPV com),.nilI]))],.reg [],.auto,.reg [(.pv of.pv)],.reg [.none,(iI (((t_38+1):Nat):Int)),.none,.none,.none,(iI (c.lift.breaks.length:Int))],.dec true,.reg [.none,.none,.none,.none,(iI (((t_38+1):Nat):Int)),(.row (t_38+1) (ARat.cells v2))],dr 14 1 [.none,.none,.none,.none,.none,.none,(.row t_38 (ARat.cells v3)),.none,(.pv sub.pv),(.pv (.tup [(vB pos),.nilI]))],.reg [],.dec false,.reg [(iI (((t_38+1):Nat):Int))],.keep [4,5,6,10,36,37,38],.drop [17]]) (cj (dltN_t h1) (cj (o_at (lcell ARat.cells) (Eq.refl (((t_38:Nat):Int):Int)) h2) (cj (o_at (lcell ARat.cells) (Eq.refl (((t_38:Nat):Int):Int)) h3) (cj h4 (cj h5 (cj (bs_addN h6) (cj (o_len ARat.cells c.lift.breaks) (cj (dltN_t h7) (cj (bs_addN h6) (cj (o_at ARat.cells (Eq.refl ((((t_38+1):Nat):Int):Int)) h8) (cj (o_at ARat.cells (Eq.refl (((t_38:Nat):Int):Int)) h9) (cj h10 (cj h11 (cj (Eq.refl false) (cj (Eq.refl false) (cj (bnot_f h12) (cj (bs_addN h6) True.intro))))))))))))))))) (by kernel_rfl) hL
theorem l23(c:ACam)(t_38:Nat)(byV f:ARat)(site_10:ALaw)(v v1 com:List ARat)(of v2 sub:ARat)(pos:Bool)(h1:t_38<c.lift.pieces.length)(h2:c.lift.pieces[t_38]? = some v)(h3:site_10.pieces[t_38]? = some v1)(h4:Contract prg 198 [c.base.pv,byV.pv,(polyPV v),f.pv,(polyPV v1)] (.tup [(polyPV com),.nilI]))(h5:Contract prg 73 [(vI 1)] of.pv)(h6:(t_38+1)<9223372036854775808)(h7:c.lift.breaks.length≤(t_38+1))(h8:c.lift.breaks[t_38]? = some v2)(h9:Contract prg 146 [of.pv,v2.pv] sub.pv)(h10:Contract prg 199 [(polyPV com),sub.pv] (.tup [(vB pos),.nilI]))(h11:pos=false):Loop2 c t_38 byV f site_10 (.tup [(vB false),.nilI]) :=
 L.done mixed tabOk (n:=222) (ns:=[1,3,3,1,1,1,1,1,3,1,1,1,1,1]) (tr:=[.auto,.reg [],.dec true,.reg [.none,(.row t_38 ((lcell ARat.cells) v))],dr 15 1 [.none,.none,.none,.none,.none,.none,.none,.none,(.row t_38 ((lcell ARat.cells) v1)),.none,(.pv (.tup [(polyPV com),.nilI]))],.reg [],.auto,.reg [(.pv of.pv)],.reg [.none,(iI (((t_38+1):Nat):Int)),.none,.none,.none,(iI (c.lift.breaks.length:Int))],.dec false,dr 14 1 [.none,.none,.none,.none,.none,.none,(.row t_38 (ARat.cells v2)),.none,(.pv sub.pv),(.pv (.tup [(vB pos),.nilI]))],.reg [],.dec true,.reg []]) (cj (dltN_t h1) (cj (o_at (lcell ARat.cells) (Eq.refl (((t_38:Nat):Int):Int)) h2) (cj (o_at (lcell ARat.cells) (Eq.refl (((t_38:Nat):Int):Int)) h3) (cj h4 (cj h5 (cj (bs_addN h6) (cj (o_len ARat.cells c.lift.breaks) (cj (dltN_f h7) (cj (o_at ARat.cells (Eq.refl (((t_38:Nat):Int):Int)) h8) (cj h9 (cj h10 (cj (Eq.refl false) (cj (Eq.refl false) (cj (bnot_t h11) True.intro)))))))))))))) (by kernel_rfl)
theorem l24(c:ACam)(t_38:Nat)(byV f:ARat)(site_10:ALaw)(v v1 com:List ARat)(of v2 sub:ARat)(pos:Bool){r:PV}(h1:t_38<c.lift.pieces.length)(h2:c.lift.pieces[t_38]? = some v)(h3:site_10.pieces[t_38]? = some v1)(h4:Contract prg 198 [c.base.pv,byV.pv,(polyPV v),f.pv,(polyPV v1)] (.tup [(polyPV com),.nilI]))(h5:Contract prg 73 [(vI 1)] of.pv)(h6:(t_38+1)<9223372036854775808)(h7:c.lift.breaks.length≤(t_38+1))(h8:c.lift.breaks[t_38]? = some v2)(h9:Contract prg 146 [of.pv,v2.pv] sub.pv)(h10:Contract prg 199 [(polyPV com),sub.pv] (.tup [(vB pos),.nilI]))(h11:pos=true)(hL:Loop2 c (t_38+1) byV f site_10 r):Loop2 c t_38 byV f site_10 r :=
 L.go mixed tabOk (n:=225) (ns:=[1,3,3,1,1,1,1,1,3,1,1,1,1,1,1]) (tr:=[.auto,.reg [],.dec true,.reg [.none,(.row t_38 ((lcell ARat.cells) v))],dr 15 1 [.none,.none,.none,.none,.none,.none,.none,.none,(.row t_38 ((lcell ARat.cells) v1)),.none,(.pv (.tup [(polyPV com),.nilI]))],.reg [],.auto,.reg [(.pv of.pv)],.reg [.none,(iI (((t_38+1):Nat):Int)),.none,.none,.none,(iI (c.lift.breaks.length:Int))],.dec false,dr 14 1 [.none,.none,.none,.none,.none,.none,(.row t_38 (ARat.cells v2)),.none,(.pv sub.pv),(.pv (.tup [(vB pos),.nilI]))],.reg [],.dec false,.reg [(iI (((t_38+1):Nat):Int))],.keep [4,5,6,10,36,37,38],.drop [17]]) (cj (dltN_t h1) (cj (o_at (lcell ARat.cells) (Eq.refl (((t_38:Nat):Int):Int)) h2) (cj (o_at (lcell ARat.cells) (Eq.refl (((t_38:Nat):Int):Int)) h3) (cj h4 (cj h5 (cj (bs_addN h6) (cj (o_len ARat.cells c.lift.breaks) (cj (dltN_f h7) (cj (o_at ARat.cells (Eq.refl (((t_38:Nat):Int):Int)) h8) (cj h9 (cj h10 (cj (Eq.refl false) (cj (Eq.refl false) (cj (bnot_f h11) (cj (bs_addN h6) True.intro))))))))))))))) (by kernel_rfl) hL
theorem l27(c:ACam)(t_38:Nat)(byV f:ARat)(site_10:ALaw)(h1:c.lift.pieces.length≤t_38):Loop2 c t_38 byV f site_10 (.tup [(vB true),.nilI]) :=
 L.done mixed tabOk (n:=162) (ns:=[1]) (tr:=[.auto,.reg [],.dec false,.reg []]) (cj (dltN_f h1) True.intro) (by kernel_rfl)
end cam_all
namespace cam_ratio
theorem e0(n d:Int)(mak:ARat)(mak1:Option Int)(h1:Contract prg 215 [(vI n),(vI d)] (.tup [mak.pv,(errPV mak1)])):Contract prg 187 [(vI n),(vI d)] mak.pv :=
 Contract.ofL Tryz.func187 (by kernel_rfl) (L.done mixed tabOk (n:=78) (ns:=[1]) (tr:=[.reg [],.reg [.none,.none,(.pv (.tup [mak.pv,(errPV mak1)]))],.reg []]) (cj h1 True.intro) (by kernel_rfl))
end cam_ratio
namespace cam_combined
theorem e0(base byV:ARat)(p:List ARat)(f:ARat)(q tri add sca sca2 add2:List ARat)(add3:Option Int)(h1:Contract prg 148 [(polyPV [base])] (polyPV tri))(h2:Contract prg 33 [(polyPV tri),(polyPV p)] (.tup [(polyPV add),.nilI]))(h3:Contract prg 72 [(polyPV add),byV.pv] (.tup [(polyPV sca),.nilI]))(h4:Contract prg 72 [(polyPV q),f.pv] (.tup [(polyPV sca2),.nilI]))(h5:Contract prg 33 [(polyPV sca),(polyPV sca2)] (.tup [(polyPV add2),(errPV add3)])):Contract prg 198 [base.pv,byV.pv,(polyPV p),f.pv,(polyPV q)] (.tup [(polyPV add2),(errPV add3)]) :=
 Contract.ofL Tryz.func198 (by kernel_rfl) (L.done mixed tabOk (n:=135) (ns:=[3,1,1,1,1,1]) (tr:=[.reg [],.reg [.none,(.slc 0 0 (([base]:List ARat).map ARat.cells)),(.pv (polyPV tri)),.none,(.pv (.tup [(polyPV add),.nilI]))],.reg [],.auto,.reg [.none,.none,(.pv (.tup [(polyPV sca),.nilI]))],.reg [],.auto,.reg [.none,.none,(.pv (.tup [(polyPV sca2),.nilI]))],.reg [],.auto,.reg [.none,.none,(.pv (.tup [(polyPV add2),(errPV add3)]))]]) (cj (o_bs sz_ARat ([base]:List ARat)) (cj h1 (cj h2 (cj h3 (cj h4 (cj h5 True.intro)))))) (by kernel_rfl))
end cam_combined
namespace cam_positive
theorem e0(q:List ARat)(length eva:ARat)(sig:Int)(h1:Contract prg 27 [(polyPV q),(⟨false,[],[]⟩:ARat).pv] (.tup [eva.pv,.nilI]))(h2:Contract prg 39 [eva.pv] (vI sig))(h3:sig≤0):Contract prg 199 [(polyPV q),length.pv] (.tup [(vB false),.nilI]) :=
 Contract.ofL Tryz.func199 (by kernel_rfl) (L.done mixed tabOk (n:=90) (ns:=[1,1,1,1,1,1]) (tr:=[.reg [],.reg [.none,.none,(.pv (.tup [eva.pv,.nilI]))],.reg [.none,.none,.none,.none,(.pv (vI sig))],.dec true,.reg []]) (cj h1 (cj (Eq.refl false) (cj (Eq.refl false) (cj h2 (cj (Eq.refl false) (cj (dle_t h3) True.intro)))))) (by kernel_rfl))
theorem e1(q:List ARat)(length eva:ARat)(sig cou:Int)(h1:Contract prg 27 [(polyPV q),(⟨false,[],[]⟩:ARat).pv] (.tup [eva.pv,.nilI]))(h2:Contract prg 39 [eva.pv] (vI sig))(h3:0<sig)(h4:Contract prg 159 [(polyPV q),(⟨false,[],[]⟩:ARat).pv,length.pv] (.tup [(vI cou),.nilI])):Contract prg 199 [(polyPV q),length.pv] (.tup [(vB (cou==0)),.nilI]) :=
 Contract.ofL Tryz.func199 (by kernel_rfl) (L.done mixed tabOk (n:=99) (ns:=[1,1,1,1,1,1,1,1,1]) (tr:=[.reg [],.reg [.none,.none,(.pv (.tup [eva.pv,.nilI]))],.reg [.none,.none,.none,.none,(.pv (vI sig))],.dec false,.reg [.none,.none,.none,(.pv (.tup [(vI cou),.nilI]))],.reg []]) (cj h1 (cj (Eq.refl false) (cj (Eq.refl false) (cj h2 (cj (Eq.refl false) (cj (dle_f h3) (cj h4 (cj (Eq.refl true) (cj (Eq.refl true) True.intro))))))))) (by kernel_rfl))
end cam_positive
end Go.Proofs.YtbgkjomonebfcaaGreat.Sym.Path
namespace Go.Proofs.YtbgkjomonebfcaaGreat.Sym
open Go Path CInt
set_option linter.unusedVariables false
def chkCam(c:ACam):Int:=if chkLaw c.lift=0 then (if c.base.valid=true∧0<c.base.val then 0 else 3) else chkLaw c.lift
structure GCam (c:ACam):Prop where
 law:chkLaw c.lift=0
 bv:c.base.valid=true
 b0:0<c.base.val
 fb:ht c.base.val≤4
 fl:FitW 1 c.lift
 len:∀p∈c.lift.pieces,p.length≤6
theorem gcam_chk{c:ACam}(g:GCam c):chkCam c=0:=by unfold chkCam;rw[if_pos g.law,if_pos ⟨g.bv,g.b0⟩]
theorem chkCam_zero{c:ACam}(h:chkCam c=0):chkLaw c.lift=0∧c.base.valid=true∧0<c.base.val:=by
 unfold chkCam at h
 by_cases h1:chkLaw c.lift=0
 ·rw[if_pos h1] at h
  by_cases h2:c.base.valid=true∧0<c.base.val
  ·exact⟨h1,h2⟩
  ·rw[if_neg h2] at h;cases h
 ·rw[if_neg h1] at h;exact absurd h h1
def piLo:Rat:=Rat.divInt 333 106
def piHi:Rat:=Rat.divInt 355 113
def radC(c:ACam)(x:Rat):Rat:=c.base.val+atW c.lift x
def sqP(pi:Rat):Rat:=1/(4*(pi*pi))
def combL(base byV:Rat)(p:List Rat)(f:Rat)(q:List Rat):List Rat:=trimL (addL (smulL byV (addL [base] p)) (smulL f q))
def posB(p:List Rat)(len:Rat):Bool:=decide (0<coef p 0)&&decide (chg (chainL p) 0-chg (chainL p) len=0)
def allF(c:ACam)(byV f:Rat)(d:ALaw):Nat→Nat→Bool
 |0,_=>true
 |j+1,t=>bif posB (combL c.base.val byV (pcW c.lift t) f (pcW d t)) (lenW c.lift t) then allF c byV f d j (t+1) else false
def allC(c:ACam)(byV f:Rat)(d:ALaw):Bool:=allF c byV f d c.lift.pieces.length 0
def tanP(c:ACam)(x pi:Rat):Rat:=atW (deriveW c.lift) x/(2*radC c x*pi)
def curP(c:ACam)(x pi:Rat):Rat:=radC c x+atW (deriveW (deriveW c.lift)) x*sqP pi
def posC(c:ACam):Bool:=allC c 1 0 c.lift
def byW(limit:Rat):Rat:=2*(piLo*limit)
def withC(c:ACam)(limit:Rat):Bool:=allC c (byW limit) (-1) (deriveW c.lift)&&(allC c (byW limit) 1 (deriveW c.lift)&&posC c)
def convC(c:ACam):Bool:=allC c 1 (sqP piLo) (deriveW (deriveW c.lift))&&allC c 1 (sqP piHi) (deriveW (deriveW c.lift))
theorem coef_eval0:∀p:List Rat,coef p 0=evalL p 0
 |[]=>rfl
 |a::r=>by show a=evalL r 0*0+a;grind
theorem posB_iff{p:List Rat}(hz:lastZ p=false){len:Rat}(hl:0≤len):posB p len=true↔Pos p 0 len:=by
 unfold posB
 rw[Bool.and_eq_true,decide_eq_true_eq,decide_eq_true_eq,coef_eval0]
 by_cases h0:p=[]
 ·subst h0
  constructor
  ·intro⟨h,_⟩;exact absurd h Rat.lt_irrefl
  ·intro⟨c,c1,c2⟩
   have:=c2 0 Rat.le_refl hl
   have e:evalL [] 0=0:=rfl
   rw[e] at this
   grind
 ·rw[←pos_iff hz h0 hl]
  constructor
  ·intro⟨a,b⟩;exact⟨a,by omega⟩
  ·intro⟨a,b⟩;exact⟨a,by omega⟩
theorem combL_len(base byV:Rat)(p:List Rat)(f:Rat)(q:List Rat){n:Nat}(hn:1≤n)(hp:p.length≤n)(hq:q.length≤n):(combL base byV p f q).length≤n:=by
 unfold combL
 have:=len_trimL (addL (smulL byV (addL [base] p)) (smulL f q))
 rw[len_addL,len_smulL,len_addL,len_smulL] at this
 simp only[List.length_cons,List.length_nil] at this
 omega
theorem combL_fl{base byV f:Rat}{p q:List Rat}{a b k m n:Nat}(hb:ht base≤a)(hby:ht byV≤k)(hf:ht f≤m)(hp:Fl b p)(hq:Fl n q)(ha:1≤a)(h1:1≤b)(hn:1≤n):Fl (k+(a+b+1)+(m+n)+1) (combL base byV p f q):=by
 have h2:Fl (a+b+1) (addL [base] p):=fl_addL (fun x hx=>by rw[List.mem_singleton.1 hx];exact hb) hp ha h1
 have h3:Fl (k+(a+b+1)) (smulL byV (addL [base] p)):=fl_mono (fl_smulL h2) (by omega)
 have h4:Fl (m+n) (smulL f q):=fl_mono (fl_smulL hq) (by omega)
 exact fl_trimL (fl_addL h3 h4 (by omega) (by omega))
theorem combL_eval(base byV:Rat)(p:List Rat)(f:Rat)(q:List Rat)(x:Rat):evalL (combL base byV p f q) x=byV*(base+evalL p x)+f*evalL q x:=by
 unfold combL
 rw[evalL_trimL,evalL_addL,evalL_smulL,evalL_smulL,evalL_addL,eval_c]
theorem fine_of{p:List Rat}(hz:lastZ p=false)(h0:p≠[])(hl:p.length≤6)(hf:Fl 24 p):Fine 145 6 p:=by
 have h1:=Ch.of_fl hf
 have h2:p.length*24≤6*24:=Nat.mul_le_mul_right _ hl
 exact⟨hz,h0,hl,h1.mono (by omega),by omega,by omega,by decide⟩
theorem posB_neg{p:List Rat}{len:Rat}(h:¬0<coef p 0):posB p len=false:=by unfold posB;rw[decide_eq_false h];rfl
theorem posB_pos{p:List Rat}{len:Rat}(h:0<coef p 0):posB p len=((chg (chainL p) 0-chg (chainL p) len)==0):=by unfold posB;rw[decide_eq_true h,Bool.true_and];rfl
theorem pc_len6{c:ACam}(g:GCam c)(t:Nat):(pcW c.lift t).length≤6:=by
 unfold pcW
 cases h:c.lift.pieces[t]? with
 |some p=>have:=g.len p (List.mem_of_getElem? h);show(vals p).length≤6;unfold vals;rw[List.length_map];exact this
 |none=>simp
theorem pc_trim{l:ALaw}(g:Good l)(t:Nat):lastZ (pcW l t)=false:=by
 unfold pcW
 cases h:l.pieces[t]? with
 |some p=>exact chk_last (g.ps p (List.mem_of_getElem? h)).1
 |none=>rfl
structure GDer (c:ACam) (d:ALaw):Prop where
 good:chkLaw d=0
 fit:FitW 5 d
 pcs:d.pieces.length=c.lift.pieces.length
 len:∀t,(pcW d t).length≤6
theorem gder0{c:ACam}(g:GCam c):GDer c c.lift:=⟨g.law,⟨fun a ha=>⟨by have:=(g.fl.1 a ha).1;omega,by have:=(g.fl.1 a ha).2;omega⟩,fun p hp a ha=>⟨by have:=(g.fl.2 p hp a ha).1;omega,by have:=(g.fl.2 p hp a ha).2;omega⟩⟩,rfl,pc_len6 g⟩
theorem deriveW_len(l:ALaw):(deriveW l).pieces.length=l.pieces.length:=by unfold deriveW;simp
theorem gder1{c:ACam}(g:GCam c):GDer c (deriveW c.lift):=by
 have f:=fitW_derive (good_of g.law) (by omega) g.fl
 refine⟨chk_derive g.law,⟨fun a ha=>⟨by have:=(f.1 a ha).1;omega,by have:=(f.1 a ha).2;omega⟩,fun p hp a ha=>⟨by have:=(f.2 p hp a ha).1;omega,by have:=(f.2 p hp a ha).2;omega⟩⟩,deriveW_len _,fun t => ?_⟩
 rw[deriveW_pc]
 have:=len_deriveL (pcW c.lift t)
 have:=pc_len6 g t
 omega
theorem gder2{c:ACam}(g:GCam c):GDer c (deriveW (deriveW c.lift)):=by
 have h1:=gder1 g
 have f:=fitW_derive (good_of h1.good) (by omega) (fitW_derive (good_of g.law) (by omega) g.fl)
 refine⟨chk_derive h1.good,f,by rw[deriveW_len,deriveW_len],fun t => ?_⟩
 rw[deriveW_pc]
 have:=len_deriveL (pcW (deriveW c.lift) t)
 have:=h1.len t
 omega
theorem fitW_up{l:ALaw}{k m:Nat}(h:FitW k l)(hk:k≤m):FitW m l :=
 ⟨fun a ha=>⟨by have:=(h.1 a ha).1;omega,by have:=(h.1 a ha).2;omega⟩,fun p hp a ha=>⟨by have:=(h.2 p hp a ha).1;omega,by have:=(h.2 p hp a ha).2;omega⟩⟩
theorem base_mk{c:ACam}(g:GCam c):c.base=mkR c.base.val:=(mkR_of g.bv).symm
theorem ht_atD{l:ALaw}{x:Rat}(g:Good l)(hf:FitW 5 l)(hx:ht x≤4):ht (atW l x)≤2000:=by
 rw[atW_eq]
 have b1:=ht_frac hx
 have b2:=ht_brkW hf (by omega) (pieceL (vals l.breaks) (frac x))
 have b3:=ht_sub (frac x) (brkW l (pieceL (vals l.breaks) (frac x)))
 have b4:=ht_eval (pcW l (pieceL (vals l.breaks) (frac x))) (frac x-brkW l (pieceL (vals l.breaks) (frac x))) 20 (fun y hy=>Nat.le_trans (fl_pcW hf (by omega) _ y hy) (by omega)) (by omega)
 have b5:(pcW l (pieceL (vals l.breaks) (frac x))).length*(2*20+1)≤9*41:=Nat.mul_le_mul_right _ (pcW_len g _)
 omega
namespace CCa
theorem Check(c:ACam)(hf:FitW 1073741824 c.lift)(hb:c.base.num.length≤68719476736∧c.base.den.length≤68719476736):Contract prg 47 [c.pv] (errPV (errOf (chkCam c))):=by
 have hk:=CLw.Check c.lift hf
 unfold chkCam
 by_cases h:chkLaw c.lift=0
 ·rw[if_pos h]
  rw[h] at hk
  have hv:=CFr.Valid c.base ⟨by omega,by omega⟩
  have hs:=CFr.Sign c.base ⟨by omega,by omega⟩
  cases hvb:c.base.valid with
  |false =>
   rw[if_neg (by intro e;cases e.1)]
   exact cam_Check.e0 c _ hk hv hvb
  |true =>
   by_cases h0:0<c.base.val
   ·rw[if_pos ⟨rfl,h0⟩]
    exact cam_Check.e2 c _ _ hk hv hvb hs (cmpR_gt.2 h0)
   ·rw[if_neg (by intro e;exact h0 e.2)]
    exact cam_Check.e1 c _ _ hk hv hvb hs (cmpR_le.2 (by grind))
 ·rw[if_neg h]
  rw[errOf_ne h] at hk ⊢
  exact cam_Check.e3 c _ hk
theorem check{c:ACam}(g:GCam c):Contract prg 47 [c.pv] .nilI:=by
 have hb:=fit_mkRk g.fb
 rw[←base_mk g] at hb
 have:=Check c (fitW_up g.fl (by omega)) (by omega)
 rwa[gcam_chk g] at this
theorem low:Contract prg 111 [] (mkR piLo).pv:=cam_low.e0 _ (cam_ratio.e0 _ _ _ none (QF.Make 333 106 (by unfold InI64;omega) (by unfold InI64;omega) (by omega)))
theorem high:Contract prg 110 [] (mkR piHi).pv:=cam_high.e0 _ (cam_ratio.e0 _ _ _ none (QF.Make 355 113 (by unfold InI64;omega) (by unfold InI64;omega) (by omega)))
theorem Radius{c:ACam}(g:GCam c)(x:Rat)(hx:ht x≤4):Contract prg 43 [c.pv,(mkR x).pv] (.tup [(mkR (radC c x)).pv,.nilI]):=by
 have hx':=fit_mkRk hx
 have hg:=cam_given.e1 c (mkR x) _ (check g) (QF.Valid x (by omega)) rfl
 have ha:=CLw.At c.lift (mkR x) g.law (fitW_up g.fl (by omega)) (mkR_valid x) (by omega)
 rw[mkR_val] at ha
 have hh:=ht_atD (good_of g.law) (fitW_up g.fl (by omega)) hx
 have hfb:=g.fb
 have hadd:=QF.Add c.base.val (atW c.lift x) (by omega) (by omega)
 rw[←base_mk g] at hadd
 exact cam_Radius.e0 c _ _ _ hg ha hadd
theorem ht_rad{c:ACam}(g:GCam c){x:Rat}(hx:ht x≤4):ht (radC c x)≤2005:=by
 have hh:=ht_atD (good_of g.law) (fitW_up g.fl (by omega)) hx
 have hfb:=g.fb
 have:=ht_add c.base.val (atW c.lift x)
 unfold radC;omega
theorem derived1{c:ACam}(g:GCam c)(x:Rat)(hx:ht x≤4):Contract prg 108 [c.lift.pv,vI 1,(mkR x).pv] (.tup [(mkR (atW (deriveW c.lift) x)).pv,.nilI]):=by
 have hx':=fit_mkRk hx
 have h1:=gder1 g
 have hd:=CLw.Derive c.lift g.law (fitW_up g.fl (by omega))
 have ha:=CLw.At (deriveW c.lift) (mkR x) h1.good (fitW_up h1.fit (by omega)) (mkR_valid x) (by omega)
 rw[mkR_val] at ha
 exact cam_derived.e0 _ _ _ (cam_derived.l10 1 0 _ _ _ (by omega) hd (by omega) (cam_derived.l12 1 1 _ _ _ none (by omega) ha))
theorem derived2{c:ACam}(g:GCam c)(x:Rat)(hx:ht x≤4):Contract prg 108 [c.lift.pv,vI 2,(mkR x).pv] (.tup [(mkR (atW (deriveW (deriveW c.lift)) x)).pv,.nilI]):=by
 have hx':=fit_mkRk hx
 have h1:=gder1 g
 have h2:=gder2 g
 have hd:=CLw.Derive c.lift g.law (fitW_up g.fl (by omega))
 have hd2:=CLw.Derive (deriveW c.lift) h1.good (fitW_up h1.fit (by omega))
 have ha:=CLw.At (deriveW (deriveW c.lift)) (mkR x) h2.good (fitW_up h2.fit (by omega)) (mkR_valid x) (by omega)
 rw[mkR_val] at ha
 exact cam_derived.e0 _ _ _ (cam_derived.l10 2 0 _ _ _ (by omega) hd (by omega) (cam_derived.l10 2 1 _ _ _ (by omega) hd2 (by omega) (cam_derived.l12 2 2 _ _ _ none (by omega) ha)))
theorem enclose(a b:Rat)(ha:ht a≤68719476736)(hb:ht b≤68719476736):Contract prg 112 [(mkR a).pv,(mkR b).pv] (mkG (minR a b) (maxR a b)).pv:=by
 have h:=CIv.Hull (mkG a a) (mkG b b) (fit_mkG ha ha) (fit_mkG hb hb)
 rw[loG_mk Rat.le_refl,loG_mk Rat.le_refl,hiG_mk Rat.le_refl,hiG_mk Rat.le_refl] at h
 exact cam_enclose.e0 _ _ _ _ _ (CIv.Point a ha) (CIv.Point b hb) h
theorem square(pi:Rat)(hp:ht pi≤4)(h0:pi≠0):Contract prg 113 [(mkR pi).pv] (mkR (sqP pi)).pv:=by
 have z1:ht ((1:Int):Rat)≤1:=by decide
 have z4:ht ((4:Int):Rat)≤1:=by decide
 have m1:=ht_mul pi pi
 have m2:=ht_mul ((4:Int):Rat) (pi*pi)
 have hne:((4:Int):Rat)*(pi*pi)≠0:=by
  intro e
  rcases Rat.mul_eq_zero.1 e with e|e
  ·exact absurd e (by decide)
  ·rcases Rat.mul_eq_zero.1 e with e|e<;>exact h0 e
 exact cam_square.e0 _ _ _ _ _ _ none (CFr.Of 1 (by unfold InI64;omega)) (CFr.Of 4 (by unfold InI64;omega)) (QF.Mul pi pi (by omega) (by omega)) (QF.Mul _ _ (by omega) (by omega)) (QF.Div _ _ (by omega) (by omega) hne)
theorem Pressure{c:ACam}(g:GCam c)(x:Rat)(hx:ht x≤4)(h:0<radC c x):Contract prg 44 [c.pv,(mkR x).pv] (.tup [(mkG (minR (tanP c x piHi) (tanP c x piLo)) (maxR (tanP c x piHi) (tanP c x piLo))).pv,.nilI]):=by
 have hr:=ht_rad g hx
 have hd:=ht_atD (good_of (gder1 g).good) (gder1 g).fit hx
 have z2:ht ((2:Int):Rat)≤1:=by decide
 have p1:ht piHi≤1:=by decide
 have p2:ht piLo≤1:=by decide
 have m0:=ht_mul ((2:Int):Rat) (radC c x)
 have m1:=ht_mul (((2:Int):Rat)*radC c x) piHi
 have m2:=ht_mul (((2:Int):Rat)*radC c x) piLo
 have n0:((2:Int):Rat)*radC c x≠0:=by
  intro e
  rcases Rat.mul_eq_zero.1 e with e|e
  ·exact absurd e (by decide)
  ·rw[e] at h;exact absurd h Rat.lt_irrefl
 have n1:((2:Int):Rat)*radC c x*piHi≠0:=by
  intro e
  rcases Rat.mul_eq_zero.1 e with e|e
  ·exact n0 e
  ·exact absurd e (by decide)
 have n2:((2:Int):Rat)*radC c x*piLo≠0:=by
  intro e
  rcases Rat.mul_eq_zero.1 e with e|e
  ·exact n0 e
  ·exact absurd e (by decide)
 have d1:=ht_div (atW (deriveW c.lift) x) (((2:Int):Rat)*radC c x*piHi)
 have d2:=ht_div (atW (deriveW c.lift) x) (((2:Int):Rat)*radC c x*piLo)
 exact cam_Pressure.e1 c _ _ _ _ _ _ _ _ _ _ _ _ _ (Radius g x hx) (QF.Sign _ (by omega)) (cmpR_gt.2 h) (derived1 g x hx) (CFr.Of 2 (by unfold InI64;omega)) (QF.Mul _ _ (by omega) (by omega)) high (QF.Mul _ _ (by omega) (by omega)) (QF.Div _ _ (by omega) (by omega) n1) low (QF.Mul _ _ (by omega) (by omega)) (QF.Div _ _ (by omega) (by omega) n2) (enclose _ _ (by omega) (by omega))
theorem Curvature{c:ACam}(g:GCam c)(x:Rat)(hx:ht x≤4):Contract prg 45 [c.pv,(mkR x).pv] (.tup [(mkG (minR (curP c x piHi) (curP c x piLo)) (maxR (curP c x piHi) (curP c x piLo))).pv,.nilI]):=by
 have hr:=ht_rad g hx
 have hd:=ht_atD (good_of (gder2 g).good) (gder2 g).fit hx
 have s1:ht (sqP piHi)≤1:=by decide +kernel
 have s2:ht (sqP piLo)≤1:=by decide +kernel
 have m1:=ht_mul (atW (deriveW (deriveW c.lift)) x) (sqP piHi)
 have m2:=ht_mul (atW (deriveW (deriveW c.lift)) x) (sqP piLo)
 have a1:=ht_add (radC c x) (atW (deriveW (deriveW c.lift)) x*sqP piHi)
 have a2:=ht_add (radC c x) (atW (deriveW (deriveW c.lift)) x*sqP piLo)
 exact cam_Curvature.e0 c _ _ _ _ _ _ _ _ _ _ _ _ (Radius g x hx) (derived2 g x hx) high (square piHi (by decide) (by decide)) (QF.Mul _ _ (by omega) (by omega)) (QF.Add _ _ (by omega) (by omega)) low (square piLo (by decide) (by decide)) (QF.Mul _ _ (by omega) (by omega)) (QF.Add _ _ (by omega) (by omega)) (enclose _ _ (by omega) (by omega))
theorem AddQ{a b:Nat}(p q:List Rat)(zp:lastZ p=false)(zq:lastZ q=false)(lp:p.length≤65)(lq:q.length≤65)(hp:Fl a p)(hq:Fl b q)(ha:1≤a)(hb:1≤b)(hk:a+b+2≤68719476736):Contract prg 33 [pq p,pq q] (.tup [pq (trimL (addL p q)),.nilI]):=by
 have hck:=CPl.checks2 (p.map mkR) (q.map mkR) (fitQ hp (by omega)) (fitQ hq (by omega))
 rw[chk2_zero (chk_map zp lp) (chk_map zq lq)] at hck
 have h:=CPl.plus (d:=1) p q ((1:Int):Rat) (by omega) (by omega) hp hq (by decide) ha hb (by omega)
 rw[show ((1:Int):Rat)=1 from rfl,smulL_one] at h
 exact poly_Add.e0 _ _ _ _ hck (CFr.Of 1 (by unfold InI64;omega)) h
theorem ScaleQ{a d:Nat}(p:List Rat)(c:Rat)(zp:lastZ p=false)(lp:p.length≤65)(hp:Fl a p)(hc:ht c≤d)(ha:1≤a)(hk:a+d+2≤68719476736):Contract prg 72 [pq p,(mkR c).pv] (.tup [pq (trimL (smulL c p)),.nilI]):=by
 have hck:=CPo.Check (p.map mkR) (fitQ hp (by omega))
 rw[chk_map zp lp] at hck
 exact poly_Scale.e0 _ _ _ hck (CPl.plus (a:=1) (d:=d) [] p c (by simp) (by omega) (fun x hx=>by cases hx) hp hc (by omega) ha (by omega))
theorem comb_same(base byV:Rat)(p:List Rat)(f:Rat)(q:List Rat):trimL (addL (trimL (smulL byV (trimL (addL (trimL [base]) p)))) (trimL (smulL f q)))=combL base byV p f q :=
 eval_ext (fun x=>by simp only[evalL_addL,evalL_trimL,evalL_smulL])
theorem combined{base byV f:Rat}{p q:List Rat}(zp:lastZ p=false)(zq:lastZ q=false)(lp:p.length≤9)(lq:q.length≤9)(hb:ht base≤20)(hby:ht byV≤20)(hf:ht f≤20)(hp:Fl 20 p)(hq:Fl 20 q):Contract prg 198 [(mkR base).pv,(mkR byV).pv,pq p,(mkR f).pv,pq q] (.tup [pq (combL base byV p f q),.nilI]):=by
 have hb1:Fl 20 [base]:=fun x hx=>by rw[List.mem_singleton.1 hx];exact hb
 have t1:=CPl.Trim [base] (by simp) hb1 (by omega)
 have l1:=len_trimL [base]
 simp only[List.length_cons,List.length_nil] at l1
 have h2:Fl 41 (addL (trimL [base]) p):=fl_addL (fl_trimL hb1) hp (by omega) (by omega)
 have a1:=AddQ (trimL [base]) p (lastZ_trimL _) zp (by omega) (by omega) (fl_trimL hb1) hp (by omega) (by omega) (by omega)
 have l2:=len_trimL (addL (trimL [base]) p)
 rw[len_addL] at l2
 have s1:=ScaleQ (trimL (addL (trimL [base]) p)) byV (lastZ_trimL _) (by omega) (fl_trimL h2) hby (by omega) (by omega)
 have h3:Fl 61 (smulL byV (trimL (addL (trimL [base]) p))):=fl_mono (fl_smulL (fl_trimL h2)) (by omega)
 have s2:=ScaleQ q f zq (by omega) hq hf (by omega) (by omega)
 have h4:Fl 40 (smulL f q):=fl_mono (fl_smulL hq) (by omega)
 have l3:=len_trimL (smulL byV (trimL (addL (trimL [base]) p)))
 rw[len_smulL] at l3
 have l4:=len_trimL (smulL f q)
 rw[len_smulL] at l4
 have a2:=AddQ (trimL (smulL byV (trimL (addL (trimL [base]) p)))) (trimL (smulL f q)) (lastZ_trimL _) (lastZ_trimL _) (by omega) (by omega) (fl_trimL h3) (fl_trimL h4) (by omega) (by omega) (by omega)
 rw[comb_same] at a2
 exact cam_combined.e0 _ _ _ _ _ _ _ _ _ _ none t1 a1 s1 s2 a2
theorem positive{p:List Rat}(hz:lastZ p=false)(hl:p.length≤6)(hf:Fl 24 p)(len:Rat)(h0:0≤len)(hh:ht len≤100):Contract prg 199 [pq p,(mkR len).pv] (.tup [vB (posB p len),.nilI]):=by
 have hev:=CPo.Eval (p.map mkR) (mkR 0) (chk_map hz (by omega)) (fit_mapk (fl_mono hf (by omega))) (by constructor<;>decide)
 rw[vals_mkR,mkR_val,←coef_eval0] at hev
 have hs:=QF.Sign (coef p 0) (by have:=fl_coef hf (by omega) 0;omega)
 by_cases h:0<coef p 0
 ·have hne:p≠[]:=by intro e;rw[e] at h;exact absurd h Rat.lt_irrefl
  have hc:=CSt.Count (fine_of hz hne hl hf) 0 len h0 (by decide) (by omega)
  rw[posB_pos h]
  exact cam_positive.e1 _ _ _ _ _ hev hs (cmpR_gt.2 h) hc
 ·rw[posB_neg h]
  exact cam_positive.e0 _ _ _ _ hev hs (cmpR_le.2 (by grind))
theorem all2{c:ACam}(g:GCam c){byV f:Rat}(hby:ht byV≤7)(hf:ht f≤4){d:ALaw}(hd:GDer c d):cam_all.Loop2 c 0 (mkR byV) (mkR f) d (.tup [vB (allC c byV f d),.nilI]):=by
 have gl:=good_of g.law
 have gd:=good_of hd.good
 have hlen:=gl.len
 have hle:=gl.le
 have hdp:=hd.pcs
 have loop:∀(j t:Nat),c.lift.pieces.length-t=j→cam_all.Loop2 c t (mkR byV) (mkR f) d (.tup [vB (allF c byV f d j t),.nilI]):=by
  intro j
  induction j with
  |zero=>intro t hj;exact cam_all.l27 c t _ _ _ (by omega)
  |succ j ih =>
   intro t hj
   have ht:t<c.lift.pieces.length:=by omega
   obtain⟨b,p,hb,hp,eb,ep,hcp,h9⟩:=gl.at ht
   obtain⟨b',p',hb',hp',eb',ep',hcp',h9'⟩:=gd.at (t:=t) (by omega)
   rw[ep] at hp
   rw[ep'] at hp'
   rw[eb] at hb
   have l1:=pc_len6 g t
   have l2:=hd.len t
   have f1:=fl_pcW g.fl (by omega) t
   have f2:=fl_pcW hd.fit (by omega) t
   have hfb:=g.fb
   have hcomb:=combined (base:=c.base.val) (pc_trim gl t) (pc_trim gd t) (by omega) (by omega) (by omega) (show Sym.ht byV≤20 by omega) (show Sym.ht f≤20 by omega) (fl_mono f1 (by omega)) (fl_mono f2 (by omega))
   rw[←base_mk g] at hcomb
   have hcl:=combL_len c.base.val byV (pcW c.lift t) f (pcW d t) (n:=6) (by omega) l1 l2
   have hcf:=combL_fl (base:=c.base.val) g.fb hby hf f1 f2 (by omega) (by omega) (by omega)
   have hlp:=lenW_pos gl (t:=t) (by omega)
   have hlh:=ht_lenW g.fl (by omega) t
   have hpo:=positive (p:=combL c.base.val byV (pcW c.lift t) f (pcW d t)) (lastZ_trimL _) hcl (fl_mono hcf (by omega)) (lenW c.lift t) (Rat.le_of_lt hlp) (by omega)
   have e1:=ht_endW g.fl (by omega) t
   have e2:=ht_brkW g.fl (by omega) t
   have hone:=CFr.Of 1 (by unfold InI64;omega)
   have hsub:=QF.Sub (endW c.lift t) (brkW c.lift t) (by omega) (by omega)
   rw[allF]
   by_cases hn:t+1<c.lift.breaks.length
   ·obtain⟨v,hv⟩:∃v,c.lift.breaks[t+1]? = some v:=⟨_,List.getElem?_eq_getElem hn⟩
    have ev:v=mkR (endW c.lift t):=by
     unfold endW
     rw[hv,mkR_of (List.all_eq_true.1 gl.valid v (List.mem_of_getElem? hv))]
    rw[ev] at hv
    cases hb:posB (combL c.base.val byV (pcW c.lift t) f (pcW d t)) (lenW c.lift t) with
    |false=>exact cam_all.l20 c t _ _ _ _ _ _ _ _ _ _ _ ht hp hp' hcomb hone (by omega) hn hv (by assumption) hsub hpo hb
    |true=>exact cam_all.l21 c t _ _ _ _ _ _ _ _ _ _ _ ht hp hp' hcomb hone (by omega) hn hv (by assumption) hsub hpo hb (ih (t+1) (by omega))
   ·have ev:endW c.lift t=((1:Int):Rat):=by
     unfold endW
     rw[List.getElem?_eq_none (by omega)]
    rw[ev] at hsub
    have hpo':=hpo
    have el:lenW c.lift t=((1:Int):Rat)-brkW c.lift t:=by unfold lenW;rw[ev]
    rw[el] at hpo'
    cases hb:posB (combL c.base.val byV (pcW c.lift t) f (pcW d t)) (lenW c.lift t) with
    |false=>exact cam_all.l23 c t _ _ _ _ _ _ _ _ _ _ ht hp hp' hcomb hone (by omega) (by omega) (by assumption) hsub hpo' (by rw[←el];exact hb)
    |true=>exact cam_all.l24 c t _ _ _ _ _ _ _ _ _ _ ht hp hp' hcomb hone (by omega) (by omega) (by assumption) hsub hpo' (by rw[←el];exact hb) (ih (t+1) (by omega))
 exact loop _ 0 rfl
theorem all0{c:ACam}(g:GCam c){byV f:Rat}(hby:ht byV≤7)(hf:ht f≤4):Contract prg 126 [c.pv,(mkR byV).pv,(mkR f).pv,vI 0] (.tup [vB (allC c byV f c.lift),.nilI]) :=
 cam_all.e0 c _ _ _ (cam_all.l12 0 0 c _ _ _ (by omega) (all2 g hby hf (gder0 g)))
theorem all1{c:ACam}(g:GCam c){byV f:Rat}(hby:ht byV≤7)(hf:ht f≤4):Contract prg 126 [c.pv,(mkR byV).pv,(mkR f).pv,vI 1] (.tup [vB (allC c byV f (deriveW c.lift)),.nilI]):=by
 have hd:=CLw.Derive c.lift g.law (fitW_up g.fl (by omega))
 exact cam_all.e0 c _ _ _ (cam_all.l10 1 0 c _ _ _ _ (by omega) hd (by omega) (cam_all.l12 1 1 c _ _ _ (by omega) (all2 g hby hf (gder1 g))))
theorem all22{c:ACam}(g:GCam c){byV f:Rat}(hby:ht byV≤7)(hf:ht f≤4):Contract prg 126 [c.pv,(mkR byV).pv,(mkR f).pv,vI 2] (.tup [vB (allC c byV f (deriveW (deriveW c.lift))),.nilI]):=by
 have hd:=CLw.Derive c.lift g.law (fitW_up g.fl (by omega))
 have h1:=gder1 g
 have hd2:=CLw.Derive (deriveW c.lift) h1.good (fitW_up h1.fit (by omega))
 exact cam_all.e0 c _ _ _ (cam_all.l10 2 0 c _ _ _ _ (by omega) hd (by omega) (cam_all.l10 2 1 c _ _ _ _ (by omega) hd2 (by omega) (cam_all.l12 2 2 c _ _ _ (by omega) (all2 g hby hf (gder2 g)))))
theorem Positive{c:ACam}(g:GCam c):Contract prg 54 [c.pv] (.tup [vB (posC c),.nilI]) :=
 cam_Positive.e0 c _ _ none (check g) (CFr.Of 1 (by unfold InI64;omega)) (all0 (byV:=((1:Int):Rat)) (f:=0) g (by decide) (by decide))
theorem ht_byW{limit:Rat}(h:ht limit≤4):ht (byW limit)≤6:=by
 have p2:ht piLo≤1:=by decide
 have z2:ht (2:Rat)≤1:=by decide
 have m1:=ht_mul piLo limit
 have m2:=ht_mul 2 (piLo*limit)
 unfold byW;omega
theorem Within{c:ACam}(g:GCam c){limit:Rat}(hl:ht limit≤4)(h0:0<limit):Contract prg 55 [c.pv,(mkR limit).pv] (.tup [vB (withC c limit),.nilI]):=by
 have p2:ht piLo≤1:=by decide
 have z2:ht ((2:Int):Rat)≤1:=by decide
 have m1:=ht_mul piLo limit
 have hb:=ht_byW hl
 have a1:=all1 (byV:=byW limit) (f:=((-1:Int):Rat)) g (by omega) (by decide)
 have a2:=all1 (byV:=byW limit) (f:=((1:Int):Rat)) g (by omega) (by decide)
 have o1:=CFr.Of (-1) (by unfold InI64;omega)
 have o2:=CFr.Of 1 (by unfold InI64;omega)
 refine cam_Within.e2 c _ _ _ _ _ _ _ (check g) (QF.Valid limit (by omega)) rfl (QF.Sign limit (by omega)) (cmpR_gt.2 h0) (CFr.Of 2 (by unfold InI64;omega)) low (QF.Mul piLo limit (by omega) (by omega)) (QF.Mul ((2:Int):Rat) (piLo*limit) (by omega) (by omega)) ?_
 unfold withC
 cases h1:allC c (byW limit) (-1) (deriveW c.lift) with
 |false=>exact cam_Within.l10 0 c _ (-1) _ _ (by omega) rfl o1 a1 h1
 |true =>
  refine cam_Within.l11 0 c _ (-1) _ _ (by omega) rfl o1 a1 h1 (by omega) ?_
  cases h2:allC c (byW limit) 1 (deriveW c.lift) with
  |false=>exact cam_Within.l10 1 c _ 1 _ _ (by omega) rfl o2 a2 h2
  |true=>exact cam_Within.l11 1 c _ 1 _ _ (by omega) rfl o2 a2 h2 (by omega) (cam_Within.l13 2 c _ _ none (by omega) (Positive g))
theorem Convex{c:ACam}(g:GCam c):Contract prg 56 [c.pv] (.tup [vB (convC c),.nilI]):=by
 have s1:ht (sqP piHi)≤1:=by decide +kernel
 have s2:ht (sqP piLo)≤1:=by decide +kernel
 have a1:=all22 (byV:=((1:Int):Rat)) (f:=sqP piLo) g (by decide) (by omega)
 have a2:=all22 (byV:=((1:Int):Rat)) (f:=sqP piHi) g (by decide) (by omega)
 have o2:=CFr.Of 1 (by unfold InI64;omega)
 have q1:=square piLo (by decide) (by decide)
 have q2:=square piHi (by decide) (by decide)
 refine cam_Convex.e0 c _ _ (check g) low high ?_
 unfold convC
 cases h1:allC c 1 (sqP piLo) (deriveW (deriveW c.lift)) with
 |false=>exact cam_Convex.l10 0 c _ _ _ _ _ _ (by omega) rfl o2 q1 a1 h1
 |true =>
  refine cam_Convex.l11 0 c _ _ _ _ _ _ (by omega) rfl o2 q1 a1 h1 (by omega) ?_
  cases h2:allC c 1 (sqP piHi) (deriveW (deriveW c.lift)) with
  |false=>exact cam_Convex.l10 1 c _ _ _ _ _ _ (by omega) rfl o2 q2 a2 h2
  |true=>exact cam_Convex.l11 1 c _ _ _ _ _ _ (by omega) rfl o2 q2 a2 h2 (by omega) (cam_Convex.l13 2 c _ _ (by omega))
end CCa
end Go.Proofs.YtbgkjomonebfcaaGreat.Sym
namespace Go.Proofs.YtbgkjomonebfcaaGreat.Sym
open Go Path CInt
set_option linter.unusedVariables false
namespace CCr
theorem Check(c:ACam)(hf:FitW 1073741824 c.lift)(hb:c.base.num.length≤68719476736∧c.base.den.length≤68719476736):Contract prg 46 [c.pv] (vI (chkCam c)):=by
 have hk:=CRl.Check c.lift hf
 unfold chkCam
 by_cases h:chkLaw c.lift=0
 ·rw[if_pos h]
  have hv:=CRb.Valid c.base ⟨by omega,by omega⟩
  have hs:=CRb.Sign c.base ⟨by omega,by omega⟩
  cases hvb:c.base.valid with
  |false =>
   rw[if_neg (by intro e;cases e.1)]
   exact linkworkref53_Check.e1 c _ _ hk h hv hvb
  |true =>
   by_cases h0:0<c.base.val
   ·rw[if_pos ⟨rfl,h0⟩]
    exact linkworkref53_Check.e3 c _ _ _ hk h hv hvb hs (cmpR_gt.2 h0)
   ·rw[if_neg (by intro e;exact h0 e.2)]
    exact linkworkref53_Check.e2 c _ _ _ hk h hv hvb hs (cmpR_le.2 (by grind))
 ·rw[if_neg h]
  exact linkworkref53_Check.e0 c _ hk h
end CCr
end Go.Proofs.YtbgkjomonebfcaaGreat.Sym
namespace Go.Proofs.YtbgkjomonebfcaaGreat.Sym.Path
open Go
set_option maxRecDepth 20000
set_option linter.unusedVariables false
namespace linkworklaw53_CamProves
theorem e1(c:ACam)(limit x:ARat)(awa val awa1:Bool)(h1:Contract prg 40 [] (vB awa))(h2:awa=true)(h3:Contract prg 62 [c.pv] (vB val))(h4:val=false)(h5:Contract prg 40 [] (vB awa1)):Contract prg 12 [c.pv,limit.pv,x.pv] (vB awa1) :=
 Contract.ofL Tryz.func12 (by kernel_rfl) (L.done mixed tabOk (n:=84) (ns:=[1,1,1,1,1,1,1,1,1,1,1,1,1,1,1,1,1,1,1,1,1]) (tr:=[.reg [],.reg [(.pv (vB awa)),.none,.none,.none,(.pv (vB val)),.none,(.dec false),.none,.skip,.skip,(.dec true),.none,.skip,.skip,.none,.none,.skip,.skip,.skip,.none,.none,.skip,.skip,.skip,.none,.none,.skip,.skip,.skip],.auto,.reg [(.pv (vB awa1))]]) (cj h1 (cj (bnot_f h2) (cj (bnot_f h2) (cj h3 (cj (bnot_f h2) (cj (bnot_f h2) (cj (bnot_t h4) (cj (bnot_t h4) (cj (bnot_t h4) (cj (Eq.refl true) (cj (Eq.refl true) (cj (Eq.refl true) (cj (Eq.refl true) (cj (Eq.refl true) (cj (Eq.refl true) (cj (Eq.refl true) (cj (Eq.refl true) (cj (Eq.refl true) (cj (Eq.refl true) (cj (Eq.refl true) (cj h5 True.intro))))))))))))))))))))) (by kernel_rfl))
theorem e2(c:ACam)(limit x:ARat)(awa val lon awa1:Bool)(h1:Contract prg 40 [] (vB awa))(h2:awa=true)(h3:Contract prg 62 [c.pv] (vB val))(h4:val=true)(h5:Contract prg 42 [limit.pv] (vB lon))(h6:lon=true)(h7:Contract prg 40 [] (vB awa1)):Contract prg 12 [c.pv,limit.pv,x.pv] (vB awa1) :=
 Contract.ofL Tryz.func12 (by kernel_rfl) (L.done mixed tabOk (n:=84) (ns:=[1,1,1,1,1,1,1,1,1,1,1,1,1,1,1,1,1,1,1,1,1,1,1]) (tr:=[.reg [],.reg [(.pv (vB awa)),.none,.none,.none,(.pv (vB val)),.none,(.dec false),.none,.none,(.pv (vB lon)),(.dec false),.none,.skip,.skip,(.dec true),.none,.skip,.skip,.skip,.none,.none,.skip,.skip,.skip,.none,.none,.skip,.skip,.skip],.auto,.reg [(.pv (vB awa1))]]) (cj h1 (cj (bnot_f h2) (cj (bnot_f h2) (cj h3 (cj (bnot_f h2) (cj (bnot_f h2) (cj (bnot_f h4) (cj (bnot_f h4) (cj h5 (cj (bnot_f h4) (cj h6 (cj h6 (cj h6 (cj (Eq.refl true) (cj (Eq.refl true) (cj (Eq.refl true) (cj (Eq.refl true) (cj (Eq.refl true) (cj (Eq.refl true) (cj (Eq.refl true) (cj (Eq.refl true) (cj (Eq.refl true) (cj h7 True.intro))))))))))))))))))))))) (by kernel_rfl))
theorem e3(c:ACam)(limit x:ARat)(awa val lon lon1 awa1:Bool)(h1:Contract prg 40 [] (vB awa))(h2:awa=true)(h3:Contract prg 62 [c.pv] (vB val))(h4:val=true)(h5:Contract prg 42 [limit.pv] (vB lon))(h6:lon=false)(h7:Contract prg 42 [x.pv] (vB lon1))(h8:lon1=true)(h9:Contract prg 40 [] (vB awa1)):Contract prg 12 [c.pv,limit.pv,x.pv] (vB awa1) :=
 Contract.ofL Tryz.func12 (by kernel_rfl) (L.done mixed tabOk (n:=84) (ns:=[1,1,1,1,1,1,1,1,1,1,1,1,1,1,1,1,1,1,1,1,1,1,1,1,1]) (tr:=[.reg [],.reg [(.pv (vB awa)),.none,.none,.none,(.pv (vB val)),.none,(.dec false),.none,.none,(.pv (vB lon)),(.dec false),.none,.none,(.pv (vB lon1)),(.dec false),.none,.skip,.skip,.skip,(.dec true),.none,.skip,.skip,.skip,.none,.none,.skip,.skip,.skip],.auto,.reg [(.pv (vB awa1))]]) (cj h1 (cj (bnot_f h2) (cj (bnot_f h2) (cj h3 (cj (bnot_f h2) (cj (bnot_f h2) (cj (bnot_f h4) (cj (bnot_f h4) (cj h5 (cj (bnot_f h4) (cj h6 (cj h6 (cj h7 (cj h6 (cj h8 (cj h8 (cj h8 (cj h8 (cj (Eq.refl true) (cj (Eq.refl true) (cj (Eq.refl true) (cj (Eq.refl true) (cj (Eq.refl true) (cj (Eq.refl true) (cj h9 True.intro))))))))))))))))))))))))) (by kernel_rfl))
theorem e4(c:ACam)(limit x:ARat)(awa val lon lon1 val1 awa1:Bool)(h1:Contract prg 40 [] (vB awa))(h2:awa=true)(h3:Contract prg 62 [c.pv] (vB val))(h4:val=true)(h5:Contract prg 42 [limit.pv] (vB lon))(h6:lon=false)(h7:Contract prg 42 [x.pv] (vB lon1))(h8:lon1=false)(h9:Contract prg 48 [limit.pv] (vB val1))(h10:val1=false)(h11:Contract prg 40 [] (vB awa1)):Contract prg 12 [c.pv,limit.pv,x.pv] (vB awa1) :=
 Contract.ofL Tryz.func12 (by kernel_rfl) (L.done mixed tabOk (n:=84) (ns:=[1,1,1,1,1,1,1,1,1,1,1,1,1,1,1,1,1,1,1,1,1,1,1,1,1,1,1]) (tr:=[.reg [],.reg [(.pv (vB awa)),.none,.none,.none,(.pv (vB val)),.none,(.dec false),.none,.none,(.pv (vB lon)),(.dec false),.none,.none,(.pv (vB lon1)),(.dec false),.none,.none,(.pv (vB val1)),.none,(.dec false),.none,.skip,.skip,.skip,(.dec true),.none,.skip,.skip,.skip],.auto,.reg [(.pv (vB awa1))]]) (cj h1 (cj (bnot_f h2) (cj (bnot_f h2) (cj h3 (cj (bnot_f h2) (cj (bnot_f h2) (cj (bnot_f h4) (cj (bnot_f h4) (cj h5 (cj (bnot_f h4) (cj h6 (cj h6 (cj h7 (cj h6 (cj h8 (cj h8 (cj h9 (cj h8 (cj h8 (cj (bnot_t h10) (cj (bnot_t h10) (cj (bnot_t h10) (cj (bnot_t h10) (cj (Eq.refl true) (cj (Eq.refl true) (cj (Eq.refl true) (cj h11 True.intro))))))))))))))))))))))))))) (by kernel_rfl))
theorem e5(c:ACam)(limit x:ARat)(awa val lon lon1 val1:Bool)(sig:Int)(awa1:Bool)(h1:Contract prg 40 [] (vB awa))(h2:awa=true)(h3:Contract prg 62 [c.pv] (vB val))(h4:val=true)(h5:Contract prg 42 [limit.pv] (vB lon))(h6:lon=false)(h7:Contract prg 42 [x.pv] (vB lon1))(h8:lon1=false)(h9:Contract prg 48 [limit.pv] (vB val1))(h10:val1=true)(h11:Contract prg 59 [limit.pv] (vI sig))(h12:sig≤0)(h13:Contract prg 40 [] (vB awa1)):Contract prg 12 [c.pv,limit.pv,x.pv] (vB awa1) :=
 Contract.ofL Tryz.func12 (by kernel_rfl) (L.done mixed tabOk (n:=84) (ns:=[1,1,1,1,1,1,1,1,1,1,1,1,1,1,1,1,1,1,1,1,1,1,1,1,1,1,1,1,1]) (tr:=[.reg [],.reg [(.pv (vB awa)),.none,.none,.none,(.pv (vB val)),.none,(.dec false),.none,.none,(.pv (vB lon)),(.dec false),.none,.none,(.pv (vB lon1)),(.dec false),.none,.none,(.pv (vB val1)),.none,(.dec false),.none,.none,(.pv (vI sig)),.none,(.dec false),.none,.skip,.skip,.skip,(.dec true)],.auto,.reg [(.pv (vB awa1))]]) (cj h1 (cj (bnot_f h2) (cj (bnot_f h2) (cj h3 (cj (bnot_f h2) (cj (bnot_f h2) (cj (bnot_f h4) (cj (bnot_f h4) (cj h5 (cj (bnot_f h4) (cj h6 (cj h6 (cj h7 (cj h6 (cj h8 (cj h8 (cj h9 (cj h8 (cj h8 (cj (bnot_f h10) (cj (bnot_f h10) (cj h11 (cj (bnot_f h10) (cj (bnot_f h10) (cj (dle_t h12) (cj (dle_t h12) (cj (dle_t h12) (cj (dle_t h12) (cj h13 True.intro))))))))))))))))))))))))))))) (by kernel_rfl))
theorem e6(c:ACam)(limit x:ARat)(awa val lon lon1 val1:Bool)(sig:Int)(val2 awa1:Bool)(h1:Contract prg 40 [] (vB awa))(h2:awa=true)(h3:Contract prg 62 [c.pv] (vB val))(h4:val=true)(h5:Contract prg 42 [limit.pv] (vB lon))(h6:lon=false)(h7:Contract prg 42 [x.pv] (vB lon1))(h8:lon1=false)(h9:Contract prg 48 [limit.pv] (vB val1))(h10:val1=true)(h11:Contract prg 59 [limit.pv] (vI sig))(h12:0<sig)(h13:Contract prg 48 [x.pv] (vB val2))(h14:val2=false)(h15:Contract prg 40 [] (vB awa1)):Contract prg 12 [c.pv,limit.pv,x.pv] (vB awa1) :=
 Contract.ofL Tryz.func12 (by kernel_rfl) (L.done mixed tabOk (n:=84) (ns:=[1,1,1,1,1,1,1,1,1,1,1,1,1,1,1,1,1,1,1,1,1,1,1,1,1,1,1,1,1,1,1]) (tr:=[.reg [],.reg [(.pv (vB awa)),.none,.none,.none,(.pv (vB val)),.none,(.dec false),.none,.none,(.pv (vB lon)),(.dec false),.none,.none,(.pv (vB lon1)),(.dec false),.none,.none,(.pv (vB val1)),.none,(.dec false),.none,.none,(.pv (vI sig)),.none,(.dec false),.none,.none,(.pv (vB val2)),.none,(.dec false)],.dec true,.reg [(.pv (vB awa1))]]) (cj h1 (cj (bnot_f h2) (cj (bnot_f h2) (cj h3 (cj (bnot_f h2) (cj (bnot_f h2) (cj (bnot_f h4) (cj (bnot_f h4) (cj h5 (cj (bnot_f h4) (cj h6 (cj h6 (cj h7 (cj h6 (cj h8 (cj h8 (cj h9 (cj h8 (cj h8 (cj (bnot_f h10) (cj (bnot_f h10) (cj h11 (cj (bnot_f h10) (cj (bnot_f h10) (cj (dle_f h12) (cj (dle_f h12) (cj h13 (cj (dle_f h12) (cj (dle_f h12) (cj (bnot_t h14) (cj h15 True.intro))))))))))))))))))))))))))))))) (by kernel_rfl))
theorem e7(c:ACam)(limit x:ARat)(awa val lon lon1 val1:Bool)(sig:Int)(val2 wit con pos:Bool)(rad:ARat)(sig1:Int)(pre:ARange)(neg:ARat)(ins:Bool)(cur:ARange)(sig2:Int)(h1:Contract prg 40 [] (vB awa))(h2:awa=true)(h3:Contract prg 62 [c.pv] (vB val))(h4:val=true)(h5:Contract prg 42 [limit.pv] (vB lon))(h6:lon=false)(h7:Contract prg 42 [x.pv] (vB lon1))(h8:lon1=false)(h9:Contract prg 48 [limit.pv] (vB val1))(h10:val1=true)(h11:Contract prg 59 [limit.pv] (vI sig))(h12:0<sig)(h13:Contract prg 48 [x.pv] (vB val2))(h14:val2=true)(h15:Contract prg 55 [c.pv,limit.pv] (.tup [(vB wit),.nilI]))(h16:Contract prg 56 [c.pv] (.tup [(vB con),.nilI]))(h17:Contract prg 54 [c.pv] (.tup [(vB pos),.nilI]))(h18:Contract prg 43 [c.pv,x.pv] (.tup [rad.pv,.nilI]))(h19:pos=true)(h20:Contract prg 39 [rad.pv] (vI sig1))(h21:0<sig1)(h22:wit=true)(h23:Contract prg 44 [c.pv,x.pv] (.tup [pre.pv,.nilI]))(h24:Contract prg 65 [limit.pv] neg.pv)(h25:Contract prg 64 [pre.pv,(⟨neg,limit⟩:ARange).pv] (vB ins))(h26:ins=true)(h27:con=true)(h28:Contract prg 45 [c.pv,x.pv] (.tup [cur.pv,.nilI]))(h29:Contract prg 39 [cur.lo.pv] (vI sig2))(h30:0<sig2):Contract prg 12 [c.pv,limit.pv,x.pv] (vB true) :=
 Contract.ofL Tryz.func12 (by kernel_rfl) (L.done mixed tabOk (n:=201) (ns:=[1,1,1,1,1,1,1,1,1,1,1,1,1,1,1,1,1,1,1,1,1,1,1,1,1,1,1,1,1,1,1,1,1,1,1,1,1,1,1,1,1,1,1,1,1,1,1,1,1,1,1,1,1,1,1,1,1,1,1,1,1,1,1,1,1,1,1]) (tr:=[.reg [],.reg [(.pv (vB awa)),.none,.none,.none,(.pv (vB val)),.none,(.dec false),.none,.none,(.pv (vB lon)),(.dec false),.none,.none,(.pv (vB lon1)),(.dec false),.none,.none,(.pv (vB val1)),.none,(.dec false),.none,.none,(.pv (vI sig)),.none,(.dec false),.none,.none,(.pv (vB val2)),.none,(.dec false)],.dec false,.reg [.none,.none,(.pv (.tup [(vB wit),.nilI]))],.reg [.none,(.pv (.tup [(vB con),.nilI]))],.reg [.none,(.pv (.tup [(vB pos),.nilI]))],.reg [],.auto,.reg [.none,.none,(.pv (.tup [rad.pv,.nilI]))],.reg [.none,.none,.none,.none,.none,.none,(.pv (vI sig1)),.none,(.dec true)],.dec false,.reg [],.dec true,.reg [.none,.none,(.pv (.tup [pre.pv,.nilI]))],dr 11 0 [.none,.none,.none,.none,.none,(.pv neg.pv),.none,.none,(.pv (vB ins))],.dec false,.reg [],.dec true,.reg [.none,.none,(.pv (.tup [cur.pv,.nilI]))],.reg [.none,.none,.none,.none,.none,(.pv (vI sig2))],.dec false,.reg []]) (cj h1 (cj (bnot_f h2) (cj (bnot_f h2) (cj h3 (cj (bnot_f h2) (cj (bnot_f h2) (cj (bnot_f h4) (cj (bnot_f h4) (cj h5 (cj (bnot_f h4) (cj h6 (cj h6 (cj h7 (cj h6 (cj h8 (cj h8 (cj h9 (cj h8 (cj h8 (cj (bnot_f h10) (cj (bnot_f h10) (cj h11 (cj (bnot_f h10) (cj (bnot_f h10) (cj (dle_f h12) (cj (dle_f h12) (cj h13 (cj (dle_f h12) (cj (dle_f h12) (cj (bnot_f h14) (cj h15 (cj h16 (cj h17 (cj (Eq.refl false) (cj (Eq.refl false) (cj (Eq.refl false) (cj (Eq.refl false) (cj h18 (cj (Eq.refl false) (cj (Eq.refl false) (cj h19 (cj h19 (cj h20 (cj h19 (cj (Eq.refl false) (cj h19 (cj (dle_f h21) (cj h22 (cj h23 (cj (Eq.refl false) (cj (Eq.refl false) (cj (Eq.refl false) (cj h24 (cj (Eq.refl false) (cj (Eq.refl false) (cj (Eq.refl false) (cj h25 (cj (Eq.refl false) (cj (bnot_f h26) (cj h27 (cj h28 (cj (Eq.refl false) (cj (Eq.refl false) (cj (Eq.refl false) (cj h29 (cj (Eq.refl false) (cj (dle_f h30) True.intro))))))))))))))))))))))))))))))))))))))))))))))))))))))))))))))))))) (by kernel_rfl))
theorem e8(c:ACam)(limit x:ARat)(awa val lon lon1 val1:Bool)(sig:Int)(val2 wit con pos:Bool)(rad:ARat)(sig1:Int)(pre:ARange)(neg:ARat)(ins:Bool)(h1:Contract prg 40 [] (vB awa))(h2:awa=true)(h3:Contract prg 62 [c.pv] (vB val))(h4:val=true)(h5:Contract prg 42 [limit.pv] (vB lon))(h6:lon=false)(h7:Contract prg 42 [x.pv] (vB lon1))(h8:lon1=false)(h9:Contract prg 48 [limit.pv] (vB val1))(h10:val1=true)(h11:Contract prg 59 [limit.pv] (vI sig))(h12:0<sig)(h13:Contract prg 48 [x.pv] (vB val2))(h14:val2=true)(h15:Contract prg 55 [c.pv,limit.pv] (.tup [(vB wit),.nilI]))(h16:Contract prg 56 [c.pv] (.tup [(vB con),.nilI]))(h17:Contract prg 54 [c.pv] (.tup [(vB pos),.nilI]))(h18:Contract prg 43 [c.pv,x.pv] (.tup [rad.pv,.nilI]))(h19:pos=true)(h20:Contract prg 39 [rad.pv] (vI sig1))(h21:0<sig1)(h22:wit=true)(h23:Contract prg 44 [c.pv,x.pv] (.tup [pre.pv,.nilI]))(h24:Contract prg 65 [limit.pv] neg.pv)(h25:Contract prg 64 [pre.pv,(⟨neg,limit⟩:ARange).pv] (vB ins))(h26:ins=true)(h27:con=false):Contract prg 12 [c.pv,limit.pv,x.pv] (vB true) :=
 Contract.ofL Tryz.func12 (by kernel_rfl) (L.done mixed tabOk (n:=186) (ns:=[1,1,1,1,1,1,1,1,1,1,1,1,1,1,1,1,1,1,1,1,1,1,1,1,1,1,1,1,1,1,1,1,1,1,1,1,1,1,1,1,1,1,1,1,1,1,1,1,1,1,1,1,1,1,1,1,1,1,1,1]) (tr:=[.reg [],.reg [(.pv (vB awa)),.none,.none,.none,(.pv (vB val)),.none,(.dec false),.none,.none,(.pv (vB lon)),(.dec false),.none,.none,(.pv (vB lon1)),(.dec false),.none,.none,(.pv (vB val1)),.none,(.dec false),.none,.none,(.pv (vI sig)),.none,(.dec false),.none,.none,(.pv (vB val2)),.none,(.dec false)],.dec false,.reg [.none,.none,(.pv (.tup [(vB wit),.nilI]))],.reg [.none,(.pv (.tup [(vB con),.nilI]))],.reg [.none,(.pv (.tup [(vB pos),.nilI]))],.reg [],.auto,.reg [.none,.none,(.pv (.tup [rad.pv,.nilI]))],.reg [.none,.none,.none,.none,.none,.none,(.pv (vI sig1)),.none,(.dec true)],.dec false,.reg [],.dec true,.reg [.none,.none,(.pv (.tup [pre.pv,.nilI]))],dr 11 0 [.none,.none,.none,.none,.none,(.pv neg.pv),.none,.none,(.pv (vB ins))],.dec false,.reg [],.dec false,.reg []]) (cj h1 (cj (bnot_f h2) (cj (bnot_f h2) (cj h3 (cj (bnot_f h2) (cj (bnot_f h2) (cj (bnot_f h4) (cj (bnot_f h4) (cj h5 (cj (bnot_f h4) (cj h6 (cj h6 (cj h7 (cj h6 (cj h8 (cj h8 (cj h9 (cj h8 (cj h8 (cj (bnot_f h10) (cj (bnot_f h10) (cj h11 (cj (bnot_f h10) (cj (bnot_f h10) (cj (dle_f h12) (cj (dle_f h12) (cj h13 (cj (dle_f h12) (cj (dle_f h12) (cj (bnot_f h14) (cj h15 (cj h16 (cj h17 (cj (Eq.refl false) (cj (Eq.refl false) (cj (Eq.refl false) (cj (Eq.refl false) (cj h18 (cj (Eq.refl false) (cj (Eq.refl false) (cj h19 (cj h19 (cj h20 (cj h19 (cj (Eq.refl false) (cj h19 (cj (dle_f h21) (cj h22 (cj h23 (cj (Eq.refl false) (cj (Eq.refl false) (cj (Eq.refl false) (cj h24 (cj (Eq.refl false) (cj (Eq.refl false) (cj (Eq.refl false) (cj h25 (cj (Eq.refl false) (cj (bnot_f h26) (cj h27 True.intro)))))))))))))))))))))))))))))))))))))))))))))))))))))))))))) (by kernel_rfl))
theorem e9(c:ACam)(limit x:ARat)(awa val lon lon1 val1:Bool)(sig:Int)(val2 wit con pos:Bool)(rad:ARat)(sig1:Int)(cur:ARange)(sig2:Int)(h1:Contract prg 40 [] (vB awa))(h2:awa=true)(h3:Contract prg 62 [c.pv] (vB val))(h4:val=true)(h5:Contract prg 42 [limit.pv] (vB lon))(h6:lon=false)(h7:Contract prg 42 [x.pv] (vB lon1))(h8:lon1=false)(h9:Contract prg 48 [limit.pv] (vB val1))(h10:val1=true)(h11:Contract prg 59 [limit.pv] (vI sig))(h12:0<sig)(h13:Contract prg 48 [x.pv] (vB val2))(h14:val2=true)(h15:Contract prg 55 [c.pv,limit.pv] (.tup [(vB wit),.nilI]))(h16:Contract prg 56 [c.pv] (.tup [(vB con),.nilI]))(h17:Contract prg 54 [c.pv] (.tup [(vB pos),.nilI]))(h18:Contract prg 43 [c.pv,x.pv] (.tup [rad.pv,.nilI]))(h19:pos=true)(h20:Contract prg 39 [rad.pv] (vI sig1))(h21:0<sig1)(h22:wit=false)(h23:con=true)(h24:Contract prg 45 [c.pv,x.pv] (.tup [cur.pv,.nilI]))(h25:Contract prg 39 [cur.lo.pv] (vI sig2))(h26:0<sig2):Contract prg 12 [c.pv,limit.pv,x.pv] (vB true) :=
 Contract.ofL Tryz.func12 (by kernel_rfl) (L.done mixed tabOk (n:=186) (ns:=[1,1,1,1,1,1,1,1,1,1,1,1,1,1,1,1,1,1,1,1,1,1,1,1,1,1,1,1,1,1,1,1,1,1,1,1,1,1,1,1,1,1,1,1,1,1,1,1,1,1,1,1,1,1,1,1]) (tr:=[.reg [],.reg [(.pv (vB awa)),.none,.none,.none,(.pv (vB val)),.none,(.dec false),.none,.none,(.pv (vB lon)),(.dec false),.none,.none,(.pv (vB lon1)),(.dec false),.none,.none,(.pv (vB val1)),.none,(.dec false),.none,.none,(.pv (vI sig)),.none,(.dec false),.none,.none,(.pv (vB val2)),.none,(.dec false)],.dec false,.reg [.none,.none,(.pv (.tup [(vB wit),.nilI]))],.reg [.none,(.pv (.tup [(vB con),.nilI]))],.reg [.none,(.pv (.tup [(vB pos),.nilI]))],.reg [],.auto,.reg [.none,.none,(.pv (.tup [rad.pv,.nilI]))],.reg [.none,.none,.none,.none,.none,.none,(.pv (vI sig1)),.none,(.dec true)],.dec false,.reg [],.dec false,.reg [],.dec true,.reg [.none,.none,(.pv (.tup [cur.pv,.nilI]))],.reg [.none,.none,.none,.none,.none,(.pv (vI sig2))],.dec false,.reg []]) (cj h1 (cj (bnot_f h2) (cj (bnot_f h2) (cj h3 (cj (bnot_f h2) (cj (bnot_f h2) (cj (bnot_f h4) (cj (bnot_f h4) (cj h5 (cj (bnot_f h4) (cj h6 (cj h6 (cj h7 (cj h6 (cj h8 (cj h8 (cj h9 (cj h8 (cj h8 (cj (bnot_f h10) (cj (bnot_f h10) (cj h11 (cj (bnot_f h10) (cj (bnot_f h10) (cj (dle_f h12) (cj (dle_f h12) (cj h13 (cj (dle_f h12) (cj (dle_f h12) (cj (bnot_f h14) (cj h15 (cj h16 (cj h17 (cj (Eq.refl false) (cj (Eq.refl false) (cj (Eq.refl false) (cj (Eq.refl false) (cj h18 (cj (Eq.refl false) (cj (Eq.refl false) (cj h19 (cj h19 (cj h20 (cj h19 (cj (Eq.refl false) (cj h19 (cj (dle_f h21) (cj h22 (cj h23 (cj h24 (cj (Eq.refl false) (cj (Eq.refl false) (cj (Eq.refl false) (cj h25 (cj (Eq.refl false) (cj (dle_f h26) True.intro)))))))))))))))))))))))))))))))))))))))))))))))))))))))) (by kernel_rfl))
theorem e10(c:ACam)(limit x:ARat)(awa val lon lon1 val1:Bool)(sig:Int)(val2 wit con pos:Bool)(rad:ARat)(sig1:Int)(h1:Contract prg 40 [] (vB awa))(h2:awa=true)(h3:Contract prg 62 [c.pv] (vB val))(h4:val=true)(h5:Contract prg 42 [limit.pv] (vB lon))(h6:lon=false)(h7:Contract prg 42 [x.pv] (vB lon1))(h8:lon1=false)(h9:Contract prg 48 [limit.pv] (vB val1))(h10:val1=true)(h11:Contract prg 59 [limit.pv] (vI sig))(h12:0<sig)(h13:Contract prg 48 [x.pv] (vB val2))(h14:val2=true)(h15:Contract prg 55 [c.pv,limit.pv] (.tup [(vB wit),.nilI]))(h16:Contract prg 56 [c.pv] (.tup [(vB con),.nilI]))(h17:Contract prg 54 [c.pv] (.tup [(vB pos),.nilI]))(h18:Contract prg 43 [c.pv,x.pv] (.tup [rad.pv,.nilI]))(h19:pos=true)(h20:Contract prg 39 [rad.pv] (vI sig1))(h21:0<sig1)(h22:wit=false)(h23:con=false):Contract prg 12 [c.pv,limit.pv,x.pv] (vB true) :=
 Contract.ofL Tryz.func12 (by kernel_rfl) (L.done mixed tabOk (n:=171) (ns:=[1,1,1,1,1,1,1,1,1,1,1,1,1,1,1,1,1,1,1,1,1,1,1,1,1,1,1,1,1,1,1,1,1,1,1,1,1,1,1,1,1,1,1,1,1,1,1,1,1]) (tr:=[.reg [],.reg [(.pv (vB awa)),.none,.none,.none,(.pv (vB val)),.none,(.dec false),.none,.none,(.pv (vB lon)),(.dec false),.none,.none,(.pv (vB lon1)),(.dec false),.none,.none,(.pv (vB val1)),.none,(.dec false),.none,.none,(.pv (vI sig)),.none,(.dec false),.none,.none,(.pv (vB val2)),.none,(.dec false)],.dec false,.reg [.none,.none,(.pv (.tup [(vB wit),.nilI]))],.reg [.none,(.pv (.tup [(vB con),.nilI]))],.reg [.none,(.pv (.tup [(vB pos),.nilI]))],.reg [],.auto,.reg [.none,.none,(.pv (.tup [rad.pv,.nilI]))],.reg [.none,.none,.none,.none,.none,.none,(.pv (vI sig1)),.none,(.dec true)],.dec false,.reg [],.dec false,.reg [],.dec false,.reg []]) (cj h1 (cj (bnot_f h2) (cj (bnot_f h2) (cj h3 (cj (bnot_f h2) (cj (bnot_f h2) (cj (bnot_f h4) (cj (bnot_f h4) (cj h5 (cj (bnot_f h4) (cj h6 (cj h6 (cj h7 (cj h6 (cj h8 (cj h8 (cj h9 (cj h8 (cj h8 (cj (bnot_f h10) (cj (bnot_f h10) (cj h11 (cj (bnot_f h10) (cj (bnot_f h10) (cj (dle_f h12) (cj (dle_f h12) (cj h13 (cj (dle_f h12) (cj (dle_f h12) (cj (bnot_f h14) (cj h15 (cj h16 (cj h17 (cj (Eq.refl false) (cj (Eq.refl false) (cj (Eq.refl false) (cj (Eq.refl false) (cj h18 (cj (Eq.refl false) (cj (Eq.refl false) (cj h19 (cj h19 (cj h20 (cj h19 (cj (Eq.refl false) (cj h19 (cj (dle_f h21) (cj h22 (cj h23 True.intro))))))))))))))))))))))))))))))))))))))))))))))))) (by kernel_rfl))
theorem e13(c:ACam)(limit x:ARat)(awa val lon lon1 val1:Bool)(sig:Int)(val2 wit con pos:Bool)(rad:ARat)(cur:ARange)(sig1:Int)(h1:Contract prg 40 [] (vB awa))(h2:awa=true)(h3:Contract prg 62 [c.pv] (vB val))(h4:val=true)(h5:Contract prg 42 [limit.pv] (vB lon))(h6:lon=false)(h7:Contract prg 42 [x.pv] (vB lon1))(h8:lon1=false)(h9:Contract prg 48 [limit.pv] (vB val1))(h10:val1=true)(h11:Contract prg 59 [limit.pv] (vI sig))(h12:0<sig)(h13:Contract prg 48 [x.pv] (vB val2))(h14:val2=true)(h15:Contract prg 55 [c.pv,limit.pv] (.tup [(vB wit),.nilI]))(h16:Contract prg 56 [c.pv] (.tup [(vB con),.nilI]))(h17:Contract prg 54 [c.pv] (.tup [(vB pos),.nilI]))(h18:Contract prg 43 [c.pv,x.pv] (.tup [rad.pv,.nilI]))(h19:pos=false)(h20:wit=false)(h21:con=true)(h22:Contract prg 45 [c.pv,x.pv] (.tup [cur.pv,.nilI]))(h23:Contract prg 39 [cur.lo.pv] (vI sig1))(h24:0<sig1):Contract prg 12 [c.pv,limit.pv,x.pv] (vB true) :=
 Contract.ofL Tryz.func12 (by kernel_rfl) (L.done mixed tabOk (n:=186) (ns:=[1,1,1,1,1,1,1,1,1,1,1,1,1,1,1,1,1,1,1,1,1,1,1,1,1,1,1,1,1,1,1,1,1,1,1,1,1,1,1,1,1,1,1,1,1,1,1,1,1,1,1,1,1,1]) (tr:=[.reg [],.reg [(.pv (vB awa)),.none,.none,.none,(.pv (vB val)),.none,(.dec false),.none,.none,(.pv (vB lon)),(.dec false),.none,.none,(.pv (vB lon1)),(.dec false),.none,.none,(.pv (vB val1)),.none,(.dec false),.none,.none,(.pv (vI sig)),.none,(.dec false),.none,.none,(.pv (vB val2)),.none,(.dec false)],.dec false,.reg [.none,.none,(.pv (.tup [(vB wit),.nilI]))],.reg [.none,(.pv (.tup [(vB con),.nilI]))],.reg [.none,(.pv (.tup [(vB pos),.nilI]))],.reg [],.auto,.reg [.none,.none,(.pv (.tup [rad.pv,.nilI]))],.reg [.none,.none,.none,.none,.none,.skip,.skip,.skip,(.dec false)],.auto,.reg [],.dec false,.reg [],.dec true,.reg [.none,.none,(.pv (.tup [cur.pv,.nilI]))],.reg [.none,.none,.none,.none,.none,(.pv (vI sig1))],.dec false,.reg []]) (cj h1 (cj (bnot_f h2) (cj (bnot_f h2) (cj h3 (cj (bnot_f h2) (cj (bnot_f h2) (cj (bnot_f h4) (cj (bnot_f h4) (cj h5 (cj (bnot_f h4) (cj h6 (cj h6 (cj h7 (cj h6 (cj h8 (cj h8 (cj h9 (cj h8 (cj h8 (cj (bnot_f h10) (cj (bnot_f h10) (cj h11 (cj (bnot_f h10) (cj (bnot_f h10) (cj (dle_f h12) (cj (dle_f h12) (cj h13 (cj (dle_f h12) (cj (dle_f h12) (cj (bnot_f h14) (cj h15 (cj h16 (cj h17 (cj (Eq.refl false) (cj (Eq.refl false) (cj (Eq.refl false) (cj (Eq.refl false) (cj h18 (cj (Eq.refl false) (cj (Eq.refl false) (cj h19 (cj h19 (cj h19 (cj (Eq.refl false) (cj h19 (cj h20 (cj h21 (cj h22 (cj (Eq.refl false) (cj (Eq.refl false) (cj (Eq.refl false) (cj h23 (cj (Eq.refl false) (cj (dle_f h24) True.intro)))))))))))))))))))))))))))))))))))))))))))))))))))))) (by kernel_rfl))
theorem e14(c:ACam)(limit x:ARat)(awa val lon lon1 val1:Bool)(sig:Int)(val2 wit con pos:Bool)(rad:ARat)(h1:Contract prg 40 [] (vB awa))(h2:awa=true)(h3:Contract prg 62 [c.pv] (vB val))(h4:val=true)(h5:Contract prg 42 [limit.pv] (vB lon))(h6:lon=false)(h7:Contract prg 42 [x.pv] (vB lon1))(h8:lon1=false)(h9:Contract prg 48 [limit.pv] (vB val1))(h10:val1=true)(h11:Contract prg 59 [limit.pv] (vI sig))(h12:0<sig)(h13:Contract prg 48 [x.pv] (vB val2))(h14:val2=true)(h15:Contract prg 55 [c.pv,limit.pv] (.tup [(vB wit),.nilI]))(h16:Contract prg 56 [c.pv] (.tup [(vB con),.nilI]))(h17:Contract prg 54 [c.pv] (.tup [(vB pos),.nilI]))(h18:Contract prg 43 [c.pv,x.pv] (.tup [rad.pv,.nilI]))(h19:pos=false)(h20:wit=false)(h21:con=false):Contract prg 12 [c.pv,limit.pv,x.pv] (vB true) :=
 Contract.ofL Tryz.func12 (by kernel_rfl) (L.done mixed tabOk (n:=171) (ns:=[1,1,1,1,1,1,1,1,1,1,1,1,1,1,1,1,1,1,1,1,1,1,1,1,1,1,1,1,1,1,1,1,1,1,1,1,1,1,1,1,1,1,1,1,1,1,1]) (tr:=[.reg [],.reg [(.pv (vB awa)),.none,.none,.none,(.pv (vB val)),.none,(.dec false),.none,.none,(.pv (vB lon)),(.dec false),.none,.none,(.pv (vB lon1)),(.dec false),.none,.none,(.pv (vB val1)),.none,(.dec false),.none,.none,(.pv (vI sig)),.none,(.dec false),.none,.none,(.pv (vB val2)),.none,(.dec false)],.dec false,.reg [.none,.none,(.pv (.tup [(vB wit),.nilI]))],.reg [.none,(.pv (.tup [(vB con),.nilI]))],.reg [.none,(.pv (.tup [(vB pos),.nilI]))],.reg [],.auto,.reg [.none,.none,(.pv (.tup [rad.pv,.nilI]))],.reg [.none,.none,.none,.none,.none,.skip,.skip,.skip,(.dec false)],.auto,.reg [],.dec false,.reg [],.dec false,.reg []]) (cj h1 (cj (bnot_f h2) (cj (bnot_f h2) (cj h3 (cj (bnot_f h2) (cj (bnot_f h2) (cj (bnot_f h4) (cj (bnot_f h4) (cj h5 (cj (bnot_f h4) (cj h6 (cj h6 (cj h7 (cj h6 (cj h8 (cj h8 (cj h9 (cj h8 (cj h8 (cj (bnot_f h10) (cj (bnot_f h10) (cj h11 (cj (bnot_f h10) (cj (bnot_f h10) (cj (dle_f h12) (cj (dle_f h12) (cj h13 (cj (dle_f h12) (cj (dle_f h12) (cj (bnot_f h14) (cj h15 (cj h16 (cj h17 (cj (Eq.refl false) (cj (Eq.refl false) (cj (Eq.refl false) (cj (Eq.refl false) (cj h18 (cj (Eq.refl false) (cj (Eq.refl false) (cj h19 (cj h19 (cj h19 (cj (Eq.refl false) (cj h19 (cj h20 (cj h21 True.intro))))))))))))))))))))))))))))))))))))))))))))))) (by kernel_rfl))
end linkworklaw53_CamProves
namespace linkworklaw53_awake
theorem e0(exa:ACam)(pre:ARange)(exa1:ACam)(con:Bool)(par:ARat)(rat:Bool)(par1:ARat)(rat1:Bool)(h1:Contract prg 104 [] exa.pv)(h2:Contract prg 44 [exa.pv,(⟨false,[],[]⟩:ARat).pv] (.tup [pre.pv,.nilI]))(h3:Contract prg 104 [] exa1.pv)(h4:Contract prg 56 [exa1.pv] (.tup [(vB con),.nilI]))(h5:con=true)(h6:Contract prg 105 [(vI 113),(vI 710)] par.pv)(h7:Contract prg 49 [pre.lo.pv,par.pv] (vB rat))(h8:rat=true)(h9:Contract prg 105 [(vI 53),(vI 333)] par1.pv)(h10:Contract prg 49 [pre.hi.pv,par1.pv] (vB rat1)):Contract prg 40 [] (vB rat1) :=
 Contract.ofL Tryz.func40 (by kernel_rfl) (L.done mixed tabOk (n:=84) (ns:=[1,1,1,1,1,1,1,1,1,1,1,1,1,1,1,1,1,1,1,1,1]) (tr:=[.reg [],.reg [(.pv exa.pv),.none,(.pv (.tup [pre.pv,.nilI]))],.reg [(.pv exa1.pv),(.pv (.tup [(vB con),.nilI]))],dr 21 1 [.none,.none,.none,.none,.none,.none,.none,.none,.none,.none,.none,.none,(.pv par.pv),(.pv (vB rat)),(.dec true),.none,.none,.none,(.pv par1.pv),(.pv (vB rat1)),(.dec true)]]) (cj h1 (cj h2 (cj h3 (cj h4 (cj (Eq.refl true) (cj (Eq.refl true) (cj (Eq.refl true) (cj h5 (cj h5 (cj h5 (cj h6 (cj h5 (cj h7 (cj h5 (cj h8 (cj h8 (cj h8 (cj h9 (cj h8 (cj h10 (cj h8 True.intro))))))))))))))))))))) (by kernel_rfl))
end linkworklaw53_awake
namespace linkworklaw53_large
@[reducible] noncomputable def fn:Func:=Tryz.f41
noncomputable def atK1:List Itm:=focus [0,2,0,2,0,0,2,1,2,0,0,2,0,0] [.code (bodyOf fn)]
def inv1(i_4:Nat)(c:ACam):St:=⟨[(3,(.ptr 3 0)),(4,(eI (i_4:Int)))],[(3,(.lit [(.pv (polyPV c.lift.breaks)),(.pv (lpv (lcell ARat.cells) c.lift.pieces))]))]⟩
@[reducible] noncomputable def Loop1(i_4:Nat)(c:ACam)(r:PV):Prop:=L prg fn atK1 (inv1 i_4 c) r
noncomputable def atK2:List Itm:=focus [0,2,0,2,0,0,2,1,2,0,0,2,0,0,0,0,0,2,1,2,2,2,2,0,0,2,0,0] [.code (bodyOf fn)]
def inv2(i_5:Nat)(c:ACam):St:=⟨[(3,(.ptr 3 0)),(5,(eI (i_5:Int)))],[(3,(.lit [(.pv (polyPV c.lift.breaks)),(.pv (lpv (lcell ARat.cells) c.lift.pieces))]))]⟩
@[reducible] noncomputable def Loop2(i_5:Nat)(c:ACam)(r:PV):Prop:=L prg fn atK2 (inv2 i_5 c) r
noncomputable def atK3:List Itm:=focus [0,2,0,2,0,0,2,1,2,0,0,2,0,0,0,0,0,2,1,2,2,2,2,0,0,2,0,0,0,0,0,2,0,2,0,0,0,0,2,1,2,0,2,0,0] [.code (bodyOf fn)]
def inv3(i_5 k_6:Nat)(c:ACam):St:=⟨[(3,(.ptr 3 0)),(5,(eI (i_5:Int))),(6,(eI (k_6:Int)))],[(3,(.lit [(.pv (polyPV c.lift.breaks)),(.pv (lpv (lcell ARat.cells) c.lift.pieces))]))]⟩
@[reducible] noncomputable def Loop3(i_5 k_6:Nat)(c:ACam)(r:PV):Prop:=L prg fn atK3 (inv3 i_5 k_6 c) r
theorem e0(c:ACam)(lon:Bool)(h1:Contract prg 42 [c.base.pv] (vB lon))(h2:lon=true):Contract prg 41 [c.pv] (vB true) :=
 Contract.ofL Tryz.func41 (by kernel_rfl) (L.done mixed tabOk (n:=90) (ns:=[1,1,1,1,1,1,1,1,1,1,1,1,1,1,1,1]) (tr:=[.reg [],.reg [],.reg [.none,.none,(.pv (vB lon)),.none,.skip,.skip,.skip,.skip,(.dec true),.none,.skip,.skip,.skip,.skip,.none,.none,.skip,.skip,.skip,.skip,.skip,.skip,.skip,.skip,.skip,.skip],.auto,.reg []]) (cj h1 (cj h2 (cj h2 (cj h2 (cj h2 (cj h2 (cj (Eq.refl true) (cj (Eq.refl true) (cj (Eq.refl true) (cj (Eq.refl true) (cj (Eq.refl true) (cj (Eq.refl true) (cj (Eq.refl true) (cj (Eq.refl true) (cj (Eq.refl true) (cj (Eq.refl true) True.intro)))))))))))))))) (by kernel_rfl))
theorem e1(c:ACam)(lon:Bool)(h1:Contract prg 42 [c.base.pv] (vB lon))(h2:lon=false)(h3:40<c.lift.breaks.length):Contract prg 41 [c.pv] (vB true) :=
 Contract.ofL Tryz.func41 (by kernel_rfl) (L.done mixed tabOk (n:=90) (ns:=[1,1,1,1,1,1,1,1,1,1,1,1,1,1,1,1,1,1]) (tr:=[.reg [],.reg [],.reg [.none,.none,(.pv (vB lon)),.none,.none,.none,(iI (c.lift.breaks.length:Int)),.none,(.dec false),.none,.skip,.skip,.skip,.skip,(.dec true),.none,.skip,.skip,.skip,.skip,.skip,.skip,.skip,.skip,.skip,.skip],.auto,.reg []]) (cj h1 (cj h2 (cj h2 (cj h2 (cj (o_len ARat.cells c.lift.breaks) (cj h2 (cj h2 (cj (dltN_t h3) (cj (dltN_t h3) (cj (dltN_t h3) (cj (dltN_t h3) (cj (dltN_t h3) (cj (Eq.refl true) (cj (Eq.refl true) (cj (Eq.refl true) (cj (Eq.refl true) (cj (Eq.refl true) (cj (Eq.refl true) True.intro)))))))))))))))))) (by kernel_rfl))
theorem e2(c:ACam)(lon:Bool)(h1:Contract prg 42 [c.base.pv] (vB lon))(h2:lon=false)(h3:c.lift.breaks.length≤40)(h4:40<c.lift.pieces.length):Contract prg 41 [c.pv] (vB true) :=
 Contract.ofL Tryz.func41 (by kernel_rfl) (L.done mixed tabOk (n:=90) (ns:=[1,1,1,1,1,1,1,1,1,1,1,1,1,1,1,1,1,1,1,1]) (tr:=[.reg [],.reg [],.reg [.none,.none,(.pv (vB lon)),.none,.none,.none,(iI (c.lift.breaks.length:Int)),.none,(.dec false),.none,.none,.none,(iI (c.lift.pieces.length:Int)),.none,(.dec false),.none,.skip,.skip,.skip,.skip,.skip,.skip,.skip,.skip,.skip,.skip,(.dec true)],.auto,.reg []]) (cj h1 (cj h2 (cj h2 (cj h2 (cj (o_len ARat.cells c.lift.breaks) (cj h2 (cj h2 (cj (dltN_f h3) (cj (dltN_f h3) (cj (dltN_f h3) (cj (o_len (lcell ARat.cells) c.lift.pieces) (cj (dltN_f h3) (cj (dltN_f h3) (cj (dltN_t h4) (cj (dltN_t h4) (cj (dltN_t h4) (cj (dltN_t h4) (cj (dltN_t h4) (cj (dltN_t h4) (cj (dltN_t h4) True.intro)))))))))))))))))))) (by kernel_rfl))
theorem e3(c:ACam)(lon:Bool)(h1:Contract prg 42 [c.base.pv] (vB lon))(h2:lon=false)(h3:c.lift.breaks.length≤40)(h4:c.lift.pieces.length≤40)(h5:5<c.lift.pieces.length)(h6:c.lift.pieces.length≤16):Contract prg 41 [c.pv] (vB true) :=
 Contract.ofL Tryz.func41 (by kernel_rfl) (L.done mixed tabOk (n:=90) (ns:=[1,1,1,1,1,1,1,1,1,1,1,1,1,1,1,1,1,1,1,1,1,1,1,1,1,1,1,1]) (tr:=[.reg [],.reg [],.reg [.none,.none,(.pv (vB lon)),.none,.none,.none,(iI (c.lift.breaks.length:Int)),.none,(.dec false),.none,.none,.none,(iI (c.lift.pieces.length:Int)),.none,(.dec false),.none,.none,.none,(iI (c.lift.pieces.length:Int)),.none,.none,.none,.none,(iI (c.lift.pieces.length:Int)),.none,(.dec true),(.dec false)],.dec true,.reg []]) (cj h1 (cj h2 (cj h2 (cj h2 (cj (o_len ARat.cells c.lift.breaks) (cj h2 (cj h2 (cj (dltN_f h3) (cj (dltN_f h3) (cj (dltN_f h3) (cj (o_len (lcell ARat.cells) c.lift.pieces) (cj (dltN_f h3) (cj (dltN_f h3) (cj (dltN_f h4) (cj (dltN_f h4) (cj (dltN_f h4) (cj (o_len (lcell ARat.cells) c.lift.pieces) (cj (dltN_f h4) (cj (dltN_f h4) (cj (dltN_t h5) (cj (dltN_t h5) (cj (dltN_t h5) (cj (o_len (lcell ARat.cells) c.lift.pieces) (cj (dltN_t h5) (cj (dltN_f h4) (cj (dltN_t h5) (cj (dltN_f h4) (cj (dleN_t h6) True.intro)))))))))))))))))))))))))))) (by kernel_rfl))
theorem e4(c:ACam)(lon:Bool){r:PV}(h1:Contract prg 42 [c.base.pv] (vB lon))(h2:lon=false)(h3:c.lift.breaks.length≤40)(h4:c.lift.pieces.length≤40)(h5:5<c.lift.pieces.length)(h6:16<c.lift.pieces.length)(hL:Loop1 0 c r):Contract prg 41 [c.pv] r :=
 Contract.ofL Tryz.func41 (by kernel_rfl) (L.go mixed tabOk (n:=102) (ns:=[1,1,1,1,1,1,1,1,1,1,1,1,1,1,1,1,1,1,1,1,1,1,1,1,1,1,1,1]) (tr:=[.reg [],.reg [],.reg [.none,.none,(.pv (vB lon)),.none,.none,.none,(iI (c.lift.breaks.length:Int)),.none,(.dec false),.none,.none,.none,(iI (c.lift.pieces.length:Int)),.none,(.dec false),.none,.none,.none,(iI (c.lift.pieces.length:Int)),.none,.none,.none,.none,(iI (c.lift.pieces.length:Int)),.none,(.dec true),(.dec false)],.dec false,.reg [],.keep [3,4],.drop [1]]) (cj h1 (cj h2 (cj h2 (cj h2 (cj (o_len ARat.cells c.lift.breaks) (cj h2 (cj h2 (cj (dltN_f h3) (cj (dltN_f h3) (cj (dltN_f h3) (cj (o_len (lcell ARat.cells) c.lift.pieces) (cj (dltN_f h3) (cj (dltN_f h3) (cj (dltN_f h4) (cj (dltN_f h4) (cj (dltN_f h4) (cj (o_len (lcell ARat.cells) c.lift.pieces) (cj (dltN_f h4) (cj (dltN_f h4) (cj (dltN_t h5) (cj (dltN_t h5) (cj (dltN_t h5) (cj (o_len (lcell ARat.cells) c.lift.pieces) (cj (dltN_t h5) (cj (dltN_f h4) (cj (dltN_t h5) (cj (dltN_f h4) (cj (dleN_f h6) True.intro)))))))))))))))))))))))))))) (by kernel_rfl) hL)
theorem e5(c:ACam)(lon:Bool){r:PV}(h1:Contract prg 42 [c.base.pv] (vB lon))(h2:lon=false)(h3:c.lift.breaks.length≤40)(h4:c.lift.pieces.length≤40)(h5:c.lift.pieces.length≤5)(hL:Loop1 0 c r):Contract prg 41 [c.pv] r :=
 Contract.ofL Tryz.func41 (by kernel_rfl) (L.go mixed tabOk (n:=102) (ns:=[1,1,1,1,1,1,1,1,1,1,1,1,1,1,1,1,1,1,1,1,1,1,1,1,1,1]) (tr:=[.reg [],.reg [],.reg [.none,.none,(.pv (vB lon)),.none,.none,.none,(iI (c.lift.breaks.length:Int)),.none,(.dec false),.none,.none,.none,(iI (c.lift.pieces.length:Int)),.none,(.dec false),.none,.none,.none,(iI (c.lift.pieces.length:Int)),.none,.none,.skip,.skip,.skip,.skip,(.dec false),(.dec false)],.auto,.reg [],.keep [3,4],.drop [1]]) (cj h1 (cj h2 (cj h2 (cj h2 (cj (o_len ARat.cells c.lift.breaks) (cj h2 (cj h2 (cj (dltN_f h3) (cj (dltN_f h3) (cj (dltN_f h3) (cj (o_len (lcell ARat.cells) c.lift.pieces) (cj (dltN_f h3) (cj (dltN_f h3) (cj (dltN_f h4) (cj (dltN_f h4) (cj (dltN_f h4) (cj (o_len (lcell ARat.cells) c.lift.pieces) (cj (dltN_f h4) (cj (dltN_f h4) (cj (dltN_f h5) (cj (dltN_f h5) (cj (dltN_f h5) (cj (dltN_f h5) (cj (dltN_f h4) (cj (dltN_f h5) (cj (dltN_f h4) True.intro)))))))))))))))))))))))))) (by kernel_rfl) hL)
theorem l10(i_4:Nat)(c:ACam)(v:ARat)(lon:Bool)(h1:i_4<c.lift.breaks.length)(h2:c.lift.breaks[i_4]? = some v)(h3:Contract prg 42 [v.pv] (vB lon))(h4:lon=true):Loop1 i_4 c (vB true) :=
 L.done mixed tabOk (n:=141) (ns:=[1,1,3,1,1]) (tr:=[.auto,.reg [.none,.none,.none,(iI (c.lift.breaks.length:Int))],.dec true,.reg [.none,.none,.none,(.row i_4 (ARat.cells v)),.none,(.pv (vB lon))],.dec true,.reg []]) (cj (o_len ARat.cells c.lift.breaks) (cj (dltN_t h1) (cj (o_at ARat.cells (Eq.refl (((i_4:Nat):Int):Int)) h2) (cj h3 (cj h4 True.intro))))) (by kernel_rfl)
theorem l11(i_4:Nat)(c:ACam)(v:ARat)(lon:Bool){r:PV}(h1:i_4<c.lift.breaks.length)(h2:c.lift.breaks[i_4]? = some v)(h3:Contract prg 42 [v.pv] (vB lon))(h4:lon=false)(h5:(i_4+1)<9223372036854775808)(hL:Loop1 (i_4+1) c r):Loop1 i_4 c r :=
 L.go mixed tabOk (n:=144) (ns:=[1,1,3,1,1,1]) (tr:=[.auto,.reg [.none,.none,.none,(iI (c.lift.breaks.length:Int))],.dec true,.reg [.none,.none,.none,(.row i_4 (ARat.cells v)),.none,(.pv (vB lon))],.dec false,.reg [.none,(iI (((i_4+1):Nat):Int))],.keep [3,4]]) (cj (o_len ARat.cells c.lift.breaks) (cj (dltN_t h1) (cj (o_at ARat.cells (Eq.refl (((i_4:Nat):Int):Int)) h2) (cj h3 (cj h4 (cj (bs_addN h5) True.intro)))))) (by kernel_rfl) hL
theorem l12(i_4:Nat)(c:ACam){r:PV}(h1:c.lift.breaks.length≤i_4)(hL:Loop2 0 c r):Loop1 i_4 c r :=
 L.go mixed tabOk (n:=144) (ns:=[1,1]) (tr:=[.auto,.reg [.none,.none,.none,(iI (c.lift.breaks.length:Int))],.dec false,.reg [],.keep [3,5]]) (cj (o_len ARat.cells c.lift.breaks) (cj (dltN_f h1) True.intro)) (by kernel_rfl) hL
theorem l20(i_5:Nat)(c:ACam)(v:List ARat)(h1:i_5<c.lift.pieces.length)(h2:c.lift.pieces[i_5]? = some v)(h3:6<v.length)(h4:v.length≤9):Loop2 i_5 c (vB true) :=
 L.done mixed tabOk (n:=186) (ns:=[1,1,3,1,1,1,1,1,3,1,1,1,1,1,1,1,1,1,1,1,1,1]) (tr:=[.auto,.reg [.none,.none,.none,(iI (c.lift.pieces.length:Int))],.dec true,.reg [.none,.none,.none,(.row i_5 ((lcell ARat.cells) v)),.none,(iI (v.length:Int)),.none,.none,.none,.none,.none,(.row i_5 ((lcell ARat.cells) v)),.none,(iI (v.length:Int)),.none,(.dec true),.none,.skip,.skip,.skip,.skip,.skip,.skip,.skip,(.dec true)],.auto,.reg []]) (cj (o_len (lcell ARat.cells) c.lift.pieces) (cj (dltN_t h1) (cj (o_at (lcell ARat.cells) (Eq.refl (((i_5:Nat):Int):Int)) h2) (cj (o_len ARat.cells v) (cj (dltN_t h3) (cj (dltN_t h3) (cj (dltN_t h3) (cj (dltN_t h3) (cj (o_at (lcell ARat.cells) (Eq.refl (((i_5:Nat):Int):Int)) h2) (cj (dltN_t h3) (cj (dltN_t h3) (cj (o_len ARat.cells v) (cj (dltN_t h3) (cj (dltN_t h3) (cj (dleN_t h4) (cj (dleN_t h4) (cj (dleN_t h4) (cj (dleN_t h4) (cj (dleN_t h4) (cj (dleN_t h4) (cj (dleN_t h4) (cj (dleN_t h4) True.intro)))))))))))))))))))))) (by kernel_rfl)
theorem l21(i_5:Nat)(c:ACam)(v:List ARat)(h1:i_5<c.lift.pieces.length)(h2:c.lift.pieces[i_5]? = some v)(h3:6<v.length)(h4:9<v.length)(h5:80<v.length):Loop2 i_5 c (vB true) :=
 L.done mixed tabOk (n:=186) (ns:=[1,1,3,1,1,1,1,1,3,1,1,1,1,1,1,1,1,1,3,1,1,1,1,1,1]) (tr:=[.auto,.reg [.none,.none,.none,(iI (c.lift.pieces.length:Int))],.dec true,.reg [.none,.none,.none,(.row i_5 ((lcell ARat.cells) v)),.none,(iI (v.length:Int)),.none,.none,.none,.none,.none,(.row i_5 ((lcell ARat.cells) v)),.none,(iI (v.length:Int)),.none,(.dec true),.none,.none,.none,.none,(.row i_5 ((lcell ARat.cells) v)),.none,(iI (v.length:Int)),.none,(.dec false)],.dec true,.reg []]) (cj (o_len (lcell ARat.cells) c.lift.pieces) (cj (dltN_t h1) (cj (o_at (lcell ARat.cells) (Eq.refl (((i_5:Nat):Int):Int)) h2) (cj (o_len ARat.cells v) (cj (dltN_t h3) (cj (dltN_t h3) (cj (dltN_t h3) (cj (dltN_t h3) (cj (o_at (lcell ARat.cells) (Eq.refl (((i_5:Nat):Int):Int)) h2) (cj (dltN_t h3) (cj (dltN_t h3) (cj (o_len ARat.cells v) (cj (dltN_t h3) (cj (dltN_t h3) (cj (dleN_f h4) (cj (dleN_f h4) (cj (dleN_f h4) (cj (dleN_f h4) (cj (o_at (lcell ARat.cells) (Eq.refl (((i_5:Nat):Int):Int)) h2) (cj (dleN_f h4) (cj (dleN_f h4) (cj (o_len ARat.cells v) (cj (dleN_f h4) (cj (dleN_f h4) (cj (dltN_t h5) True.intro))))))))))))))))))))))))) (by kernel_rfl)
theorem l22(i_5:Nat)(c:ACam)(v:List ARat){r:PV}(h1:i_5<c.lift.pieces.length)(h2:c.lift.pieces[i_5]? = some v)(h3:6<v.length)(h4:9<v.length)(h5:v.length≤80)(hL:Loop3 i_5 0 c r):Loop2 i_5 c r :=
 L.go mixed tabOk (n:=195) (ns:=[1,1,3,1,1,1,1,1,3,1,1,1,1,1,1,1,1,1,3,1,1,1,1,1,1]) (tr:=[.auto,.reg [.none,.none,.none,(iI (c.lift.pieces.length:Int))],.dec true,.reg [.none,.none,.none,(.row i_5 ((lcell ARat.cells) v)),.none,(iI (v.length:Int)),.none,.none,.none,.none,.none,(.row i_5 ((lcell ARat.cells) v)),.none,(iI (v.length:Int)),.none,(.dec true),.none,.none,.none,.none,(.row i_5 ((lcell ARat.cells) v)),.none,(iI (v.length:Int)),.none,(.dec false)],.dec false,.reg [],.keep [3,5,6]]) (cj (o_len (lcell ARat.cells) c.lift.pieces) (cj (dltN_t h1) (cj (o_at (lcell ARat.cells) (Eq.refl (((i_5:Nat):Int):Int)) h2) (cj (o_len ARat.cells v) (cj (dltN_t h3) (cj (dltN_t h3) (cj (dltN_t h3) (cj (dltN_t h3) (cj (o_at (lcell ARat.cells) (Eq.refl (((i_5:Nat):Int):Int)) h2) (cj (dltN_t h3) (cj (dltN_t h3) (cj (o_len ARat.cells v) (cj (dltN_t h3) (cj (dltN_t h3) (cj (dleN_f h4) (cj (dleN_f h4) (cj (dleN_f h4) (cj (dleN_f h4) (cj (o_at (lcell ARat.cells) (Eq.refl (((i_5:Nat):Int):Int)) h2) (cj (dleN_f h4) (cj (dleN_f h4) (cj (o_len ARat.cells v) (cj (dleN_f h4) (cj (dleN_f h4) (cj (dltN_f h5) True.intro))))))))))))))))))))))))) (by kernel_rfl) hL
theorem l24(i_5:Nat)(c:ACam)(v:List ARat){r:PV}(h1:i_5<c.lift.pieces.length)(h2:c.lift.pieces[i_5]? = some v)(h3:v.length≤6)(h4:v.length≤80)(hL:Loop3 i_5 0 c r):Loop2 i_5 c r :=
 L.go mixed tabOk (n:=195) (ns:=[1,1,3,1,1,1,1,1,1,1,1,1,1,1,1,1,3,1,1,1,1,1]) (tr:=[.auto,.reg [.none,.none,.none,(iI (c.lift.pieces.length:Int))],.dec true,.reg [.none,.none,.none,(.row i_5 ((lcell ARat.cells) v)),.none,(iI (v.length:Int)),.none,.none,.skip,.skip,.skip,.skip,.skip,.skip,.skip,(.dec false),.none,.none,.none,.none,(.row i_5 ((lcell ARat.cells) v)),.none,(iI (v.length:Int))],.dec false,.reg [],.keep [3,5,6]]) (cj (o_len (lcell ARat.cells) c.lift.pieces) (cj (dltN_t h1) (cj (o_at (lcell ARat.cells) (Eq.refl (((i_5:Nat):Int):Int)) h2) (cj (o_len ARat.cells v) (cj (dltN_f h3) (cj (dltN_f h3) (cj (dltN_f h3) (cj (dltN_f h3) (cj (dltN_f h3) (cj (dltN_f h3) (cj (dltN_f h3) (cj (dltN_f h3) (cj (Eq.refl false) (cj (Eq.refl false) (cj (Eq.refl false) (cj (Eq.refl false) (cj (o_at (lcell ARat.cells) (Eq.refl (((i_5:Nat):Int):Int)) h2) (cj (Eq.refl false) (cj (Eq.refl false) (cj (o_len ARat.cells v) (cj (Eq.refl false) (cj (dltN_f h4) True.intro)))))))))))))))))))))) (by kernel_rfl) hL
theorem l25(i_5:Nat)(c:ACam)(h1:c.lift.pieces.length≤i_5):Loop2 i_5 c (vB false) :=
 L.done mixed tabOk (n:=177) (ns:=[1,1]) (tr:=[.auto,.reg [.none,.none,.none,(iI (c.lift.pieces.length:Int))],.dec false,.reg []]) (cj (o_len (lcell ARat.cells) c.lift.pieces) (cj (dltN_f h1) True.intro)) (by kernel_rfl)
theorem l30(i_5 k_6:Nat)(c:ACam)(v:List ARat)(v1:ARat)(lon:Bool)(h1:c.lift.pieces[i_5]? = some v)(h2:k_6<v.length)(h3:v[k_6]? = some v1)(h4:Contract prg 42 [v1.pv] (vB lon))(h5:lon=true):Loop3 i_5 k_6 c (vB true) :=
 L.done mixed tabOk (n:=234) (ns:=[3,1,1,3,3,1,1]) (tr:=[.auto,.reg [.none,.none,.none,.none,(.row i_5 ((lcell ARat.cells) v)),.none,(iI (v.length:Int))],.dec true,.reg [.none,.none,.none,(.row i_5 ((lcell ARat.cells) v)),.none,.none,(.row k_6 (ARat.cells v1)),.none,(.pv (vB lon))],.dec true,.reg []]) (cj (o_at (lcell ARat.cells) (Eq.refl (((i_5:Nat):Int):Int)) h1) (cj (o_len ARat.cells v) (cj (dltN_t h2) (cj (o_at (lcell ARat.cells) (Eq.refl (((i_5:Nat):Int):Int)) h1) (cj (o_at ARat.cells (Eq.refl (((k_6:Nat):Int):Int)) h3) (cj h4 (cj h5 True.intro))))))) (by kernel_rfl)
theorem l31(i_5 k_6:Nat)(c:ACam)(v:List ARat)(v1:ARat)(lon:Bool){r:PV}(h1:c.lift.pieces[i_5]? = some v)(h2:k_6<v.length)(h3:v[k_6]? = some v1)(h4:Contract prg 42 [v1.pv] (vB lon))(h5:lon=false)(h6:(k_6+1)<9223372036854775808)(hL:Loop3 i_5 (k_6+1) c r):Loop3 i_5 k_6 c r :=
 L.go mixed tabOk (n:=237) (ns:=[3,1,1,3,3,1,1,1]) (tr:=[.auto,.reg [.none,.none,.none,.none,(.row i_5 ((lcell ARat.cells) v)),.none,(iI (v.length:Int))],.dec true,.reg [.none,.none,.none,(.row i_5 ((lcell ARat.cells) v)),.none,.none,(.row k_6 (ARat.cells v1)),.none,(.pv (vB lon))],.dec false,.reg [.none,(iI (((k_6+1):Nat):Int))],.keep [3,5,6]]) (cj (o_at (lcell ARat.cells) (Eq.refl (((i_5:Nat):Int):Int)) h1) (cj (o_len ARat.cells v) (cj (dltN_t h2) (cj (o_at (lcell ARat.cells) (Eq.refl (((i_5:Nat):Int):Int)) h1) (cj (o_at ARat.cells (Eq.refl (((k_6:Nat):Int):Int)) h3) (cj h4 (cj h5 (cj (bs_addN h6) True.intro)))))))) (by kernel_rfl) hL
theorem l32(i_5 k_6:Nat)(c:ACam)(v:List ARat){r:PV}(h1:c.lift.pieces[i_5]? = some v)(h2:v.length≤k_6)(h3:(i_5+1)<9223372036854775808)(hL:Loop2 (i_5+1) c r):Loop3 i_5 k_6 c r :=
 L.go mixed tabOk (n:=228) (ns:=[3,1,1,1]) (tr:=[.auto,.reg [.none,.none,.none,.none,(.row i_5 ((lcell ARat.cells) v)),.none,(iI (v.length:Int))],.dec false,.reg [.none,(iI (((i_5+1):Nat):Int))],.keep [3,5]]) (cj (o_at (lcell ARat.cells) (Eq.refl (((i_5:Nat):Int):Int)) h1) (cj (o_len ARat.cells v) (cj (dltN_f h2) (cj (bs_addN h3) True.intro)))) (by kernel_rfl) hL
end linkworklaw53_large
namespace linkworklaw53_long
theorem e0(x:ARat)(h1:(x.num.length+x.den.length)<9223372036854775808):Contract prg 42 [x.pv] (vB (decide ((((x.num.length+x.den.length):Nat):Int)>2))) :=
 Contract.ofL Tryz.func42 (by kernel_rfl) (L.done mixed tabOk (n:=72) (ns:=[1,1,1]) (tr:=[.reg [],.reg [.none,.none,(iI (x.num.length:Int)),.none,.none,(iI (x.den.length:Int)),(iI (((x.num.length+x.den.length):Nat):Int))]]) (cj (o_len wordPV x.num) (cj (o_len wordPV x.den) (cj (bs_addN h1) True.intro))) (by kernel_rfl))
end linkworklaw53_long
namespace linkworklaw53_valid
theorem e0(c:ACam)(lar:Bool)(che:Int)(h1:Contract prg 41 [c.pv] (vB lar))(h2:lar=false)(h3:Contract prg 46 [c.pv] (vI che)):Contract prg 62 [c.pv] (vB (che==0)) :=
 Contract.ofL Tryz.func62 (by kernel_rfl) (L.done mixed tabOk (n:=72) (ns:=[1,1,1,1,1,1]) (tr:=[.reg [],.reg [.none,(.pv (vB lar)),.none,.none,.none,(.pv (vI che)),.none,(.dec true)]]) (cj h1 (cj (bnot_t h2) (cj (bnot_t h2) (cj h3 (cj (bnot_t h2) (cj (bnot_t h2) True.intro)))))) (by kernel_rfl))
theorem e1(c:ACam)(lar:Bool)(h1:Contract prg 41 [c.pv] (vB lar))(h2:lar=true):Contract prg 62 [c.pv] (vB false) :=
 Contract.ofL Tryz.func62 (by kernel_rfl) (L.done mixed tabOk (n:=72) (ns:=[1,1,1,1,1]) (tr:=[.reg [],.reg [.none,(.pv (vB lar)),.none,.none,.skip,.skip,.skip,(.dec false)]]) (cj h1 (cj (bnot_f h2) (cj (bnot_f h2) (cj (bnot_f h2) (cj (bnot_f h2) True.intro))))) (by kernel_rfl))
end linkworklaw53_valid
namespace linkworklaw53_example
theorem e0(par par1:ARat)(h1:Contract prg 105 [(vI 1),(vI 1)] par.pv)(h2:Contract prg 105 [(vI 1),(vI 1)] par1.pv):Contract prg 104 [] ((⟨par,(⟨[(⟨false,[],[]⟩:ARat)],[[(⟨false,[],[]⟩:ARat),par1]]⟩:ALaw)⟩:ACam).pv) :=
 Contract.ofL Tryz.func104 (by kernel_rfl) (L.done mixed tabOk (n:=72) (ns:=[1,3,1,3,3]) (tr:=[.reg [],.reg [(.pv par.pv),.none,(.slc 0 0 (([(⟨false,[],[]⟩:ARat)]:List ARat).map ARat.cells)),.none,(.pv par1.pv),(.slc 0 0 (([(⟨false,[],[]⟩:ARat),par1]:List ARat).map ARat.cells)),(.slc 0 0 (([[(⟨false,[],[]⟩:ARat),par1]]:List (List ARat)).map (lcell ARat.cells)))]]) (cj h1 (cj (o_bs sz_ARat ([(⟨false,[],[]⟩:ARat)]:List ARat)) (cj h2 (cj (o_bs sz_ARat ([(⟨false,[],[]⟩:ARat),par1]:List ARat)) (cj (o_bs (sz_l ARat.cells) ([[(⟨false,[],[]⟩:ARat),par1]]:List (List ARat))) True.intro))))) (by kernel_rfl))
end linkworklaw53_example
namespace linkworklaw53_part
theorem e0(n d:Int)(mak:ARat)(mak1:Int)(h1:Contract prg 86 [(vI n),(vI d)] (.tup [mak.pv,(vI mak1)])):Contract prg 105 [(vI n),(vI d)] mak.pv :=
 Contract.ofL Tryz.func105 (by kernel_rfl) (L.done mixed tabOk (n:=78) (ns:=[1]) (tr:=[.reg [],.reg [.none,.none,(.pv (.tup [mak.pv,(vI mak1)]))],.reg []]) (cj h1 True.intro) (by kernel_rfl))
end linkworklaw53_part
end Go.Proofs.YtbgkjomonebfcaaGreat.Sym.Path
namespace Go.Proofs.YtbgkjomonebfcaaGreat.Sym
open Go Path CInt
set_option linter.unusedVariables false
theorem short_valid{a:ARat}(hv:a.valid=true)(h:a.num.length+a.den.length≤2):a.num.length≤1∧a.den.length≤1:=by
 by_cases h0:a.num=[]
 ·rw[valid_zero hv h0];simp
 ·obtain⟨h1,_⟩:=valid_parts hv h0
  have:=List.length_pos_iff.2 h0
  have:=List.length_pos_iff.2 h1
  omega
namespace C53
theorem part(n d:Int)(hn:InI64 n)(hd:InI64 d)(h0:d≠0):Contract prg 105 [vI n,vI d] (mkR (Rat.divInt n d)).pv :=
 linkworklaw53_part.e0 n d _ _ (CRb.Make n d hn hd h0)
def exC:ACam:=⟨mkR (Rat.divInt 1 1),⟨[⟨false,[],[]⟩],[[⟨false,[],[]⟩,mkR (Rat.divInt 1 1)]]⟩⟩
theorem example':Contract prg 104 [] exC.pv :=
 linkworklaw53_example.e0 _ _ (part 1 1 (by unfold InI64;decide) (by unfold InI64;decide) (by decide)) (part 1 1 (by unfold InI64;decide) (by unfold InI64;decide) (by decide))
theorem exC_good:GCam exC:=⟨by decide +kernel,by decide +kernel,by decide +kernel,by decide +kernel,⟨by decide +kernel,by decide +kernel⟩,by decide +kernel⟩
theorem exC_conv:convC exC=true:=by decide +kernel
theorem ratR'(q:Rat)(hq:ht q≤68719476736):Contract prg 49 [(mkR q).pv,(mkR q).pv] (vB true):=by
 have h:=fit_mkRk hq
 have:=CBa.Rat (mkR q) (mkR q) (by omega) (by omega)
 rwa[eqR_self] at this
theorem awake:Contract prg 40 [] (vB true):=by
 have p1:=part 113 710 (by unfold InI64;decide) (by unfold InI64;decide) (by decide)
 have p2:=part 53 333 (by unfold InI64;decide) (by unfold InI64;decide) (by decide)
 have hpr:=CCa.Pressure exC_good 0 (by decide) (by decide +kernel)
 have hcv:=CCa.Convex exC_good
 rw[exC_conv] at hcv
 have e1:minR (tanP exC 0 piHi) (tanP exC 0 piLo)=Rat.divInt 113 710:=by decide +kernel
 have e2:maxR (tanP exC 0 piHi) (tanP exC 0 piLo)=Rat.divInt 53 333:=by decide +kernel
 rw[e1,e2] at hpr
 exact linkworklaw53_awake.e0 _ _ _ _ _ _ _ _ example' hpr example' hcv rfl p1 (ratR' _ (by decide +kernel)) rfl p2 (ratR' _ (by decide +kernel))
theorem long(x:ARat)(h:x.num.length+x.den.length<9223372036854775808):Contract prg 42 [x.pv] (vB (decide (2<x.num.length+x.den.length))):=by
 have:=linkworklaw53_long.e0 x h
 rwa[show decide ((((x.num.length+x.den.length):Nat):Int)>2)=decide (2<x.num.length+x.den.length) from by congr 1;apply propext;omega] at this
abbrev S2(l:List ARat):Prop:=∀a∈l,a.num.length+a.den.length≤2
structure SmallC (c:ACam):Prop where
 base:c.base.num.length+c.base.den.length≤2
 nb:c.lift.breaks.length≤40
 np:c.lift.pieces.length≤40
 nq:c.lift.pieces.length≤5∨16<c.lift.pieces.length
 sb:S2 c.lift.breaks
 sp:∀p∈c.lift.pieces,S2 p∧p.length≤80∧(p.length≤6∨9<p.length)
def Held(c:ACam):Prop:=c.base.num.length+c.base.den.length<9223372036854775808∧(∀a∈c.lift.breaks,a.num.length+a.den.length<9223372036854775808)∧∀p∈c.lift.pieces,∀a∈p,a.num.length+a.den.length<9223372036854775808
theorem large(c:ACam)(hh:Held c):Contract prg 41 [c.pv] (vB true)∨(SmallC c∧Contract prg 41 [c.pv] (vB false)):=by
 have hlb:=long c.base hh.1
 by_cases h0:2<c.base.num.length+c.base.den.length
 ·exact Or.inl (linkworklaw53_large.e0 c _ hlb (decide_eq_true h0))
 have h0':=decide_eq_false h0
 by_cases h1:40<c.lift.breaks.length
 ·exact Or.inl (linkworklaw53_large.e1 c _ hlb h0' h1)
 by_cases h2:40<c.lift.pieces.length
 ·exact Or.inl (linkworklaw53_large.e2 c _ hlb h0' (by omega) h2)
 by_cases h3:5<c.lift.pieces.length∧c.lift.pieces.length≤16
 ·exact Or.inl (linkworklaw53_large.e3 c _ hlb h0' (by omega) (by omega) h3.1 h3.2)
 have loop3:∀(i:Nat) (v:List ARat),c.lift.pieces[i]? = some v→(linkworklaw53_large.Loop2 (i+1) c (vB true)∨((∀p∈c.lift.pieces.drop (i+1),S2 p∧p.length≤80∧(p.length≤6∨9<p.length))∧linkworklaw53_large.Loop2 (i+1) c (vB false))) →
   v.length≤80→∀(j k:Nat),v.length-k=j→(linkworklaw53_large.Loop3 i k c (vB true)∨(S2 (v.drop k)∧(∀p∈c.lift.pieces.drop (i+1),S2 p∧p.length≤80∧(p.length≤6∨9<p.length))∧linkworklaw53_large.Loop3 i k c (vB false))):=by
  intro i v hv hnext hlv j
  have hi:=(List.getElem?_eq_some_iff.1 hv).1
  induction j with
  |zero =>
   intro k hj
   rcases hnext with h|⟨h,h'⟩
   ·exact Or.inl (linkworklaw53_large.l32 i k c v hv (by omega) (by omega) h)
   ·refine Or.inr ⟨?_,h,linkworklaw53_large.l32 i k c v hv (by omega) (by omega) h'⟩
    rw[List.drop_of_length_le (by omega)];exact fun a ha=>by cases ha
  |succ j ih =>
   intro k hj
   obtain⟨u,hu⟩:∃u,v[k]? = some u:=⟨_,List.getElem?_eq_getElem (by omega)⟩
   have hl:=long u (hh.2.2 v (List.mem_of_getElem? hv) u (List.mem_of_getElem? hu))
   by_cases h4:2<u.num.length+u.den.length
   ·exact Or.inl (linkworklaw53_large.l30 i k c v u _ hv (by omega) hu hl (decide_eq_true h4))
   ·rcases ih (k+1) (by omega) with h|⟨h,h',h''⟩
    ·exact Or.inl (linkworklaw53_large.l31 i k c v u _ hv (by omega) hu hl (decide_eq_false h4) (by omega) h)
    ·refine Or.inr ⟨?_,h',linkworklaw53_large.l31 i k c v u _ hv (by omega) hu hl (decide_eq_false h4) (by omega) h''⟩
     rw[drop_cons hu]
     intro a ha
     rcases List.mem_cons.1 ha with e|ha
     ·rw[e];omega
     ·exact h a ha
 have loop2:∀(j i:Nat),c.lift.pieces.length-i=j→(linkworklaw53_large.Loop2 i c (vB true)∨((∀p∈c.lift.pieces.drop i,S2 p∧p.length≤80∧(p.length≤6∨9<p.length))∧linkworklaw53_large.Loop2 i c (vB false))):=by
  intro j
  induction j with
  |zero =>
   intro i hj
   refine Or.inr ⟨?_,linkworklaw53_large.l25 i c (by omega)⟩
   rw[List.drop_of_length_le (by omega)];exact fun a ha=>by cases ha
  |succ j ih =>
   intro i hj
   obtain⟨v,hv⟩:∃v,c.lift.pieces[i]? = some v:=⟨_,List.getElem?_eq_getElem (by omega)⟩
   by_cases h9:6<v.length∧v.length≤9
   ·exact Or.inl (linkworklaw53_large.l20 i c v (by omega) hv h9.1 h9.2)
   ·have go:∀b,linkworklaw53_large.Loop3 i 0 c (vB b)→v.length≤80→linkworklaw53_large.Loop2 i c (vB b):=by
     intro b hb h80
     by_cases h6:6<v.length
     ·exact linkworklaw53_large.l22 i c v (by omega) hv h6 (by omega) h80 hb
     ·exact linkworklaw53_large.l24 i c v (by omega) hv (by omega) h80 hb
    by_cases h80:80<v.length
    ·exact Or.inl (linkworklaw53_large.l21 i c v (by omega) hv (by omega) (by omega) h80)
    ·rcases loop3 i v hv (ih (i+1) (by omega)) (by omega) _ 0 rfl with h|⟨h,h',h''⟩
     ·exact Or.inl (go _ h (by omega))
     ·refine Or.inr ⟨?_,go _ h'' (by omega)⟩
      rw[drop_cons hv]
      intro p hp
      rcases List.mem_cons.1 hp with e|hp
      ·rw[e];exact⟨by rwa[List.drop_zero] at h,by omega,by omega⟩
      ·exact h' p hp
 have loop1:∀(j i:Nat),c.lift.breaks.length-i=j→(linkworklaw53_large.Loop1 i c (vB true)∨(S2 (c.lift.breaks.drop i)∧(∀p∈c.lift.pieces,S2 p∧p.length≤80∧(p.length≤6∨9<p.length))∧linkworklaw53_large.Loop1 i c (vB false))):=by
  intro j
  induction j with
  |zero =>
   intro i hj
   rcases loop2 _ 0 rfl with h|⟨h,h'⟩
   ·exact Or.inl (linkworklaw53_large.l12 i c (by omega) h)
   ·rw[List.drop_zero] at h
    refine Or.inr ⟨?_,h,linkworklaw53_large.l12 i c (by omega) h'⟩
    rw[List.drop_of_length_le (by omega)];exact fun a ha=>by cases ha
  |succ j ih =>
   intro i hj
   obtain⟨u,hu⟩:∃u,c.lift.breaks[i]? = some u:=⟨_,List.getElem?_eq_getElem (by omega)⟩
   have hl:=long u (hh.2.1 u (List.mem_of_getElem? hu))
   by_cases h4:2<u.num.length+u.den.length
   ·exact Or.inl (linkworklaw53_large.l10 i c u _ (by omega) hu hl (decide_eq_true h4))
   ·rcases ih (i+1) (by omega) with h|⟨h,h',h''⟩
    ·exact Or.inl (linkworklaw53_large.l11 i c u _ (by omega) hu hl (decide_eq_false h4) (by omega) h)
    ·refine Or.inr ⟨?_,h',linkworklaw53_large.l11 i c u _ (by omega) hu hl (decide_eq_false h4) (by omega) h''⟩
     rw[drop_cons hu]
     intro a ha
     rcases List.mem_cons.1 ha with e|ha
     ·rw[e];omega
     ·exact h a ha
 have go:∀b,linkworklaw53_large.Loop1 0 c (vB b)→Contract prg 41 [c.pv] (vB b):=by
  intro b hb
  by_cases h5:5<c.lift.pieces.length
  ·exact linkworklaw53_large.e4 c _ hlb h0' (by omega) (by omega) h5 (by omega) hb
  ·exact linkworklaw53_large.e5 c _ hlb h0' (by omega) (by omega) (by omega) hb
 rcases loop1 _ 0 rfl with h|⟨h,h',h''⟩
 ·exact Or.inl (go _ h)
 ·rw[List.drop_zero] at h
  exact Or.inr ⟨⟨by omega,by omega,by omega,by omega,h,h'⟩,go _ h''⟩
theorem small_fit{c:ACam}(s:SmallC c):FitW 2 c.lift:=⟨fun a ha=>by have:=s.sb a ha;omega,fun p hp a ha=>by have:=(s.sp p hp).1 a ha;omega⟩
theorem small_good{c:ACam}(s:SmallC c)(h:chkCam c=0):GCam c:=by
 obtain⟨h1,h2,h3⟩:=chkCam_zero h
 have g:=good_of h1
 have hb:=short_valid h2 s.base
 refine⟨h1,h2,h3,ht_fit (k:=4) (by omega) (by omega) (by omega),⟨fun a ha=>short_valid (List.all_eq_true.1 g.valid a ha) (s.sb a ha),fun p hp a ha=>short_valid (List.all_eq_true.1 (chk_valid (g.ps p hp).1) a ha) ((s.sp p hp).1 a ha)⟩,fun p hp => ?_⟩
 have:=(s.sp p hp).2.2
 have:=(g.ps p hp).2
 omega
end C53
end Go.Proofs.YtbgkjomonebfcaaGreat.Sym
namespace Go.Proofs.YtbgkjomonebfcaaGreat.Sym
open Go Go.RowKit Go.ChangeShapes Go.WideShapes
set_option linter.unusedVariables false
theorem opens_ALaw:Opens prg 74 ALaw.cells (fun l=>(∀a∈l.breaks,LenR a)∧∀p∈l.pieces,∀a∈p,LenR a):=by
 intro H enc w base spare held fuel cs x h hwt
 obtain⟨fs,hu,e⟩:=flds_spec (show fldsOf (prg.underlying 74)=some [(22,0),(72,1)] by kernel_rfl)
 have hl:=opens_struct hu h
 have hl:cs.length=1+1:=hl.trans (by kernel_rfl)
 obtain⟨a,r0,q0⟩:=opens_field hu h hwt 0 0 1 (e 0) (by kernel_rfl) opens_rats
 obtain⟨b,r1,q1⟩:=opens_field hu h hwt 1 1 1 (e 1) (by kernel_rfl) opens_polys
 refine⟨⟨a,b⟩,?_,q0,q1⟩
 rw[split2 cs 1 1 hl]
 exact rdCells_append r0 r1
theorem opens_ACam:Opens prg 76 ACam.cells C53.Held:=by
 intro H enc w base spare held fuel cs x h hwt
 obtain⟨fs,hu,e⟩:=flds_spec (show fldsOf (prg.underlying 76)=some [(26,0),(74,3)] by kernel_rfl)
 have hl:=opens_struct hu h
 have hl:cs.length=3+2:=hl.trans (by kernel_rfl)
 obtain⟨a,r0,q0⟩:=opens_field hu h hwt 0 0 3 (e 0) (by kernel_rfl) opens_ARat
 obtain⟨b,r1,q1,q2⟩:=opens_field hu h hwt 1 3 2 (e 1) (by kernel_rfl) opens_ALaw
 refine⟨⟨a,b⟩,?_,lenR_sum q0,fun u hu=>lenR_sum (q1 u hu),fun p hp u hu=>lenR_sum (q2 p hp u hu)⟩
 rw[split2 cs 3 2 hl]
 exact rdCells_append r0 r1
end Go.Proofs.YtbgkjomonebfcaaGreat.Sym

namespace Go.Proofs.YtbgkjomonebfcaaGreat.Sym
open Go Path CInt
set_option linter.unusedVariables false
theorem allF_iff{c:ACam}(g:GCam c)(byV f:Rat)(d:ALaw):∀j t,t+j=c.lift.pieces.length→(allF c byV f d j t=true↔∀i,t≤i→i<c.lift.pieces.length→Pos (combL c.base.val byV (pcW c.lift i) f (pcW d i)) 0 (lenW c.lift i))
 |0,t,h=>by
  constructor
  ·intro _ i h1 h2;omega
  ·intro _;rfl
 |j+1,t,h=>by
  have gl:=good_of g.law
  have hlen:=gl.len
  have ih:=allF_iff g byV f d j (t+1) (by omega)
  have hp:=posB_iff (p:=combL c.base.val byV (pcW c.lift t) f (pcW d t)) (lastZ_trimL _) (Rat.le_of_lt (lenW_pos gl (t:=t) (by omega)))
  rw[allF]
  cases hb:posB (combL c.base.val byV (pcW c.lift t) f (pcW d t)) (lenW c.lift t) with
  |false =>
   rw[cond_false]
   constructor
   ·intro h;cases h
   ·intro hi
    have:=hp.2 (hi t (Nat.le_refl _) (by omega))
    rw[hb] at this;cases this
  |true =>
   rw[cond_true,ih]
   constructor
   ·intro hi i h1 h2
    by_cases e:i=t
    ·subst e;exact hp.1 hb
    ·exact hi i (by omega) h2
   ·intro hi i h1 h2;exact hi i (by omega) h2
theorem allC_iff{c:ACam}(g:GCam c){byV f:Rat}{d:ALaw} : allC c byV f d=true↔∀i,i<c.lift.pieces.length→Pos (combL c.base.val byV (pcW c.lift i) f (pcW d i)) 0 (lenW c.lift i):=by
 unfold allC
 rw[allF_iff g byV f d _ 0 (by omega)]
 exact⟨fun h i hi=>h i (Nat.zero_le _) hi,fun h i _ hi=>h i hi⟩
theorem allC_at{c:ACam}(g:GCam c){byV f:Rat}{d:ALaw}(hd:vals d.breaks=vals c.lift.breaks)(hb:∀t,brkW d t=brkW c.lift t)(h:allC c byV f d=true)(x:Rat):0<byV*radC c x+f*atW d x:=by
 have gl:=good_of g.law
 have hlen:=gl.len
 obtain⟨s1,s2,s3⟩:=piece_spec gl (frac_ge x) (frac_lt x)
 have hp:=(allC_iff g).1 h (pieceL (vals c.lift.breaks) (frac x)) (by omega)
 obtain⟨k,k1,k2⟩:=hp
 have:=k2 (frac x-brkW c.lift (pieceL (vals c.lift.breaks) (frac x))) (by grind) (by unfold lenW;grind)
 rw[combL_eval] at this
 unfold radC
 rw[atW_eq (l:=d),hd,hb,atW_eq (l:=c.lift)]
 grind
theorem brk_derive(l:ALaw)(t:Nat):brkW (deriveW l) t=brkW l t:=by
 have e:∀m:ALaw,brkW m t=((vals m.breaks)[t]?).getD 0:=by
  intro m
  unfold brkW vals
  rw[List.getElem?_map]
  cases m.breaks[t]? <;> rfl
 rw[e,e,deriveW_br]
theorem posC_at{c:ACam}(g:GCam c)(h:posC c=true)(x:Rat):0<radC c x:=by
 have:=allC_at g rfl (fun _=>rfl) h x
 grind
theorem withC_parts{c:ACam}{limit:Rat}(h:withC c limit=true):allC c (byW limit) (-1) (deriveW c.lift)=true∧allC c (byW limit) 1 (deriveW c.lift)=true∧posC c=true:=by
 unfold withC at h
 rw[Bool.and_eq_true,Bool.and_eq_true] at h
 exact h
theorem withC_at{c:ACam}(g:GCam c){limit:Rat}(h:withC c limit=true)(x:Rat):0<radC c x∧atW (deriveW c.lift) x<byW limit*radC c x ∧ -(byW limit*radC c x)<atW (deriveW c.lift) x:=by
 obtain⟨h1,h2,h3⟩:=withC_parts h
 have a1:=allC_at g (deriveW_br _) (brk_derive _) h1 x
 have a2:=allC_at g (deriveW_br _) (brk_derive _) h2 x
 exact⟨posC_at g h3 x,by grind,by grind⟩
theorem min_le_max(a b:Rat):minR a b≤maxR a b:=by
 rcases Rat.le_total (a:=a) (b:=b) with h|h
 ·unfold minR maxR;rw[if_pos (cmpR_le.2 h)];split<;>simp_all
 ·have:=cmpR_ge.2 h
  unfold minR maxR;rw[if_pos this];split<;>simp_all
theorem lo_pos:0<piLo:=by decide +kernel
theorem lo_hi:piLo<piHi:=by decide +kernel
theorem div_le'{a b c:Rat}(hb:0<b)(h:a≤c*b):a/b≤c:=by
 have:=Rat.mul_le_mul_of_nonneg_right h (Rat.le_of_lt (Rat.inv_pos.2 hb))
 rw[Rat.mul_assoc,Rat.mul_inv_cancel _ (by grind),Rat.mul_one] at this
 rwa[Rat.div_def]
theorem le_div'{a b c:Rat}(hb:0<b)(h:c*b≤a):c≤a/b:=by
 have:=Rat.mul_le_mul_of_nonneg_right h (Rat.le_of_lt (Rat.inv_pos.2 hb))
 rw[Rat.mul_assoc,Rat.mul_inv_cancel _ (by grind),Rat.mul_one] at this
 rwa[Rat.div_def]
theorem tan_in{c:ACam}(g:GCam c){limit:Rat}(h0:0<limit)(h:withC c limit=true)(x:Rat){pi:Rat}(hp:piLo≤pi) : -limit≤tanP c x pi∧tanP c x pi≤limit:=by
 obtain⟨h1,h2,h3⟩:=withC_at g h x
 have hlo:=lo_pos
 have e1:0<limit*radC c x:=Rat.mul_pos h0 h1
 have e2:limit*radC c x*piLo≤limit*radC c x*pi:=Rat.mul_le_mul_of_nonneg_left hp (Rat.le_of_lt e1)
 have e3:0<radC c x*pi:=Rat.mul_pos h1 (by grind)
 have e4:byW limit*radC c x=2*(limit*radC c x*piLo):=by unfold byW;grind
 have e5:limit*(2*radC c x*pi)=2*(limit*radC c x*pi):=by grind
 have e6 : -limit*(2*radC c x*pi) = -(2*(limit*radC c x*pi)):=by grind
 unfold tanP
 exact⟨le_div' (by grind) (by grind),div_le' (by grind) (by grind)⟩
theorem conv_at{c:ACam}(g:GCam c)(h:convC c=true)(x:Rat):0<curP c x piLo∧0<curP c x piHi:=by
 unfold convC at h
 rw[Bool.and_eq_true] at h
 have b:∀t,brkW (deriveW (deriveW c.lift)) t=brkW c.lift t:=fun t=>by rw[brk_derive,brk_derive]
 have v:vals (deriveW (deriveW c.lift)).breaks=vals c.lift.breaks:=by rw[deriveW_br,deriveW_br]
 have a1:=allC_at g v b h.1 x
 have a2:=allC_at g v b h.2 x
 unfold curP
 constructor<;>grind
namespace CIv
theorem Inside(r s:ARange)(h:FitG 68719476736 r)(h':FitG 68719476736 s):Contract prg 64 [r.pv,s.pv] (vB (decide (loG s≤loG r∧hiG r≤hiG s))):=by
 have hc:=clean r h
 have l1:=ht_loG h (by omega)
 have l2:=ht_hiG h (by omega)
 have le:=loG_le r
 have c1:=Contains s (loG r) h' l1
 have c2:=Contains s (hiG r) h' l2
 by_cases b1:loG s≤loG r∧loG r≤hiG s
 ·have:=interval_Inside.e0 r s (mkG (loG r) (hiG r)) _ _ hc c1 (decide_eq_true b1) c2
  rwa[show decide (loG s≤hiG r∧hiG r≤hiG s)=decide (loG s≤loG r∧hiG r≤hiG s) from by
   congr 1;apply propext;constructor<;>(intro ⟨u,v⟩;exact⟨by grind,v⟩)] at this
 ·have:=interval_Inside.e1 r s (mkG (loG r) (hiG r)) _ hc c1 (decide_eq_false b1)
  rwa[show false=decide (loG s≤loG r∧hiG r≤hiG s) from(decide_eq_false (by intro⟨u,v⟩;exact b1 ⟨u,by grind⟩)).symm] at this
end CIv
namespace C53
theorem valid(c:ACam)(hh:Held c):Contract prg 62 [c.pv] (vB false)∨(chkCam c=0∧SmallC c∧Contract prg 62 [c.pv] (vB true)):=by
 rcases large c hh with hl|⟨s,hl⟩
 ·exact Or.inl (linkworklaw53_valid.e1 c _ hl rfl)
 have hck2:=CCr.Check c (fitW_up (small_fit s) (by omega)) (by have:=s.base;omega)
 have:=linkworklaw53_valid.e0 c _ _ hl rfl hck2
 by_cases h:chkCam c=0
 ·rw[h] at this;exact Or.inr ⟨h,s,this⟩
 ·rw[show (chkCam c==0)=false from by simpa using h] at this
  exact Or.inl this
theorem gate(a:ARat)(ha:a.num.length+a.den.length<9223372036854775808)(h2:¬2<a.num.length+a.den.length):Contract prg 48 [a.pv] (vB a.valid)∧Contract prg 59 [a.pv] (vI (cmpR a.val 0)) :=
 ⟨CRb.Valid a ⟨by omega,by omega⟩,CRb.Sign a ⟨by omega,by omega⟩⟩
theorem CamProves(c:ACam)(limit x:ARat)(hh:Held c)(hx:limit.num.length+limit.den.length<9223372036854775808)(hy:x.num.length+x.den.length<9223372036854775808):Contract prg 12 [c.pv,limit.pv,x.pv] (vB true):=by
 rcases valid c hh with hv|⟨h,s,hv⟩
 ·exact linkworklaw53_CamProves.e1 c _ _ _ _ _ awake rfl hv rfl awake
 have l1:=long limit hx
 have l2:=long x hy
 by_cases g1:2<limit.num.length+limit.den.length
 ·exact linkworklaw53_CamProves.e2 c _ _ _ _ _ _ awake rfl hv rfl l1 (decide_eq_true g1) awake
 by_cases g2:2<x.num.length+x.den.length
 ·exact linkworklaw53_CamProves.e3 c _ _ _ _ _ _ _ awake rfl hv rfl l1 (decide_eq_false g1) l2 (decide_eq_true g2) awake
 obtain⟨v1,s1⟩:=gate limit hx g1
 obtain⟨v2,s2⟩:=gate x hy g2
 cases hvl:limit.valid with
 |false=>rw[hvl] at v1;exact linkworklaw53_CamProves.e4 c _ _ _ _ _ _ _ _ awake rfl hv rfl l1 (decide_eq_false g1) l2 (decide_eq_false g2) v1 rfl awake
 |true =>
  rw[hvl] at v1
  by_cases q1:0<limit.val
  ·cases hvm:x.valid with
   |false=>rw[hvm] at v2;exact linkworklaw53_CamProves.e6 c _ _ _ _ _ _ _ _ _ _ awake rfl hv rfl l1 (decide_eq_false g1) l2 (decide_eq_false g2) v1 rfl s1 (cmpR_gt.2 q1) v2 rfl awake
   |true =>
    rw[hvm] at v2
    have g:=small_good s h
    have w1:=short_valid hvl (by omega:limit.num.length+limit.den.length≤2)
    have w2:=short_valid hvm (by omega:x.num.length+x.den.length≤2)
    have t1:ht limit.val≤1:=ht_fit w1.1 w1.2 (by omega)
    have t2:ht x.val≤1:=ht_fit w2.1 w2.2 (by omega)
    have e1:=mkR_of hvl
    have e2:=mkR_of hvm
    have hx4:ht x.val≤4:=by omega
    have c1:=CCa.Within g (limit:=limit.val) (by omega) q1
    rw[e1] at c1
    have c2:=CCa.Convex g
    have c3:=CCa.Positive g
    have r1:=CCa.Radius g x.val hx4
    have r3:=CCa.Curvature g x.val hx4
    rw[e2] at r1 r3
    have hr:=CCa.ht_rad g hx4
    have hd:=ht_atD (good_of (gder2 g).good) (gder2 g).fit hx4
    have z1:ht (sqP piHi)≤1:=by decide +kernel
    have z2:ht (sqP piLo)≤1:=by decide +kernel
    have m1:=ht_mul (atW (deriveW (deriveW c.lift)) x.val) (sqP piHi)
    have m2:=ht_mul (atW (deriveW (deriveW c.lift)) x.val) (sqP piLo)
    have a1:=ht_add (radC c x.val) (atW (deriveW (deriveW c.lift)) x.val*sqP piHi)
    have a2:=ht_add (radC c x.val) (atW (deriveW (deriveW c.lift)) x.val*sqP piLo)
    have p1:ht piHi≤1:=by decide
    have p2:ht piLo≤1:=by decide
    have z3:ht (2:Rat)≤1:=by decide
    have hd1:=ht_atD (good_of (gder1 g).good) (gder1 g).fit hx4
    have n0:=ht_mul 2 (radC c x.val)
    have n1:=ht_mul (2*radC c x.val) piHi
    have n2:=ht_mul (2*radC c x.val) piLo
    have d1:=ht_div (atW (deriveW c.lift) x.val) (2*radC c x.val*piHi)
    have d2:=ht_div (atW (deriveW c.lift) x.val) (2*radC c x.val*piLo)
    have sr:=QF.Sign (radC c x.val) (by omega)
    have neg:=QF.Neg limit.val (by omega)
    rw[e1] at neg
    have conv:convC c=true→∃n:Int,Contract prg 39 [(mkG (minR (curP c x.val piHi) (curP c x.val piLo)) (maxR (curP c x.val piHi) (curP c x.val piLo))).lo.pv] (vI n)∧0<n:=by
     intro hc
     obtain⟨k1,k2⟩:=conv_at g hc x.val
     have hm:=QF.Sign (minR (curP c x.val piHi) (curP c x.val piLo)) (Nat.le_trans (ht_min _ _ (k:=8000) (by unfold curP;omega) (by unfold curP;omega)) (by omega))
     refine⟨_,hm,cmpR_gt.2 ?_⟩
     unfold minR
     split<;>assumption
    have pres:withC c limit.val=true→Contract prg 44 [c.pv,x.pv] (.tup [(mkG (minR (tanP c x.val piHi) (tanP c x.val piLo)) (maxR (tanP c x.val piHi) (tanP c x.val piLo))).pv,.nilI])∧Contract prg 64 [(mkG (minR (tanP c x.val piHi) (tanP c x.val piLo)) (maxR (tanP c x.val piHi) (tanP c x.val piLo))).pv,(⟨mkR (-limit.val),limit⟩:ARange).pv] (vB true):=by
     intro hw
     have hpos:=(withC_at g hw x.val).1
     have r2:=CCa.Pressure g x.val hx4 hpos
     rw[e2] at r2
     refine⟨r2,?_⟩
     have k1:=tan_in g q1 hw x.val (pi:=piLo) Rat.le_refl
     have k2:=tan_in g q1 hw x.val (pi:=piHi) (Rat.le_of_lt lo_hi)
     have hmin:=ht_min (tanP c x.val piHi) (tanP c x.val piLo) (k:=9000) (by unfold tanP;omega) (by unfold tanP;omega)
     have hmax:=ht_max (tanP c x.val piHi) (tanP c x.val piLo) (k:=9000) (by unfold tanP;omega) (by unfold tanP;omega)
     have hng:=ht_neg limit.val
     have hin:=CIv.Inside (mkG (minR (tanP c x.val piHi) (tanP c x.val piLo)) (maxR (tanP c x.val piHi) (tanP c x.val piLo))) (mkG (-limit.val) limit.val) (fit_mkG (Nat.le_trans hmin (by omega)) (Nat.le_trans hmax (by omega))) (fit_mkG (by omega) (by omega))
     have hle:minR (tanP c x.val piHi) (tanP c x.val piLo)≤maxR (tanP c x.val piHi) (tanP c x.val piLo):=min_le_max _ _
     have b1 : -limit.val≤minR (tanP c x.val piHi) (tanP c x.val piLo):=by unfold minR;split<;>grind
     have b2:maxR (tanP c x.val piHi) (tanP c x.val piLo)≤limit.val:=by unfold maxR;split<;>grind
     rw[loG_mk hle,hiG_mk hle,loG_mk (by grind),hiG_mk (by grind),decide_eq_true ⟨b1,b2⟩] at hin
     have:mkG (-limit.val) limit.val=⟨mkR (-limit.val),limit⟩:=by unfold mkG;rw[e1]
     rwa[this] at hin
    cases hp:posC c with
    |true =>
     have hpr:=cmpR_gt.2 (posC_at g hp x.val)
     cases hw:withC c limit.val with
     |true =>
      obtain⟨r2,hin⟩:=pres hw
      cases hc:convC c with
      |true =>
       obtain⟨n,hn1,hn2⟩:=conv hc
       exact linkworklaw53_CamProves.e7 c _ _ _ _ _ _ _ _ _ _ _ _ _ _ _ _ _ _ _ awake rfl hv rfl l1 (decide_eq_false g1) l2 (decide_eq_false g2) v1 rfl s1 (cmpR_gt.2 q1) v2 rfl c1 c2 c3 r1 hp sr hpr hw r2 neg hin rfl hc r3 hn1 hn2
      |false=>exact linkworklaw53_CamProves.e8 c _ _ _ _ _ _ _ _ _ _ _ _ _ _ _ _ _ awake rfl hv rfl l1 (decide_eq_false g1) l2 (decide_eq_false g2) v1 rfl s1 (cmpR_gt.2 q1) v2 rfl c1 c2 c3 r1 hp sr hpr hw r2 neg hin rfl hc
     |false =>
      cases hc:convC c with
      |true =>
       obtain⟨n,hn1,hn2⟩:=conv hc
       exact linkworklaw53_CamProves.e9 c _ _ _ _ _ _ _ _ _ _ _ _ _ _ _ _ awake rfl hv rfl l1 (decide_eq_false g1) l2 (decide_eq_false g2) v1 rfl s1 (cmpR_gt.2 q1) v2 rfl c1 c2 c3 r1 hp sr hpr hw hc r3 hn1 hn2
      |false=>exact linkworklaw53_CamProves.e10 c _ _ _ _ _ _ _ _ _ _ _ _ _ _ awake rfl hv rfl l1 (decide_eq_false g1) l2 (decide_eq_false g2) v1 rfl s1 (cmpR_gt.2 q1) v2 rfl c1 c2 c3 r1 hp sr hpr hw hc
    |false =>
     have hw:withC c limit.val=false:=by
      cases hw:withC c limit.val with
      |false=>rfl
      |true=>have:=(withC_parts hw).2.2;rw[hp] at this;cases this
     cases hc:convC c with
     |true =>
      obtain⟨n,hn1,hn2⟩:=conv hc
      exact linkworklaw53_CamProves.e13 c _ _ _ _ _ _ _ _ _ _ _ _ _ _ _ awake rfl hv rfl l1 (decide_eq_false g1) l2 (decide_eq_false g2) v1 rfl s1 (cmpR_gt.2 q1) v2 rfl c1 c2 c3 r1 hp hw hc r3 hn1 hn2
     |false=>exact linkworklaw53_CamProves.e14 c _ _ _ _ _ _ _ _ _ _ _ _ _ awake rfl hv rfl l1 (decide_eq_false g1) l2 (decide_eq_false g2) v1 rfl s1 (cmpR_gt.2 q1) v2 rfl c1 c2 c3 r1 hp hw hc
  ·exact linkworklaw53_CamProves.e5 c _ _ _ _ _ _ _ _ _ awake rfl hv rfl l1 (decide_eq_false g1) l2 (decide_eq_false g2) v1 rfl s1 (cmpR_le.2 (by grind)) awake
end C53
end Go.Proofs.YtbgkjomonebfcaaGreat.Sym
namespace Go.Proofs.YtbgkjomonebfcaaGreat.Sym
open Go Go.RowKit Go.ChangeShapes Go.WideShapes Go.ChangeAt
set_option linter.unusedVariables false
namespace RowCamProves
theorem own:ownKnob Tryz.prog.godebug=none:=by kernel_rfl
theorem laid:laidOutB prg=true:=by kernel_rfl
theorem okArg{P:Program}{W:World}{base:Nat}{ps:Array TypeId}{args:Array Value}(hval:∀(j:Nat) t v,ps[j]? = some t→args[j]? = some v→Value.okWide P W .any base t v)(j:Nat){t:TypeId}{v:Value}(h1:ps[j]? = some t)(h2:args[j]? = some v):Value.okWide P W .any base t v:=hval j t v h1 h2
set_option maxRecDepth 100000 in
theorem contract(H:Type)(enc:TypeId×Value→H)(W:World)(base:Nat)(args:Array Value)(ds gs:List (DataW H))(before:List MemPlace)
  (hval:∀(j:Nat) t v,Tryz.f12.params[j]? = some t→args[j]? = some v→Value.okWide Tryz.prog W .any base t v)
  (hW:DataW.Whole enc Tryz.prog Tryz.f12.params.toList Rows.camProvesSpec.vars false W args.toList ds gs before)
  (hz:(DataW.weightsEach Tryz.prog (Tryz.f12.params.toList++Rows.camProvesSpec.plain.varTypes Tryz.prog) (ds++gs)).all (·≤reachBytes)=true) :
  Calls Tryz.prog 12 args W fun e W'=>∃v,e = .returned v∧Rows.camProvesSpec.post enc Tryz.prog Tryz.f12 false true false false W args v W':=by
 have hW':=hW
 obtain⟨p,q,hA,hV,rfl,hfz,hnd⟩:=hW
 have hp:Tryz.f12.params = #[76,26,26]:=by kernel_rfl
 rw[hp] at hA hval hz
 obtain⟨v0,vs0,d0,ds0,p0,q0,hargs,rfl,rfl,h0,r0⟩:=trodAll_cons hA
 obtain⟨v1,vs1,d1,ds1,p1,q1,rfl,rfl,rfl,h1,r1⟩:=trodAll_cons r0
 obtain⟨v2,vs2,d2,ds2,p2,q2,rfl,rfl,rfl,h2,r2⟩:=trodAll_cons r1
 obtain⟨rfl,rfl,rfl⟩:=trodAll_nil r2
 obtain rfl:args = #[v0,v1,v2]:=by cases args;simp_all
 obtain⟨rfl,rfl⟩:=trodVars_none hV
 obtain⟨n0,hn0⟩:=h0
 have hw0:∀k∈d0.weights prg 76,k≤reachBytes:=by
  intro k hk
  have:=List.all_eq_true.1 hz k (DataW.weights_mem_each (j:=0) rfl rfl k hk)
  simpa using this
 obtain⟨x0,hx0,b0⟩:=opens_ACam enc W 0 (fun _=>true) true n0 _ _ hn0 hw0
 obtain⟨fs0,hu0,_⟩:=flds_spec (show fldsOf (prg.underlying 76)=some [(26,0),(74,3)] by kernel_rfl)
 have hv0:Value.okWide Tryz.prog W .any base 76 v0:=okArg hval 0 (by simp) (by simp)
 have hrd0:Rd (Old W) W x0.pv v0:=rd_struct (P:=Tryz.prog) (cs:=x0.cells) hu0 hv0 hx0
 obtain⟨n1,hn1⟩:=h1
 have hw1:∀k∈d1.weights prg 26,k≤reachBytes:=by
  intro k hk
  have:=List.all_eq_true.1 hz k (DataW.weights_mem_each (j:=1) rfl rfl k hk)
  simpa using this
 obtain⟨x1,hx1,b1⟩:=opens_ARat enc W 0 (fun _=>true) true n1 _ _ hn1 hw1
 obtain⟨fs1,hu1,_⟩:=flds_spec (show fldsOf (prg.underlying 26)=some [(4,0),(24,1),(24,2)] by kernel_rfl)
 have hv1:Value.okWide Tryz.prog W .any base 26 v1:=okArg hval 1 (by simp) (by simp)
 have hrd1:Rd (Old W) W x1.pv v1:=rd_struct (P:=Tryz.prog) (cs:=x1.cells) hu1 hv1 hx1
 obtain⟨n2,hn2⟩:=h2
 have hw2:∀k∈d2.weights prg 26,k≤reachBytes:=by
  intro k hk
  have:=List.all_eq_true.1 hz k (DataW.weights_mem_each (j:=2) rfl rfl k hk)
  simpa using this
 obtain⟨x2,hx2,b2⟩:=opens_ARat enc W 0 (fun _=>true) true n2 _ _ hn2 hw2
 obtain⟨fs2,hu2,_⟩:=flds_spec (show fldsOf (prg.underlying 26)=some [(4,0),(24,1),(24,2)] by kernel_rfl)
 have hv2:Value.okWide Tryz.prog W .any base 26 v2:=okArg hval 2 (by simp) (by simp)
 have hrd2:Rd (Old W) W x2.pv v2:=rd_struct (P:=Tryz.prog) (cs:=x2.cells) hu2 hv2 hx2
 have hc:=C53.CamProves x0 x1 x2 b0 (lenR_sum b1) (lenR_sum b2)
 refine(hc.2 (Old W) W (fun _=>none) #[v0,v1,v2] (fun b hb=>hb) ⟨(fun r sc h=>by cases h),(fun r r' b h=>by obtain⟨_,h⟩:=h)⟩ rfl ?_).mono ?_
 ·intro j e v he hv
  cases j with
  |zero=>simp at he hv;subst he hv;exact hrd0
  |succ j =>
   cases j with
   |zero=>simp at he hv;subst he hv;exact hrd1
   |succ j =>
    cases j with
    |zero=>simp at he hv;subst he hv;exact hrd2
    |succ j=>simp at he
 ·intro e W' ⟨v,β',he,_,hk,_,hv,_⟩
  subst he
  have hv:Rd _ W' (vB true) v:=hv
  cases hv
  have hk':Keeps (fun _=>False) W W':=⟨hk.os,hk.tape,hk.output,hk.size,fun k h1 _=>hk.block k h1 (fun ⟨y,hy,_⟩=>by obtain⟨_,hy⟩:=hy),hk.shape⟩
  refine⟨_,rfl,post_true (tb:=4) hW' hk' rfl (by kernel_rfl) (by kernel_rfl) rfl rfl rfl laid ?_⟩
  rw[hp]
  intro t ht
  have:t=76∨t=26∨t=26:=by simpa using ht
  rcases this with rfl|rfl|rfl
  all_goals exact⟨by kernel_rfl,of_decide_eq_true (by kernel_rfl)⟩
set_option maxRecDepth 100000 in
theorem lifted(os:Os)(started:os.Started)(H:Type)(enc:TypeId×Value→H) :
  ReturnsInHanded {} Tryz.checked os 12 .any (Rows.camProvesSpec.pre6 enc Tryz.prog Tryz.f12 Rows.camProvesRow.domain false) (Rows.camProvesSpec.post enc Tryz.prog Tryz.f12 false true false false):=by
 refine returnsInHanded_of_change_sized (C:=Tryz.checked) own started (by kernel_rfl) Tryz.func12
  (ChangeSpec.witness6 (enc:=enc) (C:=Tryz.checked) false ⟨#[],#[.agg #[.bool false,.slice none 0 0,.slice none 0 0,.slice none 0 0,.slice none 0 0],.agg #[.bool false,.slice none 0 0,.slice none 0 0],.agg #[.bool false,.slice none 0 0,.slice none 0 0]],[]⟩ 8 (by kernel_rfl) (by kernel_rfl) (by kernel_rfl) (by kernel_rfl)) ?_
 intro W base args ds gs before hval hW _ hz _
 exact contract H enc W base args ds gs before hval hW hz
theorem j1:(Rows.camProvesRow.inPlace==Tryz.prog.inPlace 12)=true:=by kernel_rfl
theorem j2:(Rows.camProvesRow.unfollowed==Tryz.prog.unfollowed 12)=true:=by kernel_rfl
theorem j3:(Rows.camProvesRow.recurses==Tryz.prog.recurses 12)=true:=by kernel_rfl
theorem j4:(Rows.camProvesRow.named==Tryz.prog.varsNamed 12)=true:=by kernel_rfl
theorem closed:joinedFacts Tryz.prog 12 Tryz.f12 Rows.camProvesSpec Rows.camProvesRow=true:=by
 unfold joinedFacts
 rw[j1,j2,j3,j4]
 kernel_rfl
theorem proved:Rows.CamProvesSaid :=
 OpenClaim.holds_of_wide 12 Tryz.f12 rfl rfl rfl rfl rfl rfl rfl ⟨rfl,rfl,rfl,rfl,rfl⟩ rfl rfl rfl rfl rfl (by kernel_rfl) Tryz.func12 closed
  (of_decide_eq_true (by kernel_rfl)) (by unfold Func.isWrapper;first|(rw [if_pos (by decide +kernel)];kernel_rfl)|(rw [if_neg (by decide +kernel)];exact⟨rfl,rfl⟩))
  (fun os started H enc _=>lifted os started H enc)
end RowCamProves
end Go.Proofs.YtbgkjomonebfcaaGreat.Sym
