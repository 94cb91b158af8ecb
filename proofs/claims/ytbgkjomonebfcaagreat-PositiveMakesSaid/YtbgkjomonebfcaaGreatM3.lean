/- The statement PositiveMakes is proved: certificates that are made are accepted, and are made where the polynomial is positive; no condition. -/
import Derived.Test.YtbgkjomonebfcaaGreatM2
import Derived.Test.YtbgkjomonebfcaaGreatM0
import Derived.Test.YtbgkjomonebfcaaGreatRows
import Derived.JoinedCond
namespace Go.Proofs.YtbgkjomonebfcaaGreat.Sym
open Go Path CInt
set_option linter.unusedVariables false
namespace CSt
theorem check(p:List ARat)(hp:FitP 274877906944 p):Contract prg 216 [polyPV p] (errPV (errOf (if chk p=0 then (if p.length=0 then 8 else 0) else chk p))):=by
 have hk:=CPo.Check p hp
 by_cases h:chk p=0
 ·rw[if_pos h]
  rw[h] at hk
  by_cases h0:p.length=0
  ·rw[if_pos h0];exact sturm_check.e0 p hk h0
  ·rw[if_neg h0];exact sturm_check.e1 p hk h0
 ·rw[if_neg h]
  rw[errOf_ne h] at hk ⊢
  exact sturm_check.e2 p _ hk
theorem chain{h L:Nat}{p:List Rat}(f:Fine h L p):Contract prg 217 [pq p] (.tup [pqs (chainL p),.nilI]):=by
 have hL:=f.hL
 have hfb:=f.fb
 obtain⟨f1,f2,_⟩:=free_spec f.zp f.ne
 have hfl:=f.free_len
 have hl:=f.len
 have hff:=f.free_ch.fl hfb.2.2.1
 have hd:=CPo.Derive ((freeL p).map mkR) (chk_map f1 (by omega)) (fit_mapk (fl_mono hff (by omega)))
 rw[vals_mkR] at hd
 have loop:∀(n i j:Nat) (pre:List (List Rat)) (q d:List Rat),d.length<n→pre.length+n≤20→Euc (fB h L) (fB h L+1) L i j q d→sturm_chain.Loop1 (d.map mkR) ((pre++[q]).map (fun g=>g.map mkR)) (.tup [pqs (pre++chainF n q d),.nilI]):=by
  intro n
  induction n with
  |zero=>intro i j pre q d hn;omega
  |succ n ih =>
   intro i j pre q d hn hpl e
   by_cases h0:d=[]
   ·subst h0
    rw[chainF_nil]
    exact sturm_chain.l13 _ _ (by simp)
   ·rw[chainF_cons h0]
    obtain⟨c1,c2⟩:=CPl.next hfb.2.2.1 (Nat.le_succ _) (by omega) f.free_x2 e h0
    obtain⟨r1,r2⟩:=e.rest (Nat.le_succ _) h0
    have hc:Ch (xB (fB h L) (fB h L+1) (j+(q.length-d.length))) (trimL (smulL (-1) (restL q d))):=by
     refine Ch.trim ?_
     obtain⟨D,d1,d2,d3⟩:=r1
     refine⟨D,d1,d2,fun i => ?_⟩
     obtain⟨m,m1,m2⟩:=d3 i
     refine⟨-m,?_,by rw[wl_neg];exact m2⟩
     rw[coef_smulL,Rat.intCast_neg,←m1];grind
    have next:=ih _ _ (pre++[q]) d _ (by have:=rest_neg_len (p:=q) e.zq h0;omega) (by rw[List.length_append,List.length_singleton];omega) (e.next (Nat.le_succ _) h0 hc (rest_neg_len e.zq h0) (lastZ_trimL _))
    have es:(pre++[q]).map (fun g=>g.map mkR)++[d.map mkR]=(pre++[q]++[d]).map (fun g=>g.map mkR):=by rw[List.map_append (l₁:=pre++[q])];rfl
    have hlen:((pre++[q]++[d]).map (fun g=>g.map mkR)).length=pre.length+2:=by simp
    have hone:=CFr.Of (-1) (by unfold InI64;omega)
    have:=List.length_pos_iff.2 h0
    refine sturm_chain.l10 _ _ pre.length (q.map mkR) _ _ _ _ (by rw[lenM];omega) (by rw[es,hlen];omega) (by rw[es,hlen];unfold InI64;omega) (by rw[es,hlen];omega) (by rw[es,hlen];omega) (by rw[es];simp) c1 hone c2 ?_
    rw[es]
    have e2:pre++[q]++chainF n d (trimL (smulL (-1) (restL q d)))=pre++q::chainF n d (trimL (smulL (-1) (restL q d))):=by simp
    rwa[e2] at next
 have:=loop (freeL p).length 0 1 [] (freeL p) (deriveL (freeL p)) (deriveL_lt2 f2) (by simp;omega) f.free_euc
 exact sturm_chain.e0 _ _ _ (CPl.Free f) hd this
theorem changes(G:List (List Rat))(x:Rat)(hG:∀g∈G,lastZ g=false∧Fl 1073741824 g∧g.length≤10)(hl:G.length≤1000)(hx:ht x≤1073741824):Contract prg 218 [pqs G,(mkR x).pv] (vI (chg G x)):=by
 have loop:∀(j t n:Nat) (l:Int),G.length-t=j→t≤G.length→n≤t → -1≤l→l≤1→sturm_changes.Loop1 n l (G.map (fun g=>g.map mkR)) t (mkR x) (vI ((n:Int)+varS l ((G.drop t).map (fun g=>sg (evalL g x))))):=by
  intro j
  induction j with
  |zero =>
   intro t n l hj ht hn _ _
   rw[List.drop_of_length_le (by omega),List.map_nil,varS,Int.add_zero]
   exact sturm_changes.l13 n l _ t _ (by rw[List.length_map];omega)
  |succ j ih =>
   intro t n l hj htt hn hl1 hl2
   obtain⟨g,hg⟩:∃g,G[t]? = some g:=⟨_,List.getElem?_eq_getElem (by omega)⟩
   obtain⟨z,fl,ln⟩:=hG g (List.mem_of_getElem? hg)
   have hm:(G.map (fun g=>g.map mkR))[t]? = some (g.map mkR):=by rw[List.getElem?_map,hg];rfl
   have hev:=CPo.Eval (g.map mkR) (mkR x) (chk_map z (by omega)) (fit_mapk fl) (fit_mkRk hx)
   rw[vals_mkR,mkR_val] at hev
   have h3:=ht_eval g x 1073741824 fl hx
   have h4:g.length*(2*1073741824+1)≤10*(2*1073741824+1):=Nat.mul_le_mul_right _ ln
   have hs:=QF.Sign (evalL g x) (by omega)
   have hv:=sturm_value.e0 _ _ _ none _ hev hs
   have hsg:cmpR (evalL g x) 0=sg (evalL g x):=rfl
   have h3s:=sg_three (evalL g x)
   rw[hsg] at hv
   have hlt:t<(G.map (fun g=>g.map mkR)).length:=by rw[List.length_map];omega
   rw[drop_cons hg,List.map_cons,varS]
   generalize sg (evalL g x)=s at hv h3s
   by_cases h0:s=0
   ·rw[if_pos h0]
    exact sturm_changes.l12 n l _ t _ _ _ hlt hm hv h0 (by omega) (ih (t+1) n l (by omega) (by omega) (by omega) hl1 hl2)
   ·rw[if_neg h0]
    by_cases h1:s = -l
    ·rw[if_pos h1]
     have:=ih (t+1) (n+1) s (by omega) (by omega) (by omega) (by omega) (by omega)
     rw[show (((n+1:Nat):Int))+varS s ((G.drop (t+1)).map (fun g=>sg (evalL g x)))=(n:Int)+(1+varS s ((G.drop (t+1)).map (fun g=>sg (evalL g x)))) from by omega] at this
     exact sturm_changes.l10 n l _ t _ _ _ hlt hm hv h0 (by unfold InI64;omega) h1 (by omega) (by omega) this
    ·rw[if_neg h1,Int.zero_add]
     exact sturm_changes.l11 n l _ t _ _ _ hlt hm hv h0 (by unfold InI64;omega) h1 (by omega) (ih (t+1) n s (by omega) (by omega) (by omega) (by omega) (by omega))
 have:=loop _ 0 0 0 rfl (by omega) (by omega) (by omega) (by omega)
 rw[List.drop_zero,show(((0:Nat):Int))=0 from rfl,Int.zero_add] at this
 exact sturm_changes.e0 _ _ this
theorem chain_all{h L:Nat}{p:List Rat}(f:Fine h L p):∀g∈chainL p,lastZ g=false∧Fl 1073741824 g∧g.length≤10:=by
 intro g hg
 refine⟨?_,f.chain g hg⟩
 have key:∀(n:Nat) (p d:List Rat),lastZ p=false→lastZ d=false→∀g∈chainF n p d,lastZ g=false:=by
  intro n
  induction n with
  |zero=>intro p d hp _ g hg;rw[chainF,List.mem_singleton] at hg;rw[hg];exact hp
  |succ n ih =>
   intro p d hp hd g hg
   by_cases h:d=[]
   ·rw[h,chainF_nil,List.mem_singleton] at hg;rw[hg];exact hp
   ·rw[chainF_cons h] at hg
    rcases List.mem_cons.1 hg with hg|hg
    ·rw[hg];exact hp
    ·exact ih d _ hd (lastZ_trimL _) g hg
 exact key _ _ _ (free_spec f.zp f.ne).1 (lastZ_deriveL _) g hg
theorem Count{h L:Nat}{p:List Rat}(f:Fine h L p)(lo hi:Rat)(hlh:lo≤hi)(h1:ht lo≤1073741824)(h2:ht hi≤1073741824):Contract prg 159 [pq p,(mkR lo).pv,(mkR hi).pv] (.tup [vI (chg (chainL p) lo-chg (chainL p) hi),.nilI]):=by
 have hc:=f.chain_count
 have hck:=check (p.map mkR) (fitQ (f.ch.fl f.h1) (by have:=f.fb;omega))
 have hp:=List.length_pos_iff.2 f.ne
 rw[f.chk,if_pos rfl,if_neg (by rw[lenM];omega)] at hck
 obtain⟨a1,a2⟩:=chg_range (chainL p) lo
 obtain⟨b1,b2⟩:=chg_range (chainL p) hi
 exact sturm_Count.e3 _ _ _ _ _ _ _ _ _ hck (QF.Valid lo (by omega)) rfl (QF.Valid hi (by omega)) rfl (QF.Cmp lo hi (by omega) (by omega)) (cmpR_le.2 hlh) (chain f) (changes _ lo (chain_all f) (by omega) h1) (changes _ hi (chain_all f) (by omega) h2) (by unfold InI64;omega)
end CSt
namespace CSr
theorem Error(p:List ARat)(hp:FitP 274877906944 p):Contract prg 220 [polyPV p] (vI (if chk p=0 then (if p.length=0 then 8 else 0) else chk p)):=by
 have hk:=CRe.Check p hp
 by_cases h:chk p=0
 ·rw[if_pos h]
  by_cases h0:p.length=0
  ·rw[if_pos h0];exact linkworkref06_Error.e1 p _ hk h h0
  ·rw[if_neg h0];exact linkworkref06_Error.e2 p _ hk h h0
 ·rw[if_neg h];exact linkworkref06_Error.e0 p _ hk h
theorem chain{h L:Nat}{p:List Rat}(f:Fine h L p):Contract prg 222 [pq p] (pqs (chainL p)):=by
 have hL:=f.hL
 have hfb:=f.fb
 obtain⟨f1,f2,_⟩:=free_spec f.zp f.ne
 have hfl:=f.free_len
 have hl:=f.len
 have hff:=f.free_ch.fl hfb.2.2.1
 have hd:=CRe.Derive ((freeL p).map mkR) (chk_map f1 (by omega)) (fit_mapk (fl_mono hff (by omega)))
 rw[vals_mkR] at hd
 have loop:∀(n i j:Nat) (pre:List (List Rat)) (q d:List Rat),d.length<n→pre.length+n≤20→Euc (fB h L) (fB h L+1) L i j q d→linkworkref06_chain.Loop1 (d.map mkR) ((pre++[q]).map (fun g=>g.map mkR)) (pqs (pre++chainF n q d)):=by
  intro n
  induction n with
  |zero=>intro i j pre q d hn;omega
  |succ n ih =>
   intro i j pre q d hn hpl e
   by_cases h0:d=[]
   ·subst h0
    rw[chainF_nil]
    exact linkworkref06_chain.l11 _ _ (by simp)
   ·rw[chainF_cons h0]
    obtain⟨c1,c2⟩:=CPr.next hfb.2.2.1 (Nat.le_succ _) (by omega) f.free_x2 e h0
    obtain⟨r1,r2⟩:=e.rest (Nat.le_succ _) h0
    have hc:Ch (xB (fB h L) (fB h L+1) (j+(q.length-d.length))) (trimL (smulL (-1) (restL q d))):=by
     refine Ch.trim ?_
     obtain⟨D,d1,d2,d3⟩:=r1
     refine⟨D,d1,d2,fun i => ?_⟩
     obtain⟨m,m1,m2⟩:=d3 i
     refine⟨-m,?_,by rw[wl_neg];exact m2⟩
     rw[coef_smulL,Rat.intCast_neg,←m1];grind
    have next:=ih _ _ (pre++[q]) d _ (by have:=rest_neg_len (p:=q) e.zq h0;omega) (by rw[List.length_append,List.length_singleton];omega) (e.next (Nat.le_succ _) h0 hc (rest_neg_len e.zq h0) (lastZ_trimL _))
    have es:(pre++[q]).map (fun g=>g.map mkR)++[d.map mkR]=(pre++[q]++[d]).map (fun g=>g.map mkR):=by rw[List.map_append (l₁:=pre++[q])];rfl
    have hlen:((pre++[q]++[d]).map (fun g=>g.map mkR)).length=pre.length+2:=by simp
    have hone:=CRb.Of (-1) (by unfold InI64;omega)
    have:=List.length_pos_iff.2 h0
    refine linkworkref06_chain.l10 _ _ pre.length (q.map mkR) _ _ _ _ _ _ (by rw[lenM];omega) (by rw[es,hlen];omega) (by rw[es,hlen];unfold InI64;omega) (by rw[es,hlen];omega) (by rw[es,hlen];omega) (by rw[es];simp) c1 hone c2 ?_
    rw[es]
    have e2:pre++[q]++chainF n d (trimL (smulL (-1) (restL q d)))=pre++q::chainF n d (trimL (smulL (-1) (restL q d))):=by simp
    rwa[e2] at next
 have:=loop (freeL p).length 0 1 [] (freeL p) (deriveL (freeL p)) (deriveL_lt2 f2) (by simp;omega) f.free_euc
 exact linkworkref06_chain.e0 _ _ _ _ _ (CPr.Free f) hd this
theorem changes(G:List (List Rat))(x:Rat)(hG:∀g∈G,lastZ g=false∧Fl 1073741824 g∧g.length≤10)(hl:G.length≤1000)(hx:ht x≤1073741824):Contract prg 223 [pqs G,(mkR x).pv] (vI (chg G x)):=by
 have loop:∀(j t n:Nat) (l:Int),G.length-t=j→t≤G.length→n≤t → -1≤l→l≤1→linkworkref06_changes.Loop1 n l (G.map (fun g=>g.map mkR)) t (mkR x) (vI ((n:Int)+varS l ((G.drop t).map (fun g=>sg (evalL g x))))):=by
  intro j
  induction j with
  |zero =>
   intro t n l hj ht hn _ _
   rw[List.drop_of_length_le (by omega),List.map_nil,varS,Int.add_zero]
   exact linkworkref06_changes.l13 n l _ t _ (by rw[List.length_map];omega)
  |succ j ih =>
   intro t n l hj htt hn hl1 hl2
   obtain⟨g,hg⟩:∃g,G[t]? = some g:=⟨_,List.getElem?_eq_getElem (by omega)⟩
   obtain⟨z,fl,ln⟩:=hG g (List.mem_of_getElem? hg)
   have hm:(G.map (fun g=>g.map mkR))[t]? = some (g.map mkR):=by rw[List.getElem?_map,hg];rfl
   have hev:=CRe.At (g.map mkR) (mkR x) (by rw[lenM];omega) (fit_mapk fl) (fit_mkRk hx)
   rw[vals_mkR,mkR_val] at hev
   have h3:=ht_eval g x 1073741824 fl hx
   have h4:g.length*(2*1073741824+1)≤10*(2*1073741824+1):=Nat.mul_le_mul_right _ ln
   have hv:=QR.Sign (evalL g x) (by omega)
   have hsg:cmpR (evalL g x) 0=sg (evalL g x):=rfl
   have h3s:=sg_three (evalL g x)
   rw[hsg] at hv
   have hlt:t<(G.map (fun g=>g.map mkR)).length:=by rw[List.length_map];omega
   rw[drop_cons hg,List.map_cons,varS]
   generalize sg (evalL g x)=s at hv h3s
   by_cases h0:s=0
   ·rw[if_pos h0]
    exact linkworkref06_changes.l10 n l _ t _ _ _ _ hlt hm hev hv h0 (by omega) (ih (t+1) n l (by omega) (by omega) (by omega) hl1 hl2)
   ·rw[if_neg h0]
    by_cases h1:s = -l
    ·rw[if_pos h1]
     have:=ih (t+1) (n+1) s (by omega) (by omega) (by omega) (by omega) (by omega)
     rw[show (((n+1:Nat):Int))+varS s ((G.drop (t+1)).map (fun g=>sg (evalL g x)))=(n:Int)+(1+varS s ((G.drop (t+1)).map (fun g=>sg (evalL g x)))) from by omega] at this
     exact linkworkref06_changes.l11 n l _ t _ _ _ _ hlt hm hev hv h0 (by unfold InI64;omega) h1 (by omega) (by omega) this
    ·rw[if_neg h1,Int.zero_add]
     exact linkworkref06_changes.l12 n l _ t _ _ _ _ hlt hm hev hv h0 (by unfold InI64;omega) h1 (by omega) (ih (t+1) n s (by omega) (by omega) (by omega) (by omega) (by omega))
 have:=loop _ 0 0 0 rfl (by omega) (by omega) (by omega) (by omega)
 rw[List.drop_zero,show(((0:Nat):Int))=0 from rfl,Int.zero_add] at this
 exact linkworkref06_changes.e0 _ _ this
theorem count{h L:Nat}{p:List Rat}(f:Fine h L p)(lo hi:Rat)(h1:ht lo≤1073741824)(h2:ht hi≤1073741824):Contract prg 167 [pq p,(mkR lo).pv,(mkR hi).pv] (vI (chg (chainL p) lo-chg (chainL p) hi)):=by
 have hc:=f.chain_count
 obtain⟨a1,a2⟩:=chg_range (chainL p) lo
 obtain⟨b1,b2⟩:=chg_range (chainL p) hi
 exact linkworkref06_count.e0 _ _ _ _ _ _ (chain f) (changes _ lo (CSt.chain_all f) (by omega) h1) (changes _ hi (CSt.chain_all f) (by omega) h2) (by unfold InI64;omega)
theorem Count{h L:Nat}{p:List Rat}(f:Fine h L p)(lo hi:Rat)(hlh:lo≤hi)(h1:ht lo≤1073741824)(h2:ht hi≤1073741824):Contract prg 165 [pq p,(mkR lo).pv,(mkR hi).pv] (.tup [vI (chg (chainL p) lo-chg (chainL p) hi),vI 0]):=by
 have hck:=Error (p.map mkR) (fitQ (f.ch.fl f.h1) (by have:=f.fb;omega))
 have hp:=List.length_pos_iff.2 f.ne
 rw[f.chk,if_pos rfl,if_neg (by rw[lenM];omega)] at hck
 exact linkworkref06_Count.e4 _ _ _ _ _ _ _ _ hck rfl (QR.Valid lo (by omega)) rfl (QR.Valid hi (by omega)) rfl (QR.Cmp lo hi (by omega) (by omega)) (cmpR_le.2 hlh) (count f lo hi h1 h2)
end CSr
end Go.Proofs.YtbgkjomonebfcaaGreat.Sym
namespace Go.Proofs.YtbgkjomonebfcaaGreat.Sym
open Go Path CInt
set_option linter.unusedVariables false
def mkG(a b:Rat):ARange:=⟨mkR a,mkR b⟩
def ARange.ok(r:ARange):Bool:=r.lo.valid&&(r.hi.valid&&decide (r.lo.val≤r.hi.val))
def loG(r:ARange):Rat:=bif r.ok then r.lo.val else 0
def hiG(r:ARange):Rat:=bif r.ok then r.hi.val else 0
theorem ok_parts{r:ARange}(h:r.ok=true):r.lo.valid=true∧r.hi.valid=true∧r.lo.val≤r.hi.val:=by
 unfold ARange.ok at h
 simp only[Bool.and_eq_true,decide_eq_true_eq] at h
 exact h
theorem ok_mkG{a b:Rat}(h:a≤b):(mkG a b).ok=true:=by
 unfold ARange.ok mkG
 simp only[mkR_valid,mkR_val,decide_eq_true h,Bool.and_self]
theorem loG_mk{a b:Rat}(h:a≤b):loG (mkG a b)=a:=by unfold loG;rw[ok_mkG h,cond_true];exact mkR_val a
theorem hiG_mk{a b:Rat}(h:a≤b):hiG (mkG a b)=b:=by unfold hiG;rw[ok_mkG h,cond_true];exact mkR_val b
theorem mkG_of{r:ARange}(h:r.ok=true):mkG (loG r) (hiG r)=r:=by
 obtain⟨h1,h2,h3⟩:=ok_parts h
 unfold mkG loG hiG
 rw[h,cond_true,cond_true,mkR_of h1,mkR_of h2]
theorem mkG_not{r:ARange}(h:r.ok=false):mkG (loG r) (hiG r)=⟨⟨false,[],[]⟩,⟨false,[],[]⟩⟩:=by
 unfold mkG loG hiG
 rw[h];rfl
abbrev FitG(k:Nat)(r:ARange):Prop:=(r.lo.num.length≤k∧r.lo.den.length≤k)∧(r.hi.num.length≤k∧r.hi.den.length≤k)
theorem fit_mkG{a b:Rat}{k:Nat}(ha:ht a≤k)(hb:ht b≤k):FitG k (mkG a b):=⟨fit_mkRk ha,fit_mkRk hb⟩
namespace CIv
theorem Valid(r:ARange)(h:FitG 68719476736 r):Contract prg 155 [r.pv] (vB r.ok):=by
 have h1:=CFr.Valid r.lo ⟨by omega,by omega⟩
 have h2:=CFr.Valid r.hi ⟨by omega,by omega⟩
 have h3:=CFr.Cmp r.lo r.hi ⟨by omega,by omega⟩ ⟨by omega,by omega⟩
 unfold ARange.ok
 cases hv:r.lo.valid with
 |false=>exact interval_Valid.e2 r _ h1 hv
 |true =>
  cases hw:r.hi.valid with
  |false=>exact interval_Valid.e1 r _ _ h1 hv h2 hw
  |true =>
   have:=interval_Valid.e0 r _ _ _ h1 hv h2 hw h3
   rwa[show decide (cmpR r.lo.val r.hi.val≤0)=decide (r.lo.val≤r.hi.val) from decide_eq_decide.2 cmpR_le] at this
theorem clean(r:ARange)(h:FitG 68719476736 r):Contract prg 137 [r.pv] (mkG (loG r) (hiG r)).pv:=by
 have hv:=Valid r h
 cases hk:r.ok with
 |false=>rw[mkG_not hk];exact interval_clean.e0 r _ hv hk
 |true =>
  obtain⟨h1,h2,h3⟩:=ok_parts hk
  have:=interval_clean.e1 r _ _ _ hv hk (CPo.addZ r.lo ⟨by omega,by omega⟩) (CPo.addZ r.hi ⟨by omega,by omega⟩)
  rw[mkR_of h1,mkR_of h2] at this
  rw[mkG_of hk];exact this
end CIv
namespace CJv
theorem Valid(r:ARange)(h:FitG 68719476736 r):Contract prg 161 [r.pv] (vB r.ok):=by
 have h1:=CRb.Valid r.lo ⟨by omega,by omega⟩
 have h2:=CRb.Valid r.hi ⟨by omega,by omega⟩
 have h3:=CRb.Cmp r.lo r.hi ⟨by omega,by omega⟩ ⟨by omega,by omega⟩
 unfold ARange.ok
 cases hv:r.lo.valid with
 |false=>exact linkworkref03_Valid.e2 r _ h1 hv
 |true =>
  cases hw:r.hi.valid with
  |false=>exact linkworkref03_Valid.e1 r _ _ h1 hv h2 hw
  |true =>
   have:=linkworkref03_Valid.e0 r _ _ _ h1 hv h2 hw h3
   rwa[show decide (cmpR r.lo.val r.hi.val≤0)=decide (r.lo.val≤r.hi.val) from decide_eq_decide.2 cmpR_le] at this
theorem given(r:ARange)(h:FitG 68719476736 r):Contract prg 172 [r.pv] (mkG (loG r) (hiG r)).pv:=by
 have hv:=Valid r h
 cases hk:r.ok with
 |false=>rw[mkG_not hk];exact linkworkref03_given.e0 r _ hv hk
 |true=>rw[mkG_of hk];exact linkworkref03_given.e1 r _ hv hk
end CJv
end Go.Proofs.YtbgkjomonebfcaaGreat.Sym
namespace Go.Proofs.YtbgkjomonebfcaaGreat.Sym
open Go Path CInt
set_option linter.unusedVariables false
def choQ(n:Int):Nat→Rat
 |0=>1
 |i+1=>choQ n i*Rat.divInt (n-(i:Int)) ((i+1:Nat):Int)
def berS(q:List Rat)(n:Int)(j:Nat):Nat→Rat
 |0=>0
 |t+1=>berS q n j t+choQ (j:Int) t/choQ n t*coef q t
def subL(p:List Rat)(lo w:Rat):List Rat:=trimL (compL p (trimL [lo,w]))
def bernQ(p:List Rat)(lo w:Rat):List Rat:=tabL p.length (fun j=>berS (subL p lo w) ((p.length:Int)-1) j (j+1))
theorem tabL_succ(m:Nat)(g:Nat→Rat):tabL (m+1) g=tabL m g++[g m]:=by
 unfold tabL
 rw[List.range_succ,List.map_append];rfl
theorem ht_choQ{n:Int}(hn : -1000≤n∧n≤1000):∀i:Nat,i≤1000→ht (choQ n i)≤2*i+1
 |0,_=>by show ht 1≤_;decide
 |i+1,h=>by
  have ih:=ht_choQ hn i (by omega)
  have h1:=ht_divInt (n-(i:Int)) ((i+1:Nat):Int)
  have h2:wl (n-(i:Int))≤2:=wl_le (by omega)
  have h3:wl ((i+1:Nat):Int)≤2:=wl_le (by omega)
  have h4:=ht_mul (choQ n i) (Rat.divInt (n-(i:Int)) ((i+1:Nat):Int))
  rw[choQ]
  omega
theorem choQ_pos{n:Int} : ∀i:Nat,(i:Int)≤n→0<choQ n i
 |0,_=>by show(0:Rat)<1;decide
 |i+1,h=>by
  have ih:=choQ_pos (n:=n) i (by omega)
  rw[choQ]
  refine Rat.mul_pos ih ?_
  rw[Rat.divInt_eq_div,Rat.div_def]
  exact Rat.mul_pos (by rw[show (0:Rat)=((0:Int):Rat) from rfl];exact Rat.intCast_lt_intCast.2 (by omega)) (Rat.inv_pos.2 (by rw[show (0:Rat)=((0:Int):Rat) from rfl];exact Rat.intCast_lt_intCast.2 (by omega)))
theorem ht_term{q:List Rat}{n:Int}{H:Nat}(hn:0≤n∧n≤64)(hq:∀i,ht (coef q i)≤H)(j t:Nat)(hj:j≤64)(h:t≤64):ht (choQ (j:Int) t/choQ n t)≤270∧ht (choQ (j:Int) t/choQ n t*coef q t)≤270+H:=by
 have h1:=ht_choQ (n:=(j:Int)) (by omega) t (by omega)
 have h2:=ht_choQ (n:=n) (by omega) t (by omega)
 have h3:=ht_div (choQ (j:Int) t) (choQ n t)
 have h4:=ht_mul (choQ (j:Int) t/choQ n t) (coef q t)
 have:=hq t
 omega
theorem ht_berS{q:List Rat}{n:Int}{H:Nat}(hn:0≤n∧n≤64)(hq:∀i,ht (coef q i)≤H)(j:Nat)(hj:j≤64):∀t:Nat,t≤65→ht (berS q n j t)≤t*(H+271)+1
 |0,_=>by have:ht 0=1:=ht_zero;show ht 0≤_;omega
 |t+1,h=>by
  have ih:=ht_berS hn hq j hj t (by omega)
  have h1:=(ht_term hn hq j t hj (by omega)).2
  have h2:=ht_add (berS q n j t) (choQ (j:Int) t/choQ n t*coef q t)
  rw[berS,Nat.add_mul]
  omega
theorem berS_ge{q:List Rat}{n:Int}{j:Nat}{m:Nat}(h:q.length≤m):∀d,berS q n j (m+d)=berS q n j m
 |0=>rfl
 |d+1=>by
  show berS q n j (m+d)+_*coef q (m+d)=_
  rw[berS_ge h d,coef_ge (by omega),Rat.mul_zero,Rat.add_zero]
structure Piece (p:List Rat) (lo hi:Rat):Prop where
 zp:lastZ p=false
 len:p.length≤9
 fl:Fl 40 p
 hlo:ht lo≤40
 hhi:ht hi≤40
 le:lo≤hi
theorem cB_40:cB 2 40 81 9≤110000:=by decide
theorem sub_fl{p:List Rat}{lo hi:Rat}(pc:Piece p lo hi):Fl 110000 (subL p lo (hi-lo)):=by
 have h1:=pc.hlo
 have h2:=pc.hhi
 have h3:=ht_sub hi lo
 have f1:Fl 81 [lo,hi-lo]:=fun x hx=>by
  rcases List.mem_cons.1 hx with rfl|hx
  ·omega
  ·rw[List.mem_singleton.1 hx];omega
 have l1:=len_trimL [lo,hi-lo]
 have h4:=fl_compL (n:=2) (fl_trimL f1) (by omega) (by omega) l1 p pc.fl
 have h5:=cB_le 2 40 81 (by omega) (9-p.length) p.length
 have h6:=cB_40
 have h7:=pc.len
 rw[show p.length+(9-p.length)=9 from by omega] at h5
 exact fl_trimL (fl_mono h4 (by omega))
theorem sub_coef{p:List Rat}{lo hi:Rat}(pc:Piece p lo hi)(i:Nat):ht (coef (subL p lo (hi-lo)) i)≤110000:=fl_coef (sub_fl pc) (by omega) i
theorem sub_eval(p:List Rat)(lo w x:Rat):evalL (subL p lo w) x=evalL p (lo+w*x):=by
 unfold subL
 rw[evalL_trimL,evalL_compL,evalL_trimL]
 congr 1
 show(0*x+w)*x+lo=lo+w*x
 grind
theorem fl_bern{p:List Rat}{lo hi:Rat}(pc:Piece p lo hi):Fl 1000000 (bernQ p lo (hi-lo)):=by
 have hl:=pc.len
 intro x hx
 unfold bernQ tabL at hx
 obtain⟨j,hj,rfl⟩:=List.mem_map.1 hx
 have hj:=List.mem_range.1 hj
 have:=ht_berS (q:=subL p lo (hi-lo)) (n:=(p.length:Int)-1) (H:=110000) (by omega) (sub_coef pc) j (by omega) (j+1) (by omega)
 have:(j+1)*(110000+271)≤9*(110000+271):=Nat.mul_le_mul_right _ (by omega)
 omega
theorem bern_len(p:List Rat)(lo w:Rat):(bernQ p lo w).length=p.length:=tabL_len _ _
def clearB(b:List Rat):Bool:=b.all (fun x=>decide (0≤x))&&(decide (0<coef b 0)&&decide (0<coef b (b.length-1)))
def dblF:Nat→Rat→Rat→Rat
 |0,out,_=>out
 |f+1,out,m=>bif decide (out<m) then dblF f (out+out) m else out
def absR(q:Rat):Rat:=if q<0 then -q else q
def bndF(f:Nat)(top:Rat):List Rat→Rat→Rat
 |[],out=>out
 |c::r,out=>bndF f top r (dblF f out (1+absR (c/top)))
def pow2(k:Nat):Rat:=(((2^k:Nat):Int):Rat)
theorem pow2_add(k:Nat):pow2 k+pow2 k=pow2 (k+1):=by
 unfold pow2
 rw[←Rat.intCast_add]
 congr 1
 rw[Nat.pow_succ]
 omega
theorem pow2_mono{a b:Nat}(h:a≤b):pow2 a≤pow2 b:=Rat.intCast_le_intCast.2 (Int.ofNat_le.2 (Nat.pow_le_pow_right (by omega) h))
theorem ht_pow2{k n:Nat}(h:k<32*n):ht (pow2 k)≤n:=by
 unfold pow2
 rw[ht_int]
 have:wl ((2^k:Nat):Int)≤n:=by
  refine wl_le ?_
  rw[Int.natAbs_natCast,show(4294967296:Nat)=2^32 from by decide,←Nat.pow_mul]
  exact Nat.pow_lt_pow_right (by omega) h
 omega
theorem dblF_spec{m:Rat}{F:Nat}(hm:m≤pow2 F):∀(f k:Nat),F≤k+f→∃k',dblF f (pow2 k) m=pow2 k'∧k≤k'∧(k'=k∨k'≤F)∧m≤pow2 k'
 |0,k,h=>⟨k,rfl,Nat.le_refl _,Or.inl rfl,Rat.le_trans hm (pow2_mono (by omega))⟩
 |f+1,k,h=>by
  rw[dblF]
  by_cases hlt:pow2 k<m
  ·rw[decide_eq_true hlt,cond_true,pow2_add]
   have hk:k<F:=by
    rcases Nat.lt_or_ge k F with h|h
    ·exact h
    ·have:=pow2_mono h;grind
   obtain⟨k',h1,h2,h3,h4⟩:=dblF_spec hm f (k+1) (by omega)
   exact⟨k',h1,by omega,Or.inr (by omega),h4⟩
  ·rw[decide_eq_false hlt,cond_false]
   exact⟨k,rfl,Nat.le_refl _,Or.inl rfl,by grind⟩
theorem le_pow2(x:Rat):x≤pow2 (32*ht x):=by
 have h1:=wl_lt x.num
 have h2:wl x.num≤ht x:=ht_num x
 have h3:(4294967296:Nat)^wl x.num≤4294967296^ht x:=Nat.pow_le_pow_right (by omega) h2
 have h4:(4294967296:Nat)^ht x=2^(32*ht x):=by rw[show (4294967296:Nat)=2^32 from by decide,←Nat.pow_mul]
 have h5:x.num≤((2^(32*ht x):Nat):Int):=by
  rw[←h4]
  have:x.num≤(x.num.natAbs:Int):=Int.le_natAbs
  omega
 have hd:(1:Rat)≤((x.den:Int):Rat):=by
  have:=x.den_pos
  rw[show (1:Rat)=((1:Int):Rat) from rfl]
  exact Rat.intCast_le_intCast.2 (by omega)
 have hx:x*((x.den:Int):Rat)=(x.num:Rat):=by
  have hd0:((x.den:Int):Rat)≠0:=by grind
  have h:x=(x.num:Rat)/((x.den:Int):Rat):=by
   rw[←Rat.divInt_eq_div,Rat.num_divInt_den]
  rw[Rat.div_def] at h
  conv=>lhs;lhs;rw[h]
  rw[Rat.mul_assoc,Rat.inv_mul_cancel _ hd0,Rat.mul_one]
 have hn:(x.num:Rat)≤pow2 (32*ht x):=Rat.intCast_le_intCast.2 h5
 rcases Rat.le_total (a:=x) (b:=0) with h|h
 ·have:(0:Rat)≤pow2 (32*ht x):=by
   show(((0:Int):Rat))≤_
   exact Rat.intCast_le_intCast.2 (by exact Int.natCast_nonneg _)
  exact Rat.le_trans h this
 ·have h6:=Rat.mul_le_mul_of_nonneg_left hd h
  rw[hx,Rat.mul_one] at h6
  exact Rat.le_trans h6 hn
theorem ht_abs(q:Rat):ht (absR q)=ht q:=by
 unfold absR
 split
 ·exact ht_neg q
 ·rfl
def fuelB(k:Nat):Nat:=32*(2*k+3)
def bndQ(k:Nat)(p:List Rat):Rat:=bndF (fuelB k) (topL p) p (pow2 0)
theorem bnd_term{k:Nat}{c top:Rat}(hc:ht c≤k)(ht':ht top≤k):1+absR (c/top)≤pow2 (fuelB k)∧ht (1+absR (c/top))≤2*k+3∧ht (c/top)≤2*k:=by
 have h1:=ht_div c top
 have h2:=ht_add 1 (absR (c/top))
 rw[ht_abs] at h2
 have h3:ht (1:Rat)=1:=by decide
 refine⟨Rat.le_trans (le_pow2 _) (pow2_mono ?_),by omega,by omega⟩
 unfold fuelB
 omega
theorem bndF_spec{k:Nat}{top:Rat}(ht':ht top≤k):∀(p:List Rat) (j:Nat),Fl k p→j≤fuelB k→∃j',bndF (fuelB k) top p (pow2 j)=pow2 j'∧j≤j'∧j'≤fuelB k∧∀c∈p,1+absR (c/top)≤pow2 j'
 |[],j,_,h=>⟨j,rfl,Nat.le_refl _,h,fun c hc=>by cases hc⟩
 |c::r,j,hf,h=>by
  rw[bndF]
  obtain⟨b1,b2,b3⟩:=bnd_term (hf c (List.mem_cons_self ..)) ht'
  obtain⟨j1,e1,e2,e3,e4⟩:=dblF_spec b1 (fuelB k) j (by omega)
  rw[e1]
  obtain⟨j2,f1,f2,f3,f4⟩:=bndF_spec ht' r j1 (fun x hx=>hf x (List.mem_cons_of_mem _ hx)) (by omega)
  refine⟨j2,f1,by omega,f3,fun x hx => ?_⟩
  rcases List.mem_cons.1 hx with rfl|hx
  ·exact Rat.le_trans e4 (pow2_mono f2)
  ·exact f4 x hx
def posR(p:List Rat)(lo hi:Rat):Bool:=decide (0<evalL p lo)&&(chg (chainL p) lo-chg (chainL p) hi==0)
def allR(p:List Rat)(b:Rat):Int:=chg (chainL p) (-b)-chg (chainL p) b
def everyB(k:Nat)(p:List Rat):Bool:=decide (0<evalL p 0)&&(allR p (bndQ k p)==0)
def err31(p:List ARat)(r:ARange):Int:=if chk p=0 then (if r.ok=true then 0 else 3) else chk p
end Go.Proofs.YtbgkjomonebfcaaGreat.Sym
namespace Go.Proofs.YtbgkjomonebfcaaGreat.Sym.Path
open Go
set_option maxRecDepth 20000
set_option linter.unusedVariables false
namespace positive_Bernstein
theorem e0(p:List ARat)(rV:ARange)(ber:List ARat)(ber1:Option Int)(h1:Contract prg 75 [(polyPV p),rV.pv] .nilI)(h2:Contract prg 76 [(polyPV p),rV.pv] (.tup [(polyPV ber),(errPV ber1)])):Contract prg 18 [(polyPV p),rV.pv] (.tup [(polyPV ber),(errPV ber1)]) :=
 Contract.ofL Tryz.func18 (by kernel_rfl) (L.done mixed tabOk (n:=93) (ns:=[1,1]) (tr:=[.reg [],.reg [.none,.none,(.pv .nilI)],.reg [],.auto,.reg [.none,.none,(.pv (.tup [(polyPV ber),(errPV ber1)]))]]) (cj h1 (cj h2 True.intro)) (by kernel_rfl))
end positive_Bernstein
namespace positive_Decide
theorem e0(p:List ARat)(rV:ARange)(dec:Bool)(dec1:Option Int)(h1:Contract prg 75 [(polyPV p),rV.pv] .nilI)(h2:Contract prg 77 [(polyPV p),rV.pv] (.tup [(vB dec),(errPV dec1)])):Contract prg 19 [(polyPV p),rV.pv] (.tup [(vB dec),(errPV dec1)]) :=
 Contract.ofL Tryz.func19 (by kernel_rfl) (L.done mixed tabOk (n:=93) (ns:=[1,1]) (tr:=[.reg [],.reg [.none,.none,(.pv .nilI)],.reg [],.auto,.reg [.none,.none,(.pv (.tup [(vB dec),(errPV dec1)]))]]) (cj h1 (cj h2 True.intro)) (by kernel_rfl))
end positive_Decide
namespace positive_Everywhere
theorem e0(p:List ARat)(eva:ARat)(sig:Int)(h1:Contract prg 78 [(polyPV p)] .nilI)(h2:Contract prg 27 [(polyPV p),(⟨false,[],[]⟩:ARat).pv] (.tup [eva.pv,.nilI]))(h3:Contract prg 39 [eva.pv] (vI sig))(h4:sig≤0):Contract prg 20 [(polyPV p)] (.tup [(vB false),.nilI]) :=
 Contract.ofL Tryz.func20 (by kernel_rfl) (L.done mixed tabOk (n:=111) (ns:=[1,1,1,1,1,1,1]) (tr:=[.reg [],.reg [.none,(.pv .nilI)],.reg [],.auto,.reg [.none,.none,(.pv (.tup [eva.pv,.nilI]))],.reg [.none,.none,.none,.none,(.pv (vI sig))],.dec true,.reg []]) (cj h1 (cj h2 (cj (Eq.refl false) (cj (Eq.refl false) (cj h3 (cj (Eq.refl false) (cj (dle_t h4) True.intro))))))) (by kernel_rfl))
theorem e1(p:List ARat)(eva:ARat)(sig all:Int)(all1:Option Int)(h1:Contract prg 78 [(polyPV p)] .nilI)(h2:Contract prg 27 [(polyPV p),(⟨false,[],[]⟩:ARat).pv] (.tup [eva.pv,.nilI]))(h3:Contract prg 39 [eva.pv] (vI sig))(h4:0<sig)(h5:Contract prg 79 [(polyPV p)] (.tup [(vI all),(errPV all1)])):Contract prg 20 [(polyPV p)] (.tup [(vB (all==0)),(errPV all1)]) :=
 Contract.ofL Tryz.func20 (by kernel_rfl) (L.done mixed tabOk (n:=120) (ns:=[1,1,1,1,1,1,1,1]) (tr:=[.reg [],.reg [.none,(.pv .nilI)],.reg [],.auto,.reg [.none,.none,(.pv (.tup [eva.pv,.nilI]))],.reg [.none,.none,.none,.none,(.pv (vI sig))],.dec false,.reg [.none,(.pv (.tup [(vI all),(errPV all1)]))],.reg []]) (cj h1 (cj h2 (cj (Eq.refl false) (cj (Eq.refl false) (cj h3 (cj (Eq.refl false) (cj (dle_f h4) (cj h5 True.intro)))))))) (by kernel_rfl))
end positive_Everywhere
namespace positive_Verify
@[reducible] noncomputable def fn:Func:=Tryz.f35
noncomputable def atK1:List Itm:=focus [0,2,0,0,2,0,2,1,2,0,0,2,1,2,0,0,2,0,0] [.code (bodyOf fn)]
def inv1(p:List ARat)(c:APosCert)(t_30:Nat)(rV:ARange):St:=⟨[(0,(.pv (polyPV p))),(4,(.ptr 4 0)),(5,(.ptr 5 0)),(28,(.pv (polyPV c.cuts))),(29,(eI (c.cuts.length:Int))),(30,(eI (t_30:Int)))],[(4,(.lit [(eB rV.lo.neg),(.pv (wordsPV rV.lo.num)),(.pv (wordsPV rV.lo.den)),(eB rV.hi.neg),(.pv (wordsPV rV.hi.num)),(.pv (wordsPV rV.hi.den))])),(5,(.lit [(.pv (polyPV c.cuts))]))]⟩
@[reducible] noncomputable def Loop1(p:List ARat)(c:APosCert)(t_30:Nat)(rV:ARange)(r:PV):Prop:=L prg fn atK1 (inv1 p c t_30 rV) r
noncomputable def atK2:List Itm:=focus [0,2,0,0,2,0,2,1,2,0,0,2,1,2,0,0,2,0,0,0,0,2,0,1,2,2,2,2,0,2,0,0,2,0,0] [.code (bodyOf fn)]
def inv2(p:List ARat)(c:APosCert)(rV:ARange)(t_81:Nat)(site_11:ARat):St:=⟨[(0,(.pv (polyPV p))),(11,(.ptr 11 0)),(79,(.row 79 0 ((c.cuts++[rV.hi]).length) 3)),(80,(eI (((c.cuts++[rV.hi]).length:Nat):Int))),(81,(eI (t_81:Int)))],[(11,(.lit [(eB site_11.neg),(.pv (wordsPV site_11.num)),(.pv (wordsPV site_11.den))])),(79,(.pure (((c.cuts++[rV.hi]):List ARat).map ARat.cells).flatten))]⟩
@[reducible] noncomputable def Loop2(p:List ARat)(c:APosCert)(rV:ARange)(t_81:Nat)(site_11:ARat)(r:PV):Prop:=L prg fn atK2 (inv2 p c rV t_81 site_11) r
theorem e0(p:List ARat)(rV:ARange)(c:APosCert)(h1:Contract prg 75 [(polyPV p),rV.pv] .nilI)(h2:255<c.cuts.length):Contract prg 35 [(polyPV p),rV.pv,c.pv] (.tup [(vB false),(.iface 94 (vI 4))]) :=
 Contract.ofL Tryz.func35 (by kernel_rfl) (L.done mixed tabOk (n:=105) (ns:=[1,1,1]) (tr:=[.reg [],.reg [.none,.none,(.pv .nilI)],.reg [],.auto,.reg [.none,.none,(iI (c.cuts.length:Int))],.dec true,.reg []]) (cj h1 (cj (o_len ARat.cells c.cuts) (cj (dltN_t h2) True.intro))) (by kernel_rfl))
theorem e1(p:List ARat)(rV:ARange)(c:APosCert){r:PV}(h1:Contract prg 75 [(polyPV p),rV.pv] .nilI)(h2:c.cuts.length≤255)(hL:Loop1 p c 0 rV r):Contract prg 35 [(polyPV p),rV.pv,c.pv] r :=
 Contract.ofL Tryz.func35 (by kernel_rfl) (L.go mixed tabOk (n:=117) (ns:=[1,1,1,1]) (tr:=[.reg [],.reg [.none,.none,(.pv .nilI)],.reg [],.auto,.reg [.none,.none,(iI (c.cuts.length:Int))],.dec false,.reg [.none,.none,(iI (c.cuts.length:Int))],.keep [0,4,5,28,29,30],.ord [4,5]]) (cj h1 (cj (o_len ARat.cells c.cuts) (cj (dltN_f h2) (cj (o_len ARat.cells c.cuts) True.intro)))) (by kernel_rfl) hL)
theorem l10(p:List ARat)(c:APosCert)(t_30:Nat)(rV:ARange)(v:ARat)(val:Bool)(h1:t_30<c.cuts.length)(h2:c.cuts[t_30]? = some v)(h3:Contract prg 97 [v.pv] (vB val))(h4:val=false):Loop1 p c t_30 rV (.tup [(vB false),(.iface 94 (vI 2))]) :=
 L.done mixed tabOk (n:=165) (ns:=[1,3,1,1]) (tr:=[.auto,.reg [],.dec true,.reg [.none,(.row t_30 (ARat.cells v))],.reg [.none,(.pv (vB val))],.dec true,.reg []]) (cj (dltN_t h1) (cj (o_at ARat.cells (Eq.refl (((t_30:Nat):Int):Int)) h2) (cj h3 (cj (bnot_t h4) True.intro)))) (by kernel_rfl)
theorem l11(p:List ARat)(c:APosCert)(t_30:Nat)(rV:ARange)(v:ARat)(val:Bool)(cmp:Int)(h1:t_30<c.cuts.length)(h2:c.cuts[t_30]? = some v)(h3:Contract prg 97 [v.pv] (vB val))(h4:val=true)(h5:Contract prg 29 [v.pv,rV.lo.pv] (vI cmp))(h6:cmp≤0):Loop1 p c t_30 rV (.tup [(vB false),(.iface 94 (vI 3))]) :=
 L.done mixed tabOk (n:=174) (ns:=[1,3,1,1,1,1,1,1,1,1,1]) (tr:=[.auto,.reg [],.dec true,.reg [.none,(.row t_30 (ARat.cells v))],.reg [.none,(.pv (vB val))],.dec false,.reg [.none,.none,.none,(.pv (vI cmp)),.none,.none,.skip,.skip,.skip,.skip,.skip,(.dec true)],.auto,.reg []]) (cj (dltN_t h1) (cj (o_at ARat.cells (Eq.refl (((t_30:Nat):Int):Int)) h2) (cj h3 (cj (bnot_f h4) (cj h5 (cj (dle_t h6) (cj (dle_t h6) (cj (dle_t h6) (cj (dle_t h6) (cj (dle_t h6) (cj (dle_t h6) True.intro))))))))))) (by kernel_rfl)
theorem l12(p:List ARat)(c:APosCert)(t_30:Nat)(rV:ARange)(v:ARat)(val:Bool)(cmp cmp1:Int)(h1:t_30<c.cuts.length)(h2:c.cuts[t_30]? = some v)(h3:Contract prg 97 [v.pv] (vB val))(h4:val=true)(h5:Contract prg 29 [v.pv,rV.lo.pv] (vI cmp))(h6:0<cmp)(h7:Contract prg 29 [v.pv,rV.hi.pv] (vI cmp1))(h8:0≤cmp1):Loop1 p c t_30 rV (.tup [(vB false),(.iface 94 (vI 3))]) :=
 L.done mixed tabOk (n:=174) (ns:=[1,3,1,1,1,1,1,1,1,1,1,1,1]) (tr:=[.auto,.reg [],.dec true,.reg [.none,(.row t_30 (ARat.cells v))],.reg [.none,(.pv (vB val))],.dec false,.reg [.none,.none,.none,(.pv (vI cmp)),.none,.none,.none,.none,.none,(.pv (vI cmp1)),.none,(.dec false)],.dec true,.reg []]) (cj (dltN_t h1) (cj (o_at ARat.cells (Eq.refl (((t_30:Nat):Int):Int)) h2) (cj h3 (cj (bnot_f h4) (cj h5 (cj (dle_f h6) (cj (dle_f h6) (cj (dle_f h6) (cj (dle_f h6) (cj h7 (cj (dle_f h6) (cj (dle_f h6) (cj (dle_t h8) True.intro))))))))))))) (by kernel_rfl)
theorem l13(p:List ARat)(c:APosCert)(t_30:Nat)(rV:ARange)(v:ARat)(val:Bool)(cmp cmp1:Int)(k:Nat)(v1:ARat)(cmp2:Int)(h1:t_30<c.cuts.length)(h2:c.cuts[t_30]? = some v)(h3:Contract prg 97 [v.pv] (vB val))(h4:val=true)(h5:Contract prg 29 [v.pv,rV.lo.pv] (vI cmp))(h6:0<cmp)(h7:Contract prg 29 [v.pv,rV.hi.pv] (vI cmp1))(h8:cmp1<0)(h9:0<t_30)(h10:InI64 ((t_30:Int)-1))(h11:((t_30:Int)-1)=(k:Int))(h12:c.cuts[k]? = some v1)(h13:Contract prg 29 [v.pv,v1.pv] (vI cmp2))(h14:cmp2≤0):Loop1 p c t_30 rV (.tup [(vB false),(.iface 94 (vI 12))]) :=
 L.done mixed tabOk (n:=183) (ns:=[1,3,1,1,1,1,1,1,1,1,1,1,1,1,1,1,1,1,1,1,3,1,1,1,1,1,1]) (tr:=[.auto,.reg [],.dec true,.reg [.none,(.row t_30 (ARat.cells v))],.reg [.none,(.pv (vB val))],.dec false,.reg [.none,.none,.none,(.pv (vI cmp)),.none,.none,.none,.none,.none,(.pv (vI cmp1)),.none,(.dec false)],.dec false,dr 13 1 [.none,.none,.none,.none,.none,.none,.none,(iI ((t_30:Int)-1)),(.row k (ARat.cells v1)),.none,(.pv (vI cmp2)),.none,(.dec true)],.dec true,.reg []]) (cj (dltN_t h1) (cj (o_at ARat.cells (Eq.refl (((t_30:Nat):Int):Int)) h2) (cj h3 (cj (bnot_f h4) (cj h5 (cj (dle_f h6) (cj (dle_f h6) (cj (dle_f h6) (cj (dle_f h6) (cj h7 (cj (dle_f h6) (cj (dle_f h6) (cj (dle_f h8) (cj (dltN_t h9) (cj (dltN_t h9) (cj (dltN_t h9) (cj (dltN_t h9) (cj (dltN_t h9) (cj (bs_sub h10) (cj (dltN_t h9) (cj (o_at ARat.cells h11 h12) (cj (dltN_t h9) (cj (dltN_t h9) (cj h13 (cj (dltN_t h9) (cj (dltN_t h9) (cj (dle_t h14) True.intro))))))))))))))))))))))))))) (by kernel_rfl)
theorem l14(p:List ARat)(c:APosCert)(t_30:Nat)(rV:ARange)(v:ARat)(val:Bool)(cmp cmp1:Int)(k:Nat)(v1:ARat)(cmp2:Int){r:PV}(h1:t_30<c.cuts.length)(h2:c.cuts[t_30]? = some v)(h3:Contract prg 97 [v.pv] (vB val))(h4:val=true)(h5:Contract prg 29 [v.pv,rV.lo.pv] (vI cmp))(h6:0<cmp)(h7:Contract prg 29 [v.pv,rV.hi.pv] (vI cmp1))(h8:cmp1<0)(h9:0<t_30)(h10:InI64 ((t_30:Int)-1))(h11:((t_30:Int)-1)=(k:Int))(h12:c.cuts[k]? = some v1)(h13:Contract prg 29 [v.pv,v1.pv] (vI cmp2))(h14:0<cmp2)(h15:(t_30+1)<9223372036854775808)(hL:Loop1 p c (t_30+1) rV r):Loop1 p c t_30 rV r :=
 L.go mixed tabOk (n:=189) (ns:=[1,3,1,1,1,1,1,1,1,1,1,1,1,1,1,1,1,1,1,1,3,1,1,1,1,1,1,1]) (tr:=[.auto,.reg [],.dec true,.reg [.none,(.row t_30 (ARat.cells v))],.reg [.none,(.pv (vB val))],.dec false,.reg [.none,.none,.none,(.pv (vI cmp)),.none,.none,.none,.none,.none,(.pv (vI cmp1)),.none,(.dec false)],.dec false,dr 13 1 [.none,.none,.none,.none,.none,.none,.none,(iI ((t_30:Int)-1)),(.row k (ARat.cells v1)),.none,(.pv (vI cmp2)),.none,(.dec true)],.dec false,.reg [(iI (((t_30+1):Nat):Int))],.keep [0,4,5,28,29,30],.drop [10]]) (cj (dltN_t h1) (cj (o_at ARat.cells (Eq.refl (((t_30:Nat):Int):Int)) h2) (cj h3 (cj (bnot_f h4) (cj h5 (cj (dle_f h6) (cj (dle_f h6) (cj (dle_f h6) (cj (dle_f h6) (cj h7 (cj (dle_f h6) (cj (dle_f h6) (cj (dle_f h8) (cj (dltN_t h9) (cj (dltN_t h9) (cj (dltN_t h9) (cj (dltN_t h9) (cj (dltN_t h9) (cj (bs_sub h10) (cj (dltN_t h9) (cj (o_at ARat.cells h11 h12) (cj (dltN_t h9) (cj (dltN_t h9) (cj h13 (cj (dltN_t h9) (cj (dltN_t h9) (cj (dle_f h14) (cj (bs_addN h15) True.intro)))))))))))))))))))))))))))) (by kernel_rfl) hL
theorem l15(p:List ARat)(c:APosCert)(t_30:Nat)(rV:ARange)(v:ARat)(val:Bool)(cmp cmp1:Int){r:PV}(h1:t_30<c.cuts.length)(h2:c.cuts[t_30]? = some v)(h3:Contract prg 97 [v.pv] (vB val))(h4:val=true)(h5:Contract prg 29 [v.pv,rV.lo.pv] (vI cmp))(h6:0<cmp)(h7:Contract prg 29 [v.pv,rV.hi.pv] (vI cmp1))(h8:cmp1<0)(h9:t_30≤0)(h10:(t_30+1)<9223372036854775808)(hL:Loop1 p c (t_30+1) rV r):Loop1 p c t_30 rV r :=
 L.go mixed tabOk (n:=189) (ns:=[1,3,1,1,1,1,1,1,1,1,1,1,1,1,1,1,1,1,1,1,1,1,1,1]) (tr:=[.auto,.reg [],.dec true,.reg [.none,(.row t_30 (ARat.cells v))],.reg [.none,(.pv (vB val))],.dec false,.reg [.none,.none,.none,(.pv (vI cmp)),.none,.none,.none,.none,.none,(.pv (vI cmp1)),.none,(.dec false)],.dec false,dr 13 1 [.none,.none,.none,.skip,.skip,.skip,.skip,.skip,.skip,.skip,.skip,.skip,(.dec false)],.auto,.reg [(iI (((t_30+1):Nat):Int))],.keep [0,4,5,28,29,30],.drop [10]]) (cj (dltN_t h1) (cj (o_at ARat.cells (Eq.refl (((t_30:Nat):Int):Int)) h2) (cj h3 (cj (bnot_f h4) (cj h5 (cj (dle_f h6) (cj (dle_f h6) (cj (dle_f h6) (cj (dle_f h6) (cj h7 (cj (dle_f h6) (cj (dle_f h6) (cj (dle_f h8) (cj (dltN_f h9) (cj (dltN_f h9) (cj (dltN_f h9) (cj (dltN_f h9) (cj (dltN_f h9) (cj (dltN_f h9) (cj (dltN_f h9) (cj (dltN_f h9) (cj (dltN_f h9) (cj (dltN_f h9) (cj (bs_addN h10) True.intro)))))))))))))))))))))))) (by kernel_rfl) hL
theorem l16_any0(p:List ARat)(c:APosCert)(rV:ARange):anyL prg tab fn.ntmps (opsAt (focus [0,2,0,0,2,0,2,1,2,0,0,2,1,2,0,0,2,0,0,0,0,2,0,1,2,2,2,2,0,2,0,0] [.code (bodyOf fn)])) (downs (opsAt (focus [0,2,0,0,2,0,2,1,2,0,0,2,1,2,0,0,2,0,0,0,0,2,0,1,2,2,2,2,0,2,0,0] [.code (bodyOf fn)]))) [.none,.none,.none,(.app (c.cuts:List ARat).length ((c.cuts:List ARat).map ARat.cells).flatten),.none,.none,.none,(.app ((c.cuts++[rV.hi]):List ARat).length (((c.cuts++[rV.hi]):List ARat).map ARat.cells).flatten),.none,.none] ⟨[(0,(.pv (polyPV p))),(4,(.ptr 4 0)),(5,(.ptr 5 0)),(11,(.ptr 11 0))],[(11,(.lit [(eB rV.lo.neg),(.pv (wordsPV rV.lo.num)),(.pv (wordsPV rV.lo.den))])),(4,(.lit [(eB rV.lo.neg),(.pv (wordsPV rV.lo.num)),(.pv (wordsPV rV.lo.den)),(eB rV.hi.neg),(.pv (wordsPV rV.hi.num)),(.pv (wordsPV rV.hi.den))])),(5,(.lit [(.pv (polyPV c.cuts))]))]⟩=anyR prg tab fn.ntmps (opsAt (focus [0,2,0,0,2,0,2,1,2,0,0,2,1,2,0,0,2,0,0,0,0,2,0,1,2,2,2,2,0,2,0,0] [.code (bodyOf fn)])) (downs (opsAt (focus [0,2,0,0,2,0,2,1,2,0,0,2,1,2,0,0,2,0,0,0,0,2,0,1,2,2,2,2,0,2,0,0] [.code (bodyOf fn)]))) [.none,.none,.none,(.app (c.cuts:List ARat).length ((c.cuts:List ARat).map ARat.cells).flatten),.none,.none,.none,(.app ((c.cuts++[rV.hi]):List ARat).length (((c.cuts++[rV.hi]):List ARat).map ARat.cells).flatten),.none,.none] ⟨[(0,(.pv (polyPV p))),(4,(.ptr 4 0)),(5,(.ptr 5 0)),(11,(.ptr 11 0))],[(11,(.lit [(eB rV.lo.neg),(.pv (wordsPV rV.lo.num)),(.pv (wordsPV rV.lo.den))])),(4,(.lit [(eB rV.lo.neg),(.pv (wordsPV rV.lo.num)),(.pv (wordsPV rV.lo.den)),(eB rV.hi.neg),(.pv (wordsPV rV.hi.num)),(.pv (wordsPV rV.hi.den))])),(5,(.lit [(.pv (polyPV c.cuts))]))]⟩:=by kernel_rfl
theorem l16(p:List ARat)(c:APosCert)(t_30:Nat)(rV:ARange){r:PV}(h1:c.cuts.length≤t_30)(h2:(([]:List ARat)++c.cuts:List ARat).length*56≤140737488355328)(h3:((c.cuts++[rV.hi]):List ARat).length*56≤140737488355328)(hL:Loop2 p c rV 0 rV.lo r):Loop1 p c t_30 rV r :=
 L.go mixed tabOk (n:=165) (ns:=[1,6,6,1]) (tr:=[.auto,.reg [],.dec false,.reg [],.keep [0,4,5,11],.any [.none,.none,.none,(.app (c.cuts:List ARat).length ((c.cuts:List ARat).map ARat.cells).flatten),.none,.none,.none,(.app ((c.cuts++[rV.hi]):List ARat).length (((c.cuts++[rV.hi]):List ARat).map ARat.cells).flatten),.none,.none],.keep [0,11,79,80,81],.drop [78,4,5],.ord [11,79]]) (cj (dltN_f h1) (cj (o_appL sz_ARat ([]:List ARat) (c.cuts:List ARat) 56 (Eq.refl ([]:List ARat).length) h2 rfl) (cj (o_appR sz_ARat (c.cuts:List ARat) ([rV.hi]:List ARat) 56 (Eq.refl (c.cuts:List ARat).length) (Eq.refl ([rV.hi]:List ARat).length) h3 rfl) (cj (l16_any0 p c rV) True.intro)))) (by kernel_rfl) hL
theorem l20(p:List ARat)(c:APosCert)(rV:ARange)(t_81:Nat)(site_11 v:ARat)(cle:Bool)(h1:t_81<(c.cuts++[rV.hi]).length)(h2:(c.cuts++[rV.hi])[t_81]? = some v)(h3:Contract prg 98 [(polyPV p),(⟨site_11,v⟩:ARange).pv] (.tup [(vB cle),.nilI]))(h4:cle=false):Loop2 p c rV t_81 site_11 (.tup [(vB false),.nilI]) :=
 L.done mixed tabOk (n:=219) (ns:=[1,2,2,1,1,1,1]) (tr:=[.auto,.reg [],.dec true,.reg [(.nat t_81),(.seg [(vB v.neg),(wordsPV v.num),(wordsPV v.den)])],.reg [.none,.none,.none,.none,(.pv (.tup [(vB cle),.nilI]))],.reg [],.dec true,.reg []]) (cj (dltN_t h1) (cj (cj (Eq.refl (((t_81:Nat):Int):Int)) h1) (cj (o_seg sz_ARat h2) (cj h3 (cj (Eq.refl false) (cj (Eq.refl false) (cj (bnot_t h4) True.intro))))))) (by kernel_rfl)
theorem l21(p:List ARat)(c:APosCert)(rV:ARange)(t_81:Nat)(site_11 v:ARat)(cle:Bool){r:PV}(h1:t_81<(c.cuts++[rV.hi]).length)(h2:(c.cuts++[rV.hi])[t_81]? = some v)(h3:Contract prg 98 [(polyPV p),(⟨site_11,v⟩:ARange).pv] (.tup [(vB cle),.nilI]))(h4:cle=true)(h5:(t_81+1)<9223372036854775808)(hL:Loop2 p c rV (t_81+1) v r):Loop2 p c rV t_81 site_11 r :=
 L.go mixed tabOk (n:=225) (ns:=[1,2,2,1,1,1,1,1]) (tr:=[.auto,.reg [],.dec true,.reg [(.nat t_81),(.seg [(vB v.neg),(wordsPV v.num),(wordsPV v.den)])],.reg [.none,.none,.none,.none,(.pv (.tup [(vB cle),.nilI]))],.reg [],.dec false,.reg [],.reg [(iI (((t_81+1):Nat):Int))],.keep [0,11,79,80,81],.drop [13]]) (cj (dltN_t h1) (cj (cj (Eq.refl (((t_81:Nat):Int):Int)) h1) (cj (o_seg sz_ARat h2) (cj h3 (cj (Eq.refl false) (cj (Eq.refl false) (cj (bnot_f h4) (cj (bs_addN h5) True.intro)))))))) (by kernel_rfl) hL
theorem l23(p:List ARat)(c:APosCert)(rV:ARange)(t_81:Nat)(site_11:ARat)(h1:(c.cuts++[rV.hi]).length≤t_81):Loop2 p c rV t_81 site_11 (.tup [(vB true),.nilI]) :=
 L.done mixed tabOk (n:=198) (ns:=[1]) (tr:=[.auto,.reg [],.dec false,.reg []]) (cj (dltN_f h1) True.intro) (by kernel_rfl)
end positive_Verify
namespace positive_Make
theorem e0(p:List ARat)(rV:ARange)(depth:Int)(h1:Contract prg 75 [(polyPV p),rV.pv] .nilI)(h2:depth<0):Contract prg 37 [(polyPV p),rV.pv,(vI depth)] (.tup [(⟨[]⟩:APosCert).pv,(.iface 94 (vI 3))]) :=
 Contract.ofL Tryz.func37 (by kernel_rfl) (L.done mixed tabOk (n:=105) (ns:=[1,1,1,1]) (tr:=[.reg [],.reg [.none,.none,(.pv .nilI)],.reg [],.auto,.reg [.none,.none,.none,.skip,.skip,(.dec true)],.auto,.reg []]) (cj h1 (cj (dlt_t h2) (cj (dlt_t h2) (cj (dlt_t h2) True.intro)))) (by kernel_rfl))
theorem e1(p:List ARat)(rV:ARange)(depth:Int)(h1:Contract prg 75 [(polyPV p),rV.pv] .nilI)(h2:0≤depth)(h3:8<depth):Contract prg 37 [(polyPV p),rV.pv,(vI depth)] (.tup [(⟨[]⟩:APosCert).pv,(.iface 94 (vI 3))]) :=
 Contract.ofL Tryz.func37 (by kernel_rfl) (L.done mixed tabOk (n:=105) (ns:=[1,1,1,1,1]) (tr:=[.reg [],.reg [.none,.none,(.pv .nilI)],.reg [],.auto,.reg [.none,.none,.none,.none,.none,(.dec false)],.dec true,.reg []]) (cj h1 (cj (dlt_f h2) (cj (dlt_f h2) (cj (dlt_f h2) (cj (dlt_t h3) True.intro))))) (by kernel_rfl))
theorem e2(p:List ARat)(rV:ARange)(depth:Int)(dec:Bool)(h1:Contract prg 75 [(polyPV p),rV.pv] .nilI)(h2:0≤depth)(h3:depth≤8)(h4:Contract prg 77 [(polyPV p),rV.pv] (.tup [(vB dec),.nilI]))(h5:dec=false):Contract prg 37 [(polyPV p),rV.pv,(vI depth)] (.tup [(⟨[]⟩:APosCert).pv,(.iface 94 (vI 21))]) :=
 Contract.ofL Tryz.func37 (by kernel_rfl) (L.done mixed tabOk (n:=141) (ns:=[1,1,1,1,1,1,1]) (tr:=[.reg [],.reg [.none,.none,(.pv .nilI)],.reg [],.auto,.reg [.none,.none,.none,.none,.none,(.dec false)],.dec false,.reg [.none,.none,(.pv (.tup [(vB dec),.nilI]))],.reg [],.auto,.reg [],.dec true,.reg []]) (cj h1 (cj (dlt_f h2) (cj (dlt_f h2) (cj (dlt_f h2) (cj (dlt_f h3) (cj h4 (cj (bnot_t h5) True.intro))))))) (by kernel_rfl))
theorem e3(p:List ARat)(rV:ARange)(depth:Int)(dec:Bool)(z:List ARat)(h1:Contract prg 75 [(polyPV p),rV.pv] .nilI)(h2:0≤depth)(h3:depth≤8)(h4:Contract prg 77 [(polyPV p),rV.pv] (.tup [(vB dec),.nilI]))(h5:dec=true)(h6:ContractX prg 101 [.pv .nilS,.pv (polyPV p),.pv rV.pv,.pv (vI depth)] [] (.rowT 0 0 z.length 3 [.nilI]) [(0,(.pure ((z:List ARat).map ARat.cells).flatten))]):Contract prg 37 [(polyPV p),rV.pv,(vI depth)] (.tup [(⟨z⟩:APosCert).pv,.nilI]) :=
 Contract.ofL Tryz.func37 (by kernel_rfl) (L.done mixed tabOk (n:=165) (ns:=[1,1,1,1,1,1,1,1,3]) (tr:=[.reg [],.reg [.none,.none,(.pv .nilI)],.reg [],.auto,.reg [.none,.none,.none,.none,.none,(.dec false)],.dec false,.reg [.none,.none,(.pv (.tup [(vB dec),.nilI]))],.reg [],.auto,.reg [],.dec false,.reg [.none,.none,.none,(.callX [] (some (0,45)) (.rowT 0 0 z.length 3 [.nilI]) [(0,(.pure ((z:List ARat).map ARat.cells).flatten))])],.reg [],.auto,.frzT 11 ((z:List ARat).map ARat.cells),.reg []]) (cj h1 (cj (dlt_f h2) (cj (dlt_f h2) (cj (dlt_f h2) (cj (dlt_f h3) (cj h4 (cj (bnot_f h5) (cj h6 (cj (o_frz sz_ARat (z:List ARat) (Eq.refl (z:List ARat).length)) True.intro))))))))) (by kernel_rfl))
theorem e4(p:List ARat)(rV:ARange)(depth:Int)(dec:Bool)(z:List ARat)(cut:Int)(h1:Contract prg 75 [(polyPV p),rV.pv] .nilI)(h2:0≤depth)(h3:depth≤8)(h4:Contract prg 77 [(polyPV p),rV.pv] (.tup [(vB dec),.nilI]))(h5:dec=true)(h6:ContractX prg 101 [.pv .nilS,.pv (polyPV p),.pv rV.pv,.pv (vI depth)] [] (.rowT 0 0 z.length 3 [(.iface 94 (vI cut))]) [(0,(.pure ((z:List ARat).map ARat.cells).flatten))]):Contract prg 37 [(polyPV p),rV.pv,(vI depth)] (.tup [(⟨[]⟩:APosCert).pv,(.iface 94 (vI cut))]) :=
 Contract.ofL Tryz.func37 (by kernel_rfl) (L.done mixed tabOk (n:=162) (ns:=[1,1,1,1,1,1,1,1]) (tr:=[.reg [],.reg [.none,.none,(.pv .nilI)],.reg [],.auto,.reg [.none,.none,.none,.none,.none,(.dec false)],.dec false,.reg [.none,.none,(.pv (.tup [(vB dec),.nilI]))],.reg [],.auto,.reg [],.dec false,.reg [.none,.none,.none,(.callX [] (some (0,45)) (.rowT 0 0 z.length 3 [(.iface 94 (vI cut))]) [(0,(.pure ((z:List ARat).map ARat.cells).flatten))])],.reg [],.auto,.reg []]) (cj h1 (cj (dlt_f h2) (cj (dlt_f h2) (cj (dlt_f h2) (cj (dlt_f h3) (cj h4 (cj (bnot_f h5) (cj h6 True.intro)))))))) (by kernel_rfl))
theorem e6(p:List ARat)(rV:ARange)(depth che:Int)(h1:Contract prg 75 [(polyPV p),rV.pv] (.iface 94 (vI che))):Contract prg 37 [(polyPV p),rV.pv,(vI depth)] (.tup [(⟨[]⟩:APosCert).pv,(.iface 94 (vI che))]) :=
 Contract.ofL Tryz.func37 (by kernel_rfl) (L.done mixed tabOk (n:=90) (ns:=[1]) (tr:=[.reg [],.reg [.none,.none,(.pv (.iface 94 (vI che)))],.reg [],.auto,.reg []]) (cj h1 True.intro) (by kernel_rfl))
end positive_Make
namespace linkworkref31_Make
theorem e0(p:List ARat)(rV:ARange)(depth err:Int)(h1:Contract prg 80 [(polyPV p),rV.pv] (vI err))(h2:err≠0):Contract prg 38 [(polyPV p),rV.pv,(vI depth)] (.tup [(⟨[]⟩:APosCert).pv,(vI err)]) :=
 Contract.ofL Tryz.func38 (by kernel_rfl) (L.done mixed tabOk (n:=90) (ns:=[1,1]) (tr:=[.reg [],.reg [.none,.none,(.pv (vI err))],.reg [],.dec true,.reg []]) (cj h1 (cj (dne_t h2) True.intro)) (by kernel_rfl))
theorem e1(p:List ARat)(rV:ARange)(depth err:Int)(h1:Contract prg 80 [(polyPV p),rV.pv] (vI err))(h2:err=0)(h3:depth<0):Contract prg 38 [(polyPV p),rV.pv,(vI depth)] (.tup [(⟨[]⟩:APosCert).pv,(vI 3)]) :=
 Contract.ofL Tryz.func38 (by kernel_rfl) (L.done mixed tabOk (n:=105) (ns:=[1,1,1,1,1]) (tr:=[.reg [],.reg [.none,.none,(.pv (vI err))],.reg [],.dec false,.reg [.none,.none,.none,.skip,.skip,(.dec true)],.auto,.reg []]) (cj h1 (cj (dne_f h2) (cj (dlt_t h3) (cj (dlt_t h3) (cj (dlt_t h3) True.intro))))) (by kernel_rfl))
theorem e2(p:List ARat)(rV:ARange)(depth err:Int)(h1:Contract prg 80 [(polyPV p),rV.pv] (vI err))(h2:err=0)(h3:0≤depth)(h4:8<depth):Contract prg 38 [(polyPV p),rV.pv,(vI depth)] (.tup [(⟨[]⟩:APosCert).pv,(vI 3)]) :=
 Contract.ofL Tryz.func38 (by kernel_rfl) (L.done mixed tabOk (n:=105) (ns:=[1,1,1,1,1,1]) (tr:=[.reg [],.reg [.none,.none,(.pv (vI err))],.reg [],.dec false,.reg [.none,.none,.none,.none,.none,(.dec false)],.dec true,.reg []]) (cj h1 (cj (dne_f h2) (cj (dlt_f h3) (cj (dlt_f h3) (cj (dlt_f h3) (cj (dlt_t h4) True.intro)))))) (by kernel_rfl))
theorem e3(p:List ARat)(rV:ARange)(depth err:Int)(dec:Bool)(h1:Contract prg 80 [(polyPV p),rV.pv] (vI err))(h2:err=0)(h3:0≤depth)(h4:depth≤8)(h5:Contract prg 82 [(polyPV p),rV.pv] (vB dec))(h6:dec=false):Contract prg 38 [(polyPV p),rV.pv,(vI depth)] (.tup [(⟨[]⟩:APosCert).pv,(vI 21)]) :=
 Contract.ofL Tryz.func38 (by kernel_rfl) (L.done mixed tabOk (n:=120) (ns:=[1,1,1,1,1,1,1,1]) (tr:=[.reg [],.reg [.none,.none,(.pv (vI err))],.reg [],.dec false,.reg [.none,.none,.none,.none,.none,(.dec false)],.dec false,.reg [.none,.none,(.pv (vB dec))],.dec true,.reg []]) (cj h1 (cj (dne_f h2) (cj (dlt_f h3) (cj (dlt_f h3) (cj (dlt_f h3) (cj (dlt_f h4) (cj h5 (cj (bnot_t h6) True.intro)))))))) (by kernel_rfl))
theorem e4(p:List ARat)(rV:ARange)(depth err:Int)(dec:Bool)(z:List ARat)(cut:Bool)(h1:Contract prg 80 [(polyPV p),rV.pv] (vI err))(h2:err=0)(h3:0≤depth)(h4:depth≤8)(h5:Contract prg 82 [(polyPV p),rV.pv] (vB dec))(h6:dec=true)(h7:ContractX prg 102 [.pv (polyPV p),.pv rV.pv,.pv (vI depth)] [] (.rowT 0 0 z.length 3 [(vB cut)]) [(0,(.pure ((z:List ARat).map ARat.cells).flatten))])(h8:cut=false):Contract prg 38 [(polyPV p),rV.pv,(vI depth)] (.tup [(⟨[]⟩:APosCert).pv,(vI 15)]) :=
 Contract.ofL Tryz.func38 (by kernel_rfl) (L.done mixed tabOk (n:=141) (ns:=[1,1,1,1,1,1,1,1,1,1]) (tr:=[.reg [],.reg [.none,.none,(.pv (vI err))],.reg [],.dec false,.reg [.none,.none,.none,.none,.none,(.dec false)],.dec false,.reg [.none,.none,(.pv (vB dec))],.dec false,.reg [.none,.none,.none,(.callX [] (some (0,34)) (.rowT 0 0 z.length 3 [(vB cut)]) [(0,(.pure ((z:List ARat).map ARat.cells).flatten))])],.reg [],.dec true,.reg []]) (cj h1 (cj (dne_f h2) (cj (dlt_f h3) (cj (dlt_f h3) (cj (dlt_f h3) (cj (dlt_f h4) (cj h5 (cj (bnot_f h6) (cj h7 (cj (bnot_t h8) True.intro)))))))))) (by kernel_rfl))
theorem e5(p:List ARat)(rV:ARange)(depth err:Int)(dec:Bool)(z:List ARat)(cut:Bool)(h1:Contract prg 80 [(polyPV p),rV.pv] (vI err))(h2:err=0)(h3:0≤depth)(h4:depth≤8)(h5:Contract prg 82 [(polyPV p),rV.pv] (vB dec))(h6:dec=true)(h7:ContractX prg 102 [.pv (polyPV p),.pv rV.pv,.pv (vI depth)] [] (.rowT 0 0 z.length 3 [(vB cut)]) [(0,(.pure ((z:List ARat).map ARat.cells).flatten))])(h8:cut=true):Contract prg 38 [(polyPV p),rV.pv,(vI depth)] (.tup [(⟨z⟩:APosCert).pv,(vI 0)]) :=
 Contract.ofL Tryz.func38 (by kernel_rfl) (L.done mixed tabOk (n:=144) (ns:=[1,1,1,1,1,1,1,1,1,1,3]) (tr:=[.reg [],.reg [.none,.none,(.pv (vI err))],.reg [],.dec false,.reg [.none,.none,.none,.none,.none,(.dec false)],.dec false,.reg [.none,.none,(.pv (vB dec))],.dec false,.reg [.none,.none,.none,(.callX [] (some (0,34)) (.rowT 0 0 z.length 3 [(vB cut)]) [(0,(.pure ((z:List ARat).map ARat.cells).flatten))])],.reg [],.dec false,.frzT 9 ((z:List ARat).map ARat.cells),.reg []]) (cj h1 (cj (dne_f h2) (cj (dlt_f h3) (cj (dlt_f h3) (cj (dlt_f h3) (cj (dlt_f h4) (cj h5 (cj (bnot_f h6) (cj h7 (cj (bnot_f h8) (cj (o_frz sz_ARat (z:List ARat) (Eq.refl (z:List ARat).length)) True.intro))))))))))) (by kernel_rfl))
end linkworkref31_Make
namespace positive_check
theorem e0(p:List ARat)(rV:ARange)(val:Bool)(h1:Contract prg 78 [(polyPV p)] .nilI)(h2:Contract prg 155 [rV.pv] (vB val))(h3:val=false):Contract prg 75 [(polyPV p),rV.pv] (.iface 94 (vI 3)) :=
 Contract.ofL Tryz.func75 (by kernel_rfl) (L.done mixed tabOk (n:=105) (ns:=[1,1,1]) (tr:=[.reg [],.reg [.none,(.pv .nilI)],.reg [],.auto,.reg [.none,(.pv (vB val))],.dec true,.reg []]) (cj h1 (cj h2 (cj (bnot_t h3) True.intro))) (by kernel_rfl))
theorem e1(p:List ARat)(rV:ARange)(val:Bool)(h1:Contract prg 78 [(polyPV p)] .nilI)(h2:Contract prg 155 [rV.pv] (vB val))(h3:val=true):Contract prg 75 [(polyPV p),rV.pv] .nilI :=
 Contract.ofL Tryz.func75 (by kernel_rfl) (L.done mixed tabOk (n:=108) (ns:=[1,1,1]) (tr:=[.reg [],.reg [.none,(.pv .nilI)],.reg [],.auto,.reg [.none,(.pv (vB val))],.dec false,.reg []]) (cj h1 (cj h2 (cj (bnot_f h3) True.intro))) (by kernel_rfl))
theorem e2(p:List ARat)(rV:ARange)(che:Int)(h1:Contract prg 78 [(polyPV p)] (.iface 94 (vI che))):Contract prg 75 [(polyPV p),rV.pv] (.iface 94 (vI che)) :=
 Contract.ofL Tryz.func75 (by kernel_rfl) (L.done mixed tabOk (n:=90) (ns:=[1]) (tr:=[.reg [],.reg [.none,(.pv (.iface 94 (vI che)))],.reg [],.auto,.reg []]) (cj h1 True.intro) (by kernel_rfl))
end positive_check
namespace positive_bernstein
@[reducible] noncomputable def fn:Func:=Tryz.f76
noncomputable def atK1:List Itm:=focus [0,2,0,0,2,1,2,0,2,0,0,2,1,2,0,2,0,2,0,0,2,0,0] [.code (bodyOf fn)]
def inv1(com:List ARat)(deg:Int)(site_87:List ARat)(t_37:Nat):St:=⟨[(6,(.pv (polyPV com))),(8,(eI deg)),(9,(.row 87 0 site_87.length 3)),(36,(eI (deg+1))),(37,(eI (t_37:Int)))],[(87,(.pure ((site_87:List ARat).map ARat.cells).flatten))]⟩
@[reducible] noncomputable def Loop1(com:List ARat)(deg:Int)(site_87:List ARat)(t_37:Nat)(r:PV):Prop:=L prg fn atK1 (inv1 com deg site_87 t_37) r
noncomputable def atK2:List Itm:=focus [0,2,0,0,2,1,2,0,2,0,0,2,1,2,0,2,0,2,0,0,2,0,0,0,0,2,0,0,2,0,0,0,2,0,2,0,0,2,0,0] [.code (bodyOf fn)]
def inv2(com:List ARat)(deg:Int)(site_87:List ARat)(j_10 t_37 t_44 t_45:Nat)(site_11:ARat):St:=⟨[(6,(.pv (polyPV com))),(8,(eI deg)),(9,(.row 87 0 site_87.length 3)),(10,(eI (j_10:Int))),(11,(.ptr 11 0)),(36,(eI (deg+1))),(37,(eI (t_37:Int))),(44,(eI (t_44:Int))),(45,(eI (t_45:Int)))],[(11,(.lit [(eB site_11.neg),(.pv (wordsPV site_11.num)),(.pv (wordsPV site_11.den))])),(87,(.pure ((site_87:List ARat).map ARat.cells).flatten))]⟩
@[reducible] noncomputable def Loop2(com:List ARat)(deg:Int)(site_87:List ARat)(j_10 t_37 t_44 t_45:Nat)(site_11:ARat)(r:PV):Prop:=L prg fn atK2 (inv2 com deg site_87 j_10 t_37 t_44 t_45 site_11) r
theorem e0(p:List ARat)(rV:ARange)(h1:p.length=0):Contract prg 76 [(polyPV p),rV.pv] (.tup [(polyPV []),.nilI]) :=
 Contract.ofL Tryz.func76 (by kernel_rfl) (L.done mixed tabOk (n:=84) (ns:=[1,1]) (tr:=[.reg [],.reg [.none,(iI (p.length:Int))],.dec true,.reg []]) (cj (o_len ARat.cells p) (cj (deqN_t h1) True.intro)) (by kernel_rfl))
theorem e1(p:List ARat)(rV:ARange)(wid:ARat)(tri com:List ARat)(deg:Int){r:PV}(h1:p.length≠0)(h2:Contract prg 156 [rV.pv] wid.pv)(h3:Contract prg 148 [(polyPV [rV.lo,wid])] (polyPV tri))(h4:Contract prg 150 [(polyPV p),(polyPV tri)] (.tup [(polyPV com),.nilI]))(h5:Contract prg 157 [(polyPV p)] (vI deg))(h6:InI64 (deg+1))(hL:Loop1 com deg [] 0 r):Contract prg 76 [(polyPV p),rV.pv] r :=
 Contract.ofL Tryz.func76 (by kernel_rfl) (L.go mixed tabOk (n:=129) (ns:=[1,1,1,3,1,1,1,1]) (tr:=[.reg [],.reg [.none,(iI (p.length:Int))],.dec false,dr 12 1 [.none,.none,.none,.none,(.pv wid.pv),(.slc 0 0 (([rV.lo,wid]:List ARat).map ARat.cells)),(.pv (polyPV tri)),(.pv (.tup [(polyPV com),.nilI]))],.reg [],.auto,.reg [.none,(.pv (vI deg))],.reg [.nil],.adopt 9 87 3,.reg [.none,(iI (deg+1))],.keep [6,8,9,36,37],.drop [3]]) (cj (o_len ARat.cells p) (cj (deqN_f h1) (cj h2 (cj (o_bs sz_ARat ([rV.lo,wid]:List ARat)) (cj h3 (cj h4 (cj h5 (cj (bs_add h6) True.intro)))))))) (by kernel_rfl) hL)
theorem l10(com:List ARat)(deg:Int)(site_87:List ARat)(t_37:Nat){r:PV}(h1:(t_37:Int)<(deg+1))(h2:(t_37+1)<9223372036854775808)(hL:Loop2 com deg site_87 t_37 t_37 (min (t_37+1) com.length) 0 (⟨false,[],[]⟩:ARat) r):Loop1 com deg site_87 t_37 r :=
 L.go mixed tabOk (n:=180) (ns:=[1,1,1,1]) (tr:=[.auto,.reg [],.dec true,.reg [],.reg [],.reg [.none,(iI (((t_37+1):Nat):Int)),.none,(iI (com.length:Int)),(iI (((min (t_37+1) com.length):Nat):Int))],.keep [6,8,9,10,11,36,37,44,45]]) (cj (dlt_t h1) (cj (bs_addN h2) (cj (o_len ARat.cells com) (cj (o_minN (t_37+1) com.length) True.intro)))) (by kernel_rfl) hL
theorem l11(com:List ARat)(deg:Int)(site_87:List ARat)(t_37:Nat)(h1:(deg+1)≤(t_37:Int)):Loop1 com deg site_87 t_37 (.tup [(polyPV site_87),.nilI]) :=
 L.done mixed tabOk (n:=162) (ns:=[1,3]) (tr:=[.auto,.reg [],.dec false,.reg [],.frzT 4 ((site_87:List ARat).map ARat.cells)]) (cj (dlt_f h1) (cj (o_frz sz_ARat (site_87:List ARat) (Eq.refl (site_87:List ARat).length)) True.intro)) (by kernel_rfl)
theorem l20(com:List ARat)(deg:Int)(site_87:List ARat)(j_10 t_37 t_44 t_45:Nat)(site_11 cho cho2 div v mul add:ARat){r:PV}(h1:t_45<t_44)(h2:Contract prg 158 [(vI (j_10:Int)),(vI (t_45:Int))] (.tup [cho.pv,.nilI]))(h3:Contract prg 158 [(vI deg),(vI (t_45:Int))] (.tup [cho2.pv,.nilI]))(h4:Contract prg 109 [cho.pv,cho2.pv] (.tup [div.pv,.nilI]))(h5:com[t_45]? = some v)(h6:Contract prg 85 [div.pv,v.pv] mul.pv)(h7:Contract prg 63 [site_11.pv,mul.pv] add.pv)(h8:(t_45+1)<9223372036854775808)(hL:Loop2 com deg site_87 j_10 t_37 t_44 (t_45+1) add r):Loop2 com deg site_87 j_10 t_37 t_44 t_45 site_11 r :=
 L.go mixed tabOk (n:=282) (ns:=[1,1,1,1,3,1,1,1]) (tr:=[.auto,.reg [],.dec true,.reg [],.reg [.none,.none,(.pv (.tup [cho.pv,.nilI]))],.reg [],.auto,.reg [.none,.none,(.pv (.tup [cho2.pv,.nilI]))],.reg [],.auto,.reg [.none,.none,(.pv (.tup [div.pv,.nilI]))],.reg [],.auto,dr 8 1 [.none,.none,.none,.none,(.row t_45 (ARat.cells v)),.none,(.pv mul.pv),(.pv add.pv)],.reg [(iI (((t_45+1):Nat):Int))],.keep [6,8,9,10,11,36,37,44,45],.drop [15,13]]) (cj (dltN_t h1) (cj h2 (cj h3 (cj h4 (cj (o_at ARat.cells (Eq.refl (((t_45:Nat):Int):Int)) h5) (cj h6 (cj h7 (cj (bs_addN h8) True.intro)))))))) (by kernel_rfl) hL
theorem l24(com:List ARat)(deg:Int)(site_87:List ARat)(j_10 t_37 t_44 t_45:Nat)(site_11:ARat){r:PV}(h1:t_44≤t_45)(h2:((site_87++[site_11]):List ARat).length*56≤140737488355328)(h3:(t_37+1)<9223372036854775808)(hL:Loop1 com deg (site_87++[site_11]) (t_37+1) r):Loop2 com deg site_87 j_10 t_37 t_44 t_45 site_11 r :=
 L.go mixed tabOk (n:=216) (ns:=[1,6,1]) (tr:=[.auto,.reg [],.dec false,.reg [.none,.none,.none,(.app ((site_87++[site_11]):List ARat).length (((site_87++[site_11]):List ARat).map ARat.cells).flatten)],.reg [(iI (((t_37+1):Nat):Int))],.keep [6,8,9,36,37],.drop [86,11]]) (cj (dltN_f h1) (cj (o_appR sz_ARat (site_87:List ARat) ([site_11]:List ARat) 56 (Eq.refl (site_87:List ARat).length) (Eq.refl ([site_11]:List ARat).length) h2 rfl) (cj (bs_addN h3) True.intro))) (by kernel_rfl) hL
end positive_bernstein
namespace positive_decide
theorem e0(p:List ARat)(rV:ARange)(eva:ARat)(sig:Int)(h1:Contract prg 27 [(polyPV p),rV.lo.pv] (.tup [eva.pv,.nilI]))(h2:Contract prg 39 [eva.pv] (vI sig))(h3:sig≤0):Contract prg 77 [(polyPV p),rV.pv] (.tup [(vB false),.nilI]) :=
 Contract.ofL Tryz.func77 (by kernel_rfl) (L.done mixed tabOk (n:=90) (ns:=[1,1,1,1,1,1]) (tr:=[.reg [],.reg [.none,.none,.none,(.pv (.tup [eva.pv,.nilI]))],.reg [.none,.none,.none,.none,(.pv (vI sig))],.dec true,.reg []]) (cj h1 (cj (Eq.refl false) (cj (Eq.refl false) (cj h2 (cj (Eq.refl false) (cj (dle_t h3) True.intro)))))) (by kernel_rfl))
theorem e1(p:List ARat)(rV:ARange)(eva:ARat)(sig cou:Int)(cou1:Option Int)(h1:Contract prg 27 [(polyPV p),rV.lo.pv] (.tup [eva.pv,.nilI]))(h2:Contract prg 39 [eva.pv] (vI sig))(h3:0<sig)(h4:Contract prg 159 [(polyPV p),rV.lo.pv,rV.hi.pv] (.tup [(vI cou),(errPV cou1)])):Contract prg 77 [(polyPV p),rV.pv] (.tup [(vB (cou==0)),(errPV cou1)]) :=
 Contract.ofL Tryz.func77 (by kernel_rfl) (L.done mixed tabOk (n:=99) (ns:=[1,1,1,1,1,1,1]) (tr:=[.reg [],.reg [.none,.none,.none,(.pv (.tup [eva.pv,.nilI]))],.reg [.none,.none,.none,.none,(.pv (vI sig))],.dec false,.reg [.none,.none,.none,.none,.none,(.pv (.tup [(vI cou),(errPV cou1)]))],.reg []]) (cj h1 (cj (Eq.refl false) (cj (Eq.refl false) (cj h2 (cj (Eq.refl false) (cj (dle_f h3) (cj h4 True.intro))))))) (by kernel_rfl))
end positive_decide
namespace linkworkref31_Error
theorem e0(p:List ARat)(rV:ARange)(che:Int)(h1:Contract prg 83 [(polyPV p)] (vI che))(h2:che≠0):Contract prg 80 [(polyPV p),rV.pv] (vI che) :=
 Contract.ofL Tryz.func80 (by kernel_rfl) (L.done mixed tabOk (n:=90) (ns:=[1,1]) (tr:=[.reg [],.reg [.none,(.pv (vI che))],.reg [],.dec true,.reg []]) (cj h1 (cj (dne_t h2) True.intro)) (by kernel_rfl))
theorem e1(p:List ARat)(rV:ARange)(che:Int)(val:Bool)(h1:Contract prg 83 [(polyPV p)] (vI che))(h2:che=0)(h3:Contract prg 161 [rV.pv] (vB val))(h4:val=false):Contract prg 80 [(polyPV p),rV.pv] (vI 3) :=
 Contract.ofL Tryz.func80 (by kernel_rfl) (L.done mixed tabOk (n:=105) (ns:=[1,1,1,1]) (tr:=[.reg [],.reg [.none,(.pv (vI che))],.reg [],.dec false,.reg [.none,(.pv (vB val))],.dec true,.reg []]) (cj h1 (cj (dne_f h2) (cj h3 (cj (bnot_t h4) True.intro)))) (by kernel_rfl))
theorem e2(p:List ARat)(rV:ARange)(che:Int)(val:Bool)(h1:Contract prg 83 [(polyPV p)] (vI che))(h2:che=0)(h3:Contract prg 161 [rV.pv] (vB val))(h4:val=true):Contract prg 80 [(polyPV p),rV.pv] (vI 0) :=
 Contract.ofL Tryz.func80 (by kernel_rfl) (L.done mixed tabOk (n:=108) (ns:=[1,1,1,1]) (tr:=[.reg [],.reg [.none,(.pv (vI che))],.reg [],.dec false,.reg [.none,(.pv (vB val))],.dec false,.reg []]) (cj h1 (cj (dne_f h2) (cj h3 (cj (bnot_f h4) True.intro)))) (by kernel_rfl))
end linkworkref31_Error
namespace linkworkref31_bernstein
@[reducible] noncomputable def fn:Func:=Tryz.f81
noncomputable def atK1:List Itm:=focus [0,2,0,2,0,2,0,2,0,2,0,0,2,0,0] [.code (bodyOf fn)]
def inv1(p:List ARat)(m len_29 t_34:Nat)(rV:ARange)(wid:ARat)(site_27 site_29:List ARat):St:=⟨[(3,(.ptr 3 0)),(5,(eI ((p.length:Int)-1))),(6,(.row 27 0 m 3)),(7,(.row 29 0 len_29 3)),(8,(.ptr 8 0)),(32,(.pv (polyPV p))),(33,(eI (p.length:Int))),(34,(eI (t_34:Int)))],[(3,(.lit [(eB rV.lo.neg),(.pv (wordsPV rV.lo.num)),(.pv (wordsPV rV.lo.den)),(eB rV.hi.neg),(.pv (wordsPV rV.hi.num)),(.pv (wordsPV rV.hi.den))])),(8,(.lit [(eB wid.neg),(.pv (wordsPV wid.num)),(.pv (wordsPV wid.den))])),(27,(.pure ((site_27:List ARat).map ARat.cells).flatten)),(29,(.pure ((site_29:List ARat).map ARat.cells).flatten))]⟩
@[reducible] noncomputable def Loop1(p:List ARat)(m len_29 t_34:Nat)(rV:ARange)(wid:ARat)(site_27 site_29:List ARat)(r:PV):Prop:=L prg fn atK1 (inv1 p m len_29 t_34 rV wid site_27 site_29) r
noncomputable def atK2:List Itm:=focus [0,2,0,2,0,2,0,2,0,2,0,0,2,0,0,0,0,2,0,0,2,0,0,0,2,0,0,2,0,0] [.code (bodyOf fn)]
def inv2(p:List ARat)(m len_29 t_34 t_39 t_40:Nat)(rV:ARange)(wid v:ARat)(site_27 site_29:List ARat):St:=⟨[(3,(.ptr 3 0)),(5,(eI ((p.length:Int)-1))),(6,(.row 27 0 m 3)),(7,(.row 29 0 len_29 3)),(8,(.ptr 8 0)),(10,(.ptr 10 0)),(32,(.pv (polyPV p))),(33,(eI (p.length:Int))),(34,(eI (t_34:Int))),(38,(.row 29 0 len_29 3)),(39,(eI (t_39:Int))),(40,(eI (t_40:Int)))],[(3,(.lit [(eB rV.lo.neg),(.pv (wordsPV rV.lo.num)),(.pv (wordsPV rV.lo.den)),(eB rV.hi.neg),(.pv (wordsPV rV.hi.num)),(.pv (wordsPV rV.hi.den))])),(8,(.lit [(eB wid.neg),(.pv (wordsPV wid.num)),(.pv (wordsPV wid.den))])),(10,(.lit [(eB v.neg),(.pv (wordsPV v.num)),(.pv (wordsPV v.den))])),(27,(.pure ((site_27:List ARat).map ARat.cells).flatten)),(29,(.pure ((site_29:List ARat).map ARat.cells).flatten))]⟩
@[reducible] noncomputable def Loop2(p:List ARat)(m len_29 t_34 t_39 t_40:Nat)(rV:ARange)(wid v:ARat)(site_27 site_29:List ARat)(r:PV):Prop:=L prg fn atK2 (inv2 p m len_29 t_34 t_39 t_40 rV wid v site_27 site_29) r
noncomputable def atK3:List Itm:=focus [0,2,0,2,0,2,0,2,0,2,0,0,2,0,0,0,0,2,0,1,2,2,2,2,0,2,0,0,2,0,0] [.code (bodyOf fn)]
def inv3(p:List ARat)(m:Nat)(site_128:List ARat)(t_98:Nat)(site_27:List ARat):St:=⟨[(5,(eI ((p.length:Int)-1))),(6,(.row 27 0 m 3)),(16,(.row 128 0 site_128.length 3)),(97,(eI (((p.length:Int)-1)+1))),(98,(eI (t_98:Int)))],[(27,(.pure ((site_27:List ARat).map ARat.cells).flatten)),(128,(.pure ((site_128:List ARat).map ARat.cells).flatten))]⟩
@[reducible] noncomputable def Loop3(p:List ARat)(m:Nat)(site_128:List ARat)(t_98:Nat)(site_27:List ARat)(r:PV):Prop:=L prg fn atK3 (inv3 p m site_128 t_98 site_27) r
noncomputable def atK4:List Itm:=focus [0,2,0,2,0,2,0,2,0,2,0,0,2,0,0,0,0,2,0,1,2,2,2,2,0,2,0,0,2,0,0,0,0,2,0,0,2,0,0,0,2,0,2,0,0,2,0,0] [.code (bodyOf fn)]
def inv4(p:List ARat)(m:Nat)(site_128:List ARat)(j_17 t_98 t_102 t_103:Nat)(site_18:ARat)(site_27:List ARat):St:=⟨[(5,(eI ((p.length:Int)-1))),(6,(.row 27 0 m 3)),(16,(.row 128 0 site_128.length 3)),(17,(eI (j_17:Int))),(18,(.ptr 18 0)),(97,(eI (((p.length:Int)-1)+1))),(98,(eI (t_98:Int))),(102,(eI (t_102:Int))),(103,(eI (t_103:Int)))],[(18,(.lit [(eB site_18.neg),(.pv (wordsPV site_18.num)),(.pv (wordsPV site_18.den))])),(27,(.pure ((site_27:List ARat).map ARat.cells).flatten)),(128,(.pure ((site_128:List ARat).map ARat.cells).flatten))]⟩
@[reducible] noncomputable def Loop4(p:List ARat)(m:Nat)(site_128:List ARat)(j_17 t_98 t_102 t_103:Nat)(site_18:ARat)(site_27:List ARat)(r:PV):Prop:=L prg fn atK4 (inv4 p m site_128 j_17 t_98 t_102 t_103 site_18 site_27) r
noncomputable def atK5:List Itm:=focus [0,2,0,2,0,2,0,2,0,2,0,0,2,0,0,0,0,2,0,0,2,0,0,0,2,0,0,2,0,0,0,0,2,0,1,2,2,2,2,0,2,0,0,2,0,0] [.code (bodyOf fn)]
def inv5(p:List ARat)(m len_60 t_34 len_29 t_62 t_63:Nat)(rV:ARange)(wid:ARat)(site_27 site_29 site_60:List ARat):St:=⟨[(3,(.ptr 3 0)),(5,(eI ((p.length:Int)-1))),(6,(.row 27 0 m 3)),(8,(.ptr 8 0)),(13,(.row 60 0 len_60 3)),(32,(.pv (polyPV p))),(33,(eI (p.length:Int))),(34,(eI (t_34:Int))),(61,(.row 29 0 len_29 3)),(62,(eI (t_62:Int))),(63,(eI (t_63:Int)))],[(3,(.lit [(eB rV.lo.neg),(.pv (wordsPV rV.lo.num)),(.pv (wordsPV rV.lo.den)),(eB rV.hi.neg),(.pv (wordsPV rV.hi.num)),(.pv (wordsPV rV.hi.den))])),(8,(.lit [(eB wid.neg),(.pv (wordsPV wid.num)),(.pv (wordsPV wid.den))])),(27,(.pure ((site_27:List ARat).map ARat.cells).flatten)),(29,(.pure ((site_29:List ARat).map ARat.cells).flatten)),(60,(.pure ((site_60:List ARat).map ARat.cells).flatten))]⟩
@[reducible] noncomputable def Loop5(p:List ARat)(m len_60 t_34 len_29 t_62 t_63:Nat)(rV:ARange)(wid:ARat)(site_27 site_29 site_60:List ARat)(r:PV):Prop:=L prg fn atK5 (inv5 p m len_60 t_34 len_29 t_62 t_63 rV wid site_27 site_29 site_60) r
theorem e0(p:List ARat)(rV:ARange)(m:Nat)(of wid:ARat){r:PV}(h1:InI64 ((p.length:Int)-1))(h2:InI64 (((p.length:Int)-1)+1))(h3:(((p.length:Int)-1)+1)=(m:Int))(h4:56*m≤140737488355328)(h5:Contract prg 70 [(vI 1)] of.pv)(h6:Contract prg 89 [rV.pv] wid.pv)(hL:Loop1 p m 1 0 rV wid (List.replicate m (⟨false,[],[]⟩:ARat)) [of] r):Contract prg 81 [(polyPV p),rV.pv] r :=
 Contract.ofL Tryz.func81 (by kernel_rfl) (L.go mixed tabOk (n:=105) (ns:=[1,1,1,5,1,1,1]) (tr:=[.reg [],.reg [.none,(iI (p.length:Int)),(iI ((p.length:Int)-1))],.reg [.none,(iI (((p.length:Int)-1)+1)),(.app m ((List.replicate m (⟨false,[],[]⟩:ARat):List ARat).map ARat.cells).flatten)],.reg [(.pv of.pv)],.reg [.none,(.pv wid.pv)],.reg [.none,(iI (p.length:Int))],.keep [3,5,6,7,8,32,33,34],.ord [3,8,27,29]]) (cj (o_len ARat.cells p) (cj (bs_sub h1) (cj (bs_add h2) (cj (o_mk ARat.cells (⟨false,[],[]⟩:ARat) 56 m h3 h4 rfl) (cj h5 (cj h6 (cj (o_len ARat.cells p) True.intro))))))) (by kernel_rfl) hL)
theorem l10(p:List ARat)(m len_29 t_34:Nat)(rV:ARange)(wid:ARat)(site_27 site_29:List ARat)(v:ARat){r:PV}(h1:t_34<p.length)(h2:p[t_34]? = some v)(hL:Loop2 p m len_29 t_34 len_29 0 rV wid v site_27 site_29 r):Loop1 p m len_29 t_34 rV wid site_27 site_29 r :=
 L.go mixed tabOk (n:=150) (ns:=[1,3]) (tr:=[.auto,.reg [],.dec true,.reg [(.row t_34 (ARat.cells v))],.reg [],.keep [3,5,6,7,8,10,32,33,34,38,39,40],.ord [3,8,10,27,29]]) (cj (dltN_t h1) (cj (o_at ARat.cells (Eq.refl (((t_34:Nat):Int):Int)) h2) True.intro)) (by kernel_rfl) hL
theorem l11(p:List ARat)(m len_29 t_34:Nat)(rV:ARange)(wid:ARat)(site_27 site_29:List ARat){r:PV}(h1:p.length≤t_34)(h2:InI64 (((p.length:Int)-1)+1))(hL:Loop3 p m [] 0 site_27 r):Loop1 p m len_29 t_34 rV wid site_27 site_29 r :=
 L.go mixed tabOk (n:=153) (ns:=[1,1]) (tr:=[.auto,.reg [],.dec false,.reg [.nil],.adopt 16 128 3,.reg [.none,(iI (((p.length:Int)-1)+1))],.keep [5,6,16,97,98],.drop [3,8,29],.ord [27,128]]) (cj (dltN_f h1) (cj (bs_add h2) True.intro)) (by kernel_rfl) hL
theorem l20(p:List ARat)(m len_29 t_34 t_39 t_40:Nat)(rV:ARange)(wid v:ARat)(site_27 site_29:List ARat)(v1 v2 mul add:ARat){r:PV}(h1:t_40<t_39)(h2:t_40<len_29)(h3:site_29[t_40]? = some v1)(h4:t_40<m)(h5:site_27[t_40]? = some v2)(h6:Contract prg 88 [v.pv,v1.pv] mul.pv)(h7:Contract prg 87 [v2.pv,mul.pv] add.pv)(h8:t_40<site_27.length)(h9:(t_40+1)<9223372036854775808)(hL:Loop2 p m len_29 t_34 t_39 (t_40+1) rV wid v (site_27.set t_40 add) site_29 r):Loop2 p m len_29 t_34 t_39 t_40 rV wid v site_27 site_29 r :=
 L.go mixed tabOk (n:=189) (ns:=[1,2,2,2,2,1,1,2,2,1]) (tr:=[.auto,.reg [],.dec true,.reg [.none,(.nat t_40),(.seg [(vB v1.neg),(wordsPV v1.num),(wordsPV v1.den)])],dr 11 1 [.none,.none,.none,.none,(.nat t_40),(.seg [(vB v2.neg),(wordsPV v2.num),(wordsPV v2.den)]),.none,.none,(.pv mul.pv),(.pv add.pv),(.nat t_40),(.cells (.pure (((site_27.set t_40 add):List ARat).map ARat.cells).flatten))],.reg [(iI (((t_40+1):Nat):Int))],.keep [3,5,6,7,8,10,32,33,34,38,39,40],.drop [12]]) (cj (dltN_t h1) (cj (cj (Eq.refl (((t_40:Nat):Int):Int)) h2) (cj (o_seg sz_ARat h3) (cj (cj (Eq.refl (((t_40:Nat):Int):Int)) h4) (cj (o_seg sz_ARat h5) (cj h6 (cj h7 (cj (cj (Eq.refl (((t_40:Nat):Int):Int)) h4) (cj (o_set sz_ARat (site_27:List ARat) add h8) (cj (bs_addN h9) True.intro)))))))))) (by kernel_rfl) hL
theorem l21(p:List ARat)(m len_29 t_34 t_39 t_40:Nat)(rV:ARange)(wid v:ARat)(site_27 site_29:List ARat){r:PV}(h1:t_39≤t_40)(h2:(len_29+1)<9223372036854775808)(h3:56*(len_29+1)≤140737488355328)(hL:Loop5 p m (len_29+1) t_34 len_29 len_29 0 rV wid site_27 site_29 (List.replicate (len_29+1) (⟨false,[],[]⟩:ARat)) r):Loop2 p m len_29 t_34 t_39 t_40 rV wid v site_27 site_29 r :=
 L.go mixed tabOk (n:=198) (ns:=[1,1,5]) (tr:=[.auto,.reg [],.dec false,.reg [.none,.none,(iI (((len_29+1):Nat):Int)),(.app (len_29+1) ((List.replicate (len_29+1) (⟨false,[],[]⟩:ARat):List ARat).map ARat.cells).flatten)],.reg [],.keep [3,5,6,8,13,32,33,34,61,62,63],.drop [10],.ord [3,8,27,29,60]]) (cj (dltN_f h1) (cj (bs_addN h2) (cj (o_mk ARat.cells (⟨false,[],[]⟩:ARat) 56 (len_29+1) (Eq.refl ((((len_29+1):Nat):Int):Int)) h3 rfl) True.intro))) (by kernel_rfl) hL
theorem l30(p:List ARat)(m:Nat)(site_128:List ARat)(t_98:Nat)(site_27:List ARat){r:PV}(h1:(t_98:Int)<(((p.length:Int)-1)+1))(h2:(t_98+1)<9223372036854775808)(hL:Loop4 p m site_128 t_98 t_98 (t_98+1) 0 (⟨false,[],[]⟩:ARat) site_27 r):Loop3 p m site_128 t_98 site_27 r :=
 L.go mixed tabOk (n:=204) (ns:=[1,1]) (tr:=[.auto,.reg [],.dec true,.reg [],.reg [],.reg [.none,(iI (((t_98+1):Nat):Int))],.keep [5,6,16,17,18,97,98,102,103]]) (cj (dlt_t h1) (cj (bs_addN h2) True.intro)) (by kernel_rfl) hL
theorem l31(p:List ARat)(m:Nat)(site_128:List ARat)(t_98:Nat)(site_27:List ARat)(h1:(((p.length:Int)-1)+1)≤(t_98:Int)):Loop3 p m site_128 t_98 site_27 (polyPV site_128) :=
 L.done mixed tabOk (n:=186) (ns:=[1,3]) (tr:=[.auto,.reg [],.dec false,.reg [],.frzT 4 ((site_128:List ARat).map ARat.cells)]) (cj (dlt_f h1) (cj (o_frz sz_ARat (site_128:List ARat) (Eq.refl (site_128:List ARat).length)) True.intro)) (by kernel_rfl)
theorem l40(p:List ARat)(m:Nat)(site_128:List ARat)(j_17 t_98 t_102 t_103:Nat)(site_18:ARat)(site_27:List ARat)(cho cho1 div:ARat)(div1:Int)(v mul add:ARat){r:PV}(h1:t_103<t_102)(h2:Contract prg 163 [(vI (j_17:Int)),(vI (t_103:Int))] cho.pv)(h3:Contract prg 163 [(vI ((p.length:Int)-1)),(vI (t_103:Int))] cho1.pv)(h4:Contract prg 162 [cho.pv,cho1.pv] (.tup [div.pv,(vI div1)]))(h5:t_103<m)(h6:site_27[t_103]? = some v)(h7:Contract prg 88 [div.pv,v.pv] mul.pv)(h8:Contract prg 87 [site_18.pv,mul.pv] add.pv)(h9:(t_103+1)<9223372036854775808)(hL:Loop4 p m site_128 j_17 t_98 t_102 (t_103+1) add site_27 r):Loop4 p m site_128 j_17 t_98 t_102 t_103 site_18 site_27 r :=
 L.go mixed tabOk (n:=249) (ns:=[1,1,1,1,2,2,1,1,1]) (tr:=[.auto,.reg [],.dec true,.reg [],.reg [.none,.none,(.pv cho.pv),.none,.none,(.pv cho1.pv),(.pv (.tup [div.pv,(vI div1)]))],dr 8 1 [.none,.none,.none,.none,(.nat t_103),(.seg [(vB v.neg),(wordsPV v.num),(wordsPV v.den)]),(.pv mul.pv),(.pv add.pv)],.reg [(iI (((t_103+1):Nat):Int))],.keep [5,6,16,17,18,97,98,102,103],.drop [20]]) (cj (dltN_t h1) (cj h2 (cj h3 (cj h4 (cj (cj (Eq.refl (((t_103:Nat):Int):Int)) h5) (cj (o_seg sz_ARat h6) (cj h7 (cj h8 (cj (bs_addN h9) True.intro))))))))) (by kernel_rfl) hL
theorem l41(p:List ARat)(m:Nat)(site_128:List ARat)(j_17 t_98 t_102 t_103:Nat)(site_18:ARat)(site_27:List ARat){r:PV}(h1:t_102≤t_103)(h2:((site_128++[site_18]):List ARat).length*56≤140737488355328)(h3:(t_98+1)<9223372036854775808)(hL:Loop3 p m (site_128++[site_18]) (t_98+1) site_27 r):Loop4 p m site_128 j_17 t_98 t_102 t_103 site_18 site_27 r :=
 L.go mixed tabOk (n:=240) (ns:=[1,6,1]) (tr:=[.auto,.reg [],.dec false,.reg [.none,.none,.none,(.app ((site_128++[site_18]):List ARat).length (((site_128++[site_18]):List ARat).map ARat.cells).flatten)],.reg [(iI (((t_98+1):Nat):Int))],.keep [5,6,16,97,98],.drop [127,18],.ord [27,128]]) (cj (dltN_f h1) (cj (o_appR sz_ARat (site_128:List ARat) ([site_18]:List ARat) 56 (Eq.refl (site_128:List ARat).length) (Eq.refl ([site_18]:List ARat).length) h2 rfl) (cj (bs_addN h3) True.intro))) (by kernel_rfl) hL
theorem l50(p:List ARat)(m len_60 t_34 len_29 t_62 t_63:Nat)(rV:ARange)(wid:ARat)(site_27 site_29 site_60:List ARat)(v v1 mul add v2 mul1 add1:ARat){r:PV}(h1:t_63<t_62)(h2:t_63<len_29)(h3:site_29[t_63]? = some v)(h4:t_63<len_60)(h5:site_60[t_63]? = some v1)(h6:Contract prg 88 [rV.lo.pv,v.pv] mul.pv)(h7:Contract prg 87 [v1.pv,mul.pv] add.pv)(h8:t_63<site_60.length)(h9:(t_63+1)<9223372036854775808)(h10:(t_63+1)<len_60)(h11:(site_60.set t_63 add)[(t_63+1)]? = some v2)(h12:Contract prg 88 [wid.pv,v.pv] mul1.pv)(h13:Contract prg 87 [v2.pv,mul1.pv] add1.pv)(h14:(t_63+1)<(site_60.set t_63 add).length)(hL:Loop5 p m len_60 t_34 len_29 t_62 (t_63+1) rV wid site_27 site_29 ((site_60.set t_63 add).set (t_63+1) add1) r):Loop5 p m len_60 t_34 len_29 t_62 t_63 rV wid site_27 site_29 site_60 r :=
 L.go mixed tabOk (n:=243) (ns:=[1,2,2,2,2,1,1,2,2,1,1,2,2,1,1,2,2,1]) (tr:=[.auto,.reg [],.dec true,.reg [.none,(.nat t_63),(.seg [(vB v.neg),(wordsPV v.num),(wordsPV v.den)])],dr 12 1 [.none,.none,.none,.none,(.nat t_63),(.seg [(vB v1.neg),(wordsPV v1.num),(wordsPV v1.den)]),.none,.none,.none,(.pv mul.pv),(.pv add.pv),(.nat t_63),(.cells (.pure (((site_60.set t_63 add):List ARat).map ARat.cells).flatten))],dr 13 1 [.none,.none,(iI (((t_63+1):Nat):Int)),.none,.none,(iI (((t_63+1):Nat):Int)),(.nat (t_63+1)),(.seg [(vB v2.neg),(wordsPV v2.num),(wordsPV v2.den)]),.none,.none,(.pv mul1.pv),(.pv add1.pv),(.nat (t_63+1)),(.cells (.pure ((((site_60.set t_63 add).set (t_63+1) add1):List ARat).map ARat.cells).flatten))],.reg [(iI (((t_63+1):Nat):Int))],.keep [3,5,6,8,13,32,33,34,61,62,63],.drop [15]]) (cj (dltN_t h1) (cj (cj (Eq.refl (((t_63:Nat):Int):Int)) h2) (cj (o_seg sz_ARat h3) (cj (cj (Eq.refl (((t_63:Nat):Int):Int)) h4) (cj (o_seg sz_ARat h5) (cj h6 (cj h7 (cj (cj (Eq.refl (((t_63:Nat):Int):Int)) h4) (cj (o_set sz_ARat (site_60:List ARat) add h8) (cj (bs_addN h9) (cj (bs_addN h9) (cj (cj (Eq.refl ((((t_63+1):Nat):Int):Int)) h10) (cj (o_seg sz_ARat h11) (cj h12 (cj h13 (cj (cj (Eq.refl ((((t_63+1):Nat):Int):Int)) h10) (cj (o_set sz_ARat ((site_60.set t_63 add):List ARat) add1 h14) (cj (bs_addN h9) True.intro)))))))))))))))))) (by kernel_rfl) hL
theorem l51(p:List ARat)(m len_60 t_34 len_29 t_62 t_63:Nat)(rV:ARange)(wid:ARat)(site_27 site_29 site_60:List ARat){r:PV}(h1:t_62≤t_63)(h2:(t_34+1)<9223372036854775808)(hL:Loop1 p m len_60 (t_34+1) rV wid site_27 site_60 r):Loop5 p m len_60 t_34 len_29 t_62 t_63 rV wid site_27 site_29 site_60 r :=
 L.go mixed tabOk (n:=234) (ns:=[1,1]) (tr:=[.auto,.reg [],.dec false,.reg [],.reg [(iI (((t_34+1):Nat):Int))],.keep [3,5,6,7,8,32,33,34],.drop [29],.ren 60 29]) (cj (dltN_f h1) (cj (bs_addN h2) True.intro)) (by kernel_rfl) hL
end linkworkref31_bernstein
namespace linkworkref31_decide
theorem e0(p:List ARat)(rV:ARange)(h1:p.length=0):Contract prg 82 [(polyPV p),rV.pv] (vB false) :=
 Contract.ofL Tryz.func82 (by kernel_rfl) (L.done mixed tabOk (n:=84) (ns:=[1,1,1,1,1,1,1,1]) (tr:=[.reg [],.reg [.none,(iI (p.length:Int)),.none,.none,.skip,.skip,.skip,.skip,.skip,.skip,(.dec true)],.auto,.reg []]) (cj (o_len ARat.cells p) (cj (deqN_t h1) (cj (deqN_t h1) (cj (deqN_t h1) (cj (deqN_t h1) (cj (deqN_t h1) (cj (deqN_t h1) (cj (deqN_t h1) True.intro)))))))) (by kernel_rfl))
theorem e1(p:List ARat)(rV:ARange)(atV:ARat)(sig:Int)(h1:p.length≠0)(h2:Contract prg 164 [(polyPV p),rV.lo.pv] atV.pv)(h3:Contract prg 59 [atV.pv] (vI sig))(h4:sig≤0):Contract prg 82 [(polyPV p),rV.pv] (vB false) :=
 Contract.ofL Tryz.func82 (by kernel_rfl) (L.done mixed tabOk (n:=84) (ns:=[1,1,1,1,1,1,1,1,1,1,1]) (tr:=[.reg [],.reg [.none,(iI (p.length:Int)),.none,.none,.none,.none,.none,(.pv atV.pv),(.pv (vI sig)),.none,(.dec false)],.dec true,.reg []]) (cj (o_len ARat.cells p) (cj (deqN_f h1) (cj (deqN_f h1) (cj (deqN_f h1) (cj (deqN_f h1) (cj h2 (cj (deqN_f h1) (cj h3 (cj (deqN_f h1) (cj (deqN_f h1) (cj (dle_t h4) True.intro))))))))))) (by kernel_rfl))
theorem e2(p:List ARat)(rV:ARange)(atV:ARat)(sig cou cou1:Int)(h1:p.length≠0)(h2:Contract prg 164 [(polyPV p),rV.lo.pv] atV.pv)(h3:Contract prg 59 [atV.pv] (vI sig))(h4:0<sig)(h5:Contract prg 165 [(polyPV p),rV.lo.pv,rV.hi.pv] (.tup [(vI cou),(vI cou1)])):Contract prg 82 [(polyPV p),rV.pv] (vB (cou==0)) :=
 Contract.ofL Tryz.func82 (by kernel_rfl) (L.done mixed tabOk (n:=93) (ns:=[1,1,1,1,1,1,1,1,1,1,1,1]) (tr:=[.reg [],.reg [.none,(iI (p.length:Int)),.none,.none,.none,.none,.none,(.pv atV.pv),(.pv (vI sig)),.none,(.dec false)],.dec false,.reg [.none,.none,.none,.none,.none,(.pv (.tup [(vI cou),(vI cou1)]))],.reg []]) (cj (o_len ARat.cells p) (cj (deqN_f h1) (cj (deqN_f h1) (cj (deqN_f h1) (cj (deqN_f h1) (cj h2 (cj (deqN_f h1) (cj h3 (cj (deqN_f h1) (cj (deqN_f h1) (cj (dle_f h4) (cj h5 True.intro)))))))))))) (by kernel_rfl))
end linkworkref31_decide
namespace positive_clear
@[reducible] noncomputable def fn:Func:=Tryz.f98
noncomputable def atK1:List Itm:=focus [0,2,0,2,0,0,2,1,2,0,0,2,0,0] [.code (bodyOf fn)]
def inv1(ber:List ARat)(t_26:Nat):St:=⟨[(6,(.pv (polyPV ber))),(24,(.pv (polyPV ber))),(25,(eI (ber.length:Int))),(26,(eI (t_26:Int)))],[]⟩
@[reducible] noncomputable def Loop1(ber:List ARat)(t_26:Nat)(r:PV):Prop:=L prg fn atK1 (inv1 ber t_26) r
theorem e0(p:List ARat)(rV:ARange)(ber:List ARat)(h1:Contract prg 76 [(polyPV p),rV.pv] (.tup [(polyPV ber),.nilI]))(h2:ber.length=0):Contract prg 98 [(polyPV p),rV.pv] (.tup [(vB false),.nilI]) :=
 Contract.ofL Tryz.func98 (by kernel_rfl) (L.done mixed tabOk (n:=90) (ns:=[1,1,1,1,1,1]) (tr:=[.reg [],.reg [.none,.none,(.pv (.tup [(polyPV ber),.nilI]))],.reg [.none,.none,.none,.none,(iI (ber.length:Int))],.dec true,.reg []]) (cj h1 (cj (Eq.refl false) (cj (Eq.refl false) (cj (o_len ARat.cells ber) (cj (Eq.refl false) (cj (deqN_t h2) True.intro)))))) (by kernel_rfl))
theorem e1(p:List ARat)(rV:ARange)(ber:List ARat){r:PV}(h1:Contract prg 76 [(polyPV p),rV.pv] (.tup [(polyPV ber),.nilI]))(h2:ber.length≠0)(hL:Loop1 ber 0 r):Contract prg 98 [(polyPV p),rV.pv] r :=
 Contract.ofL Tryz.func98 (by kernel_rfl) (L.go mixed tabOk (n:=102) (ns:=[1,1,1,1,1,1,1]) (tr:=[.reg [],.reg [.none,.none,(.pv (.tup [(polyPV ber),.nilI]))],.reg [.none,.none,.none,.none,(iI (ber.length:Int))],.dec false,.reg [.none,(iI (ber.length:Int))],.keep [6,24,25,26],.drop [3]]) (cj h1 (cj (Eq.refl false) (cj (Eq.refl false) (cj (o_len ARat.cells ber) (cj (Eq.refl false) (cj (deqN_f h2) (cj (o_len ARat.cells ber) True.intro))))))) (by kernel_rfl) hL)
theorem l10(ber:List ARat)(t_26:Nat)(v:ARat)(sig:Int)(h1:t_26<ber.length)(h2:ber[t_26]? = some v)(h3:Contract prg 39 [v.pv] (vI sig))(h4:sig<0):Loop1 ber t_26 (.tup [(vB false),.nilI]) :=
 L.done mixed tabOk (n:=147) (ns:=[1,3,1,1]) (tr:=[.auto,.reg [],.dec true,.reg [(.row t_26 (ARat.cells v))],.reg [.none,(.pv (vI sig))],.dec true,.reg []]) (cj (dltN_t h1) (cj (o_at ARat.cells (Eq.refl (((t_26:Nat):Int):Int)) h2) (cj h3 (cj (dlt_t h4) True.intro)))) (by kernel_rfl)
theorem l11(ber:List ARat)(t_26:Nat)(v:ARat)(sig:Int){r:PV}(h1:t_26<ber.length)(h2:ber[t_26]? = some v)(h3:Contract prg 39 [v.pv] (vI sig))(h4:0≤sig)(h5:(t_26+1)<9223372036854775808)(hL:Loop1 ber (t_26+1) r):Loop1 ber t_26 r :=
 L.go mixed tabOk (n:=150) (ns:=[1,3,1,1,1]) (tr:=[.auto,.reg [],.dec true,.reg [(.row t_26 (ARat.cells v))],.reg [.none,(.pv (vI sig))],.dec false,.reg [(iI (((t_26+1):Nat):Int))],.keep [6,24,25,26],.drop [9]]) (cj (dltN_t h1) (cj (o_at ARat.cells (Eq.refl (((t_26:Nat):Int):Int)) h2) (cj h3 (cj (dlt_f h4) (cj (bs_addN h5) True.intro))))) (by kernel_rfl) hL
theorem l12(ber:List ARat)(t_26:Nat)(v:ARat)(sig:Int)(k:Nat)(v1:ARat)(sig1:Int)(h1:ber.length≤t_26)(h2:ber[0]? = some v)(h3:Contract prg 39 [v.pv] (vI sig))(h4:0<sig)(h5:InI64 ((ber.length:Int)-1))(h6:((ber.length:Int)-1)=(k:Int))(h7:ber[k]? = some v1)(h8:Contract prg 39 [v1.pv] (vI sig1)):Loop1 ber t_26 (.tup [(vB (decide (sig1>0))),.nilI]) :=
 L.done mixed tabOk (n:=135) (ns:=[1,3,1,1,1,1,1,1,1,1,3,1,1,1,1,1]) (tr:=[.auto,.reg [],.dec false,.reg [.none,(.row 0 (ARat.cells v)),.none,(.pv (vI sig)),.none,.none,.none,.none,(iI (ber.length:Int)),(iI ((ber.length:Int)-1)),(.row k (ARat.cells v1)),.none,(.pv (vI sig1)),.none,(.dec true)]]) (cj (dltN_f h1) (cj (o_at ARat.cells (Eq.refl (0:Int)) h2) (cj h3 (cj (dlt_t h4) (cj (dlt_t h4) (cj (dlt_t h4) (cj (o_len ARat.cells ber) (cj (dlt_t h4) (cj (bs_sub h5) (cj (dlt_t h4) (cj (o_at ARat.cells h6 h7) (cj (dlt_t h4) (cj (dlt_t h4) (cj h8 (cj (dlt_t h4) (cj (dlt_t h4) True.intro)))))))))))))))) (by kernel_rfl)
theorem l13(ber:List ARat)(t_26:Nat)(v:ARat)(sig:Int)(h1:ber.length≤t_26)(h2:ber[0]? = some v)(h3:Contract prg 39 [v.pv] (vI sig))(h4:sig≤0):Loop1 ber t_26 (.tup [(vB false),.nilI]) :=
 L.done mixed tabOk (n:=135) (ns:=[1,3,1,1,1,1,1,1,1,1,1,1]) (tr:=[.auto,.reg [],.dec false,.reg [.none,(.row 0 (ARat.cells v)),.none,(.pv (vI sig)),.none,.none,.skip,.skip,.skip,.skip,.skip,.skip,.skip,.skip,(.dec false)]]) (cj (dltN_f h1) (cj (o_at ARat.cells (Eq.refl (0:Int)) h2) (cj h3 (cj (dlt_f h4) (cj (dlt_f h4) (cj (dlt_f h4) (cj (dlt_f h4) (cj (dlt_f h4) (cj (dlt_f h4) (cj (dlt_f h4) (cj (dlt_f h4) (cj (dlt_f h4) True.intro)))))))))))) (by kernel_rfl)
end positive_clear
namespace linkworkref31_clear
@[reducible] noncomputable def fn:Func:=Tryz.f100
noncomputable def atK1:List Itm:=focus [0,2,0,2,0,0,2,0,0] [.code (bodyOf fn)]
def inv1(ber:List ARat)(t_13:Nat):St:=⟨[(5,(.pv (polyPV ber))),(11,(.pv (polyPV ber))),(12,(eI (ber.length:Int))),(13,(eI (t_13:Int)))],[]⟩
@[reducible] noncomputable def Loop1(ber:List ARat)(t_13:Nat)(r:PV):Prop:=L prg fn atK1 (inv1 ber t_13) r
theorem e0(p:List ARat)(rV:ARange)(ber:List ARat){r:PV}(h1:Contract prg 81 [(polyPV p),rV.pv] (polyPV ber))(hL:Loop1 ber 0 r):Contract prg 100 [(polyPV p),rV.pv] r :=
 Contract.ofL Tryz.func100 (by kernel_rfl) (L.go mixed tabOk (n:=87) (ns:=[1,1]) (tr:=[.reg [],.reg [.none,.none,(.pv (polyPV ber))],.reg [.none,(iI (ber.length:Int))],.keep [5,11,12,13],.drop [3]]) (cj h1 (cj (o_len ARat.cells ber) True.intro)) (by kernel_rfl) hL)
theorem l10(ber:List ARat)(t_13:Nat)(v:ARat)(sig:Int)(h1:t_13<ber.length)(h2:ber[t_13]? = some v)(h3:Contract prg 59 [v.pv] (vI sig))(h4:sig<0):Loop1 ber t_13 (vB false) :=
 L.done mixed tabOk (n:=132) (ns:=[1,3,1,1]) (tr:=[.auto,.reg [],.dec true,.reg [(.row t_13 (ARat.cells v))],.reg [.none,(.pv (vI sig))],.dec true,.reg []]) (cj (dltN_t h1) (cj (o_at ARat.cells (Eq.refl (((t_13:Nat):Int):Int)) h2) (cj h3 (cj (dlt_t h4) True.intro)))) (by kernel_rfl)
theorem l11(ber:List ARat)(t_13:Nat)(v:ARat)(sig:Int){r:PV}(h1:t_13<ber.length)(h2:ber[t_13]? = some v)(h3:Contract prg 59 [v.pv] (vI sig))(h4:0≤sig)(h5:(t_13+1)<9223372036854775808)(hL:Loop1 ber (t_13+1) r):Loop1 ber t_13 r :=
 L.go mixed tabOk (n:=135) (ns:=[1,3,1,1,1]) (tr:=[.auto,.reg [],.dec true,.reg [(.row t_13 (ARat.cells v))],.reg [.none,(.pv (vI sig))],.dec false,.reg [(iI (((t_13+1):Nat):Int))],.keep [5,11,12,13],.drop [7]]) (cj (dltN_t h1) (cj (o_at ARat.cells (Eq.refl (((t_13:Nat):Int):Int)) h2) (cj h3 (cj (dlt_f h4) (cj (bs_addN h5) True.intro))))) (by kernel_rfl) hL
theorem l12(ber:List ARat)(t_13:Nat)(v:ARat)(sig:Int)(k:Nat)(v1:ARat)(sig1:Int)(h1:ber.length≤t_13)(h2:0<ber.length)(h3:ber[0]? = some v)(h4:Contract prg 59 [v.pv] (vI sig))(h5:0<sig)(h6:InI64 ((ber.length:Int)-1))(h7:((ber.length:Int)-1)=(k:Int))(h8:ber[k]? = some v1)(h9:Contract prg 59 [v1.pv] (vI sig1)):Loop1 ber t_13 (vB (decide (sig1>0))) :=
 L.done mixed tabOk (n:=120) (ns:=[1,1,1,1,3,1,1,1,1,1,1,1,1,1,1,1,1,3,1,1,1,1,1]) (tr:=[.auto,.reg [],.dec false,.reg [.none,(iI (ber.length:Int)),.none,.none,.none,(.row 0 (ARat.cells v)),.none,(.pv (vI sig)),.none,(.dec true),.none,.none,.none,(iI (ber.length:Int)),(iI ((ber.length:Int)-1)),(.row k (ARat.cells v1)),.none,(.pv (vI sig1)),.none,(.dec true)]]) (cj (dltN_f h1) (cj (o_len ARat.cells ber) (cj (dltN_t h2) (cj (dltN_t h2) (cj (o_at ARat.cells (Eq.refl (0:Int)) h3) (cj (dltN_t h2) (cj (dltN_t h2) (cj h4 (cj (dltN_t h2) (cj (dltN_t h2) (cj (dlt_t h5) (cj (dlt_t h5) (cj (dlt_t h5) (cj (o_len ARat.cells ber) (cj (dlt_t h5) (cj (bs_sub h6) (cj (dlt_t h5) (cj (o_at ARat.cells h7 h8) (cj (dlt_t h5) (cj (dlt_t h5) (cj h9 (cj (dlt_t h5) (cj (dlt_t h5) True.intro))))))))))))))))))))))) (by kernel_rfl)
theorem l13(ber:List ARat)(t_13:Nat)(v:ARat)(sig:Int)(h1:ber.length≤t_13)(h2:0<ber.length)(h3:ber[0]? = some v)(h4:Contract prg 59 [v.pv] (vI sig))(h5:sig≤0):Loop1 ber t_13 (vB false) :=
 L.done mixed tabOk (n:=120) (ns:=[1,1,1,1,3,1,1,1,1,1,1,1,1,1,1,1,1,1,1]) (tr:=[.auto,.reg [],.dec false,.reg [.none,(iI (ber.length:Int)),.none,.none,.none,(.row 0 (ARat.cells v)),.none,(.pv (vI sig)),.none,(.dec true),.none,.skip,.skip,.skip,.skip,.skip,.skip,.skip,.skip,(.dec false)]]) (cj (dltN_f h1) (cj (o_len ARat.cells ber) (cj (dltN_t h2) (cj (dltN_t h2) (cj (o_at ARat.cells (Eq.refl (0:Int)) h3) (cj (dltN_t h2) (cj (dltN_t h2) (cj h4 (cj (dltN_t h2) (cj (dltN_t h2) (cj (dlt_f h5) (cj (dlt_f h5) (cj (dlt_f h5) (cj (dlt_f h5) (cj (dlt_f h5) (cj (dlt_f h5) (cj (dlt_f h5) (cj (dlt_f h5) (cj (dlt_f h5) True.intro))))))))))))))))))) (by kernel_rfl)
theorem l14(ber:List ARat)(t_13:Nat)(h1:ber.length≤t_13)(h2:ber.length≤0):Loop1 ber t_13 (vB false) :=
 L.done mixed tabOk (n:=120) (ns:=[1,1,1,1,1,1,1,1,1,1,1,1,1,1,1,1]) (tr:=[.auto,.reg [],.dec false,.reg [.none,(iI (ber.length:Int)),.none,.none,.skip,.skip,.skip,.skip,.skip,(.dec false),.none,.skip,.skip,.skip,.skip,.skip,.skip,.skip,.skip]]) (cj (dltN_f h1) (cj (o_len ARat.cells ber) (cj (dltN_f h2) (cj (dltN_f h2) (cj (dltN_f h2) (cj (dltN_f h2) (cj (dltN_f h2) (cj (dltN_f h2) (cj (Eq.refl false) (cj (Eq.refl false) (cj (Eq.refl false) (cj (Eq.refl false) (cj (Eq.refl false) (cj (Eq.refl false) (cj (Eq.refl false) (cj (Eq.refl false) True.intro)))))))))))))))) (by kernel_rfl)
end linkworkref31_clear
namespace positive_cutN
@[reducible] noncomputable def fn:Func:=Tryz.f101
theorem e0(p:List ARat)(rV:ARange)(depth:Int)(cle:Bool)(h1:Contract prg 98 [(polyPV p),rV.pv] (.tup [(vB cle),.nilI]))(h2:cle=true):ContractX prg 101 [(.pv .nilS),(.pv (polyPV p)),(.pv rV.pv),(eI depth)] [] (.rowT 0 0 0 3 [.nilI]) [(0,(.pure (([]:List ARat).map ARat.cells).flatten))] :=
 ContractX.ofL Tryz.func101 (by kernel_rfl) (LX.done mixed tabOk (n:=90) (ns:=[1,1,1]) (tr:=[.adopt 0 1 3,.reg [],.reg [.none,.none,(.pv (.tup [(vB cle),.nilI]))],.reg [],.dec true,.reg [],.ren 1 0,.drop [6],.ord [0]]) rfl (cj h1 (cj (Eq.refl false) (cj h2 True.intro))) (by kernel_rfl))
theorem e1(p:List ARat)(rV:ARange)(depth:Int)(cle:Bool)(h1:Contract prg 98 [(polyPV p),rV.pv] (.tup [(vB cle),.nilI]))(h2:cle=false)(h3:depth=0):ContractX prg 101 [(.pv .nilS),(.pv (polyPV p)),(.pv rV.pv),(eI depth)] [] (.rowT 0 0 0 3 [(.iface 94 (vI 15))]) [(0,(.pure (([]:List ARat).map ARat.cells).flatten))] :=
 ContractX.ofL Tryz.func101 (by kernel_rfl) (LX.done mixed tabOk (n:=105) (ns:=[1,1,1,1]) (tr:=[.adopt 0 1 3,.reg [],.reg [.none,.none,(.pv (.tup [(vB cle),.nilI]))],.reg [],.dec false,.reg [],.dec true,.reg [.none,.nil],.adopt 8 0 3,.drop [6,1],.ord [0]]) rfl (cj h1 (cj (Eq.refl false) (cj h2 (cj (deq_t h3) True.intro)))) (by kernel_rfl))
theorem e2_any0(p:List ARat)(rV:ARange)(depth:Int)(mid:ARat)(z z1:List ARat)(cut1:Option Int):anyL prg tab fn.ntmps (opsAt (focus [0,2,0,2,0,0,2,1,2,0,0,2,1,2,0,2,0,0,2,0,2,1,2,0] [.code (bodyOf fn)])) (downs (opsAt (focus [0,2,0,2,0,0,2,1,2,0,0,2,1,2,0,2,0,0,2,0,2,1,2,0] [.code (bodyOf fn)]))) [.none,.none,.none,(.app ((z++[mid]):List ARat).length (((z++[mid]):List ARat).map ARat.cells).flatten),.none,.none,.none,.none,.none,.none,(iI (depth-1)),(.callX [(49,200000)] (some (0,57)) (.rowT 0 0 z1.length 3 [(errPV cut1)]) [(0,(.pure ((z1:List ARat).map ARat.cells).flatten))]),.none,.none,.none,.none] ⟨[(0,(.row 40 0 z.length 3)),(1,(.pv (polyPV p))),(3,(eI depth)),(6,(.ptr 6 0)),(12,(.ptr 12 0))],[(40,(.pure ((z:List ARat).map ARat.cells).flatten)),(12,(.lit [(eB mid.neg),(.pv (wordsPV mid.num)),(.pv (wordsPV mid.den))])),(6,(.lit [(eB rV.lo.neg),(.pv (wordsPV rV.lo.num)),(.pv (wordsPV rV.lo.den)),(eB rV.hi.neg),(.pv (wordsPV rV.hi.num)),(.pv (wordsPV rV.hi.den))]))]⟩=anyR prg tab fn.ntmps (opsAt (focus [0,2,0,2,0,0,2,1,2,0,0,2,1,2,0,2,0,0,2,0,2,1,2,0] [.code (bodyOf fn)])) (downs (opsAt (focus [0,2,0,2,0,0,2,1,2,0,0,2,1,2,0,2,0,0,2,0,2,1,2,0] [.code (bodyOf fn)]))) [.none,.none,.none,(.app ((z++[mid]):List ARat).length (((z++[mid]):List ARat).map ARat.cells).flatten),.none,.none,.none,.none,.none,.none,(iI (depth-1)),(.callX [(49,200000)] (some (0,57)) (.rowT 0 0 z1.length 3 [(errPV cut1)]) [(0,(.pure ((z1:List ARat).map ARat.cells).flatten))]),.none,.none,.none,.none] ⟨[(0,(.row 40 0 z.length 3)),(1,(.pv (polyPV p))),(3,(eI depth)),(6,(.ptr 6 0)),(12,(.ptr 12 0))],[(40,(.pure ((z:List ARat).map ARat.cells).flatten)),(12,(.lit [(eB mid.neg),(.pv (wordsPV mid.num)),(.pv (wordsPV mid.den))])),(6,(.lit [(eB rV.lo.neg),(.pv (wordsPV rV.lo.num)),(.pv (wordsPV rV.lo.den)),(eB rV.hi.neg),(.pv (wordsPV rV.hi.num)),(.pv (wordsPV rV.hi.den))]))]⟩:=by kernel_rfl
theorem e2(p:List ARat)(rV:ARange)(depth:Int)(cle:Bool)(mid:ARat)(z z1:List ARat)(cut1:Option Int)(h1:Contract prg 98 [(polyPV p),rV.pv] (.tup [(vB cle),.nilI]))(h2:cle=false)(h3:depth≠0)(h4:Contract prg 183 [rV.pv] mid.pv)(h5:InI64 (depth-1))(h6:ContractX prg 101 [.row 200000 0 0 3,.pv (polyPV p),.pv (⟨rV.lo,mid⟩:ARange).pv,.pv (vI (depth-1))] [(200000,(.pure (([]:List ARat).map ARat.cells).flatten))] (.rowT 0 0 z.length 3 [.nilI]) [(0,(.pure ((z:List ARat).map ARat.cells).flatten))])(h7:((z++[mid]):List ARat).length*56≤140737488355328)(h8:ContractX prg 101 [.row 200000 0 ((z++[mid]).length) 3,.pv (polyPV p),.pv (⟨mid,rV.hi⟩:ARange).pv,.pv (vI (depth-1))] [(200000,(.pure (((z++[mid]):List ARat).map ARat.cells).flatten))] (.rowT 0 0 z1.length 3 [(errPV cut1)]) [(0,(.pure ((z1:List ARat).map ARat.cells).flatten))]):ContractX prg 101 [(.pv .nilS),(.pv (polyPV p)),(.pv rV.pv),(eI depth)] [] (.rowT 0 0 z1.length 3 [(errPV cut1)]) [(0,(.pure ((z1:List ARat).map ARat.cells).flatten))] :=
 ContractX.ofL Tryz.func101 (by kernel_rfl) (LX.done mixed tabOk (n:=135) (ns:=[1,1,1,1,1,1,1,6,1,1,1]) (tr:=[.adopt 0 1 3,.reg [],.reg [.none,.none,(.pv (.tup [(vB cle),.nilI]))],.reg [],.dec false,.reg [],.dec false,.reg [.none,(.pv mid.pv)],.reg [.none,.none,.none,.none,.none,.none,.none,(iI (depth-1)),(.callX [(1,200000)] (some (0,40)) (.rowT 0 0 z.length 3 [.nilI]) [(0,(.pure ((z:List ARat).map ARat.cells).flatten))])],.reg [],.auto,.keep [0,1,3,6,12],.any [.none,.none,.none,(.app ((z++[mid]):List ARat).length (((z++[mid]):List ARat).map ARat.cells).flatten),.none,.none,.none,.none,.none,.none,(iI (depth-1)),(.callX [(49,200000)] (some (0,57)) (.rowT 0 0 z1.length 3 [(errPV cut1)]) [(0,(.pure ((z1:List ARat).map ARat.cells).flatten))]),.none,.none,.none,.none],.ren 57 0,.drop [48,12,6],.ord [0]]) rfl (cj h1 (cj (Eq.refl false) (cj h2 (cj (deq_f h3) (cj h4 (cj (bs_sub h5) (cj h6 (cj (o_appR sz_ARat (z:List ARat) ([mid]:List ARat) 56 (Eq.refl (z:List ARat).length) (Eq.refl ([mid]:List ARat).length) h7 rfl) (cj (bs_sub h5) (cj h8 (cj (e2_any0 p rV depth mid z z1 cut1) True.intro))))))))))) (by kernel_rfl))
theorem e3(p:List ARat)(rV:ARange)(depth:Int)(cle:Bool)(mid:ARat)(z:List ARat)(cut:Int)(h1:Contract prg 98 [(polyPV p),rV.pv] (.tup [(vB cle),.nilI]))(h2:cle=false)(h3:depth≠0)(h4:Contract prg 183 [rV.pv] mid.pv)(h5:InI64 (depth-1))(h6:ContractX prg 101 [.row 200000 0 0 3,.pv (polyPV p),.pv (⟨rV.lo,mid⟩:ARange).pv,.pv (vI (depth-1))] [(200000,(.pure (([]:List ARat).map ARat.cells).flatten))] (.rowT 0 0 z.length 3 [(.iface 94 (vI cut))]) [(0,(.pure ((z:List ARat).map ARat.cells).flatten))]):ContractX prg 101 [(.pv .nilS),(.pv (polyPV p)),(.pv rV.pv),(eI depth)] [] (.rowT 0 0 0 3 [(.iface 94 (vI cut))]) [(0,(.pure (([]:List ARat).map ARat.cells).flatten))] :=
 ContractX.ofL Tryz.func101 (by kernel_rfl) (LX.done mixed tabOk (n:=132) (ns:=[1,1,1,1,1,1,1]) (tr:=[.adopt 0 1 3,.reg [],.reg [.none,.none,(.pv (.tup [(vB cle),.nilI]))],.reg [],.dec false,.reg [],.dec false,.reg [.none,(.pv mid.pv)],.reg [.none,.none,.none,.none,.none,.none,.none,(iI (depth-1)),(.callX [(1,200000)] (some (0,40)) (.rowT 0 0 z.length 3 [(.iface 94 (vI cut))]) [(0,(.pure ((z:List ARat).map ARat.cells).flatten))])],.reg [],.auto,.reg [.none,.nil],.adopt 8 0 3,.drop [40,12,6],.ord [0]]) rfl (cj h1 (cj (Eq.refl false) (cj h2 (cj (deq_f h3) (cj h4 (cj (bs_sub h5) (cj h6 True.intro))))))) (by kernel_rfl))
end positive_cutN
namespace positive_cutG
@[reducible] noncomputable def fn:Func:=Tryz.f101
theorem e0(out p:List ARat)(rV:ARange)(depth:Int)(cle:Bool)(h1:Contract prg 98 [(polyPV p),rV.pv] (.tup [(vB cle),.nilI]))(h2:cle=true):ContractX prg 101 [(.row 200000 0 out.length 3),(.pv (polyPV p)),(.pv rV.pv),(eI depth)] [(200000,(.pure ((out:List ARat).map ARat.cells).flatten))] (.rowT 0 0 out.length 3 [.nilI]) [(0,(.pure ((out:List ARat).map ARat.cells).flatten))] :=
 ContractX.ofL Tryz.func101 (by kernel_rfl) (LX.done mixed tabOk (n:=90) (ns:=[1,1,1]) (tr:=[.ren 200000 1,.reg [],.reg [.none,.none,(.pv (.tup [(vB cle),.nilI]))],.reg [],.dec true,.reg [],.ren 1 0,.drop [6],.ord [0]]) rfl (cj h1 (cj (Eq.refl false) (cj h2 True.intro))) (by kernel_rfl))
theorem e1(out p:List ARat)(rV:ARange)(depth:Int)(cle:Bool)(h1:Contract prg 98 [(polyPV p),rV.pv] (.tup [(vB cle),.nilI]))(h2:cle=false)(h3:depth=0):ContractX prg 101 [(.row 200000 0 out.length 3),(.pv (polyPV p)),(.pv rV.pv),(eI depth)] [(200000,(.pure ((out:List ARat).map ARat.cells).flatten))] (.rowT 0 0 0 3 [(.iface 94 (vI 15))]) [(0,(.pure (([]:List ARat).map ARat.cells).flatten))] :=
 ContractX.ofL Tryz.func101 (by kernel_rfl) (LX.done mixed tabOk (n:=105) (ns:=[1,1,1,1]) (tr:=[.ren 200000 1,.reg [],.reg [.none,.none,(.pv (.tup [(vB cle),.nilI]))],.reg [],.dec false,.reg [],.dec true,.reg [.none,.nil],.adopt 8 0 3,.drop [6,1],.ord [0]]) rfl (cj h1 (cj (Eq.refl false) (cj h2 (cj (deq_t h3) True.intro)))) (by kernel_rfl))
theorem e2_any0(p:List ARat)(rV:ARange)(depth:Int)(mid:ARat)(z z1:List ARat)(cut1:Option Int):anyL prg tab fn.ntmps (opsAt (focus [0,2,0,2,0,0,2,1,2,0,0,2,1,2,0,2,0,0,2,0,2,1,2,0] [.code (bodyOf fn)])) (downs (opsAt (focus [0,2,0,2,0,0,2,1,2,0,0,2,1,2,0,2,0,0,2,0,2,1,2,0] [.code (bodyOf fn)]))) [.none,.none,.none,(.app ((z++[mid]):List ARat).length (((z++[mid]):List ARat).map ARat.cells).flatten),.none,.none,.none,.none,.none,.none,(iI (depth-1)),(.callX [(49,200000)] (some (0,57)) (.rowT 0 0 z1.length 3 [(errPV cut1)]) [(0,(.pure ((z1:List ARat).map ARat.cells).flatten))]),.none,.none,.none,.none] ⟨[(0,(.row 40 0 z.length 3)),(1,(.pv (polyPV p))),(3,(eI depth)),(6,(.ptr 6 0)),(12,(.ptr 12 0))],[(40,(.pure ((z:List ARat).map ARat.cells).flatten)),(12,(.lit [(eB mid.neg),(.pv (wordsPV mid.num)),(.pv (wordsPV mid.den))])),(6,(.lit [(eB rV.lo.neg),(.pv (wordsPV rV.lo.num)),(.pv (wordsPV rV.lo.den)),(eB rV.hi.neg),(.pv (wordsPV rV.hi.num)),(.pv (wordsPV rV.hi.den))]))]⟩=anyR prg tab fn.ntmps (opsAt (focus [0,2,0,2,0,0,2,1,2,0,0,2,1,2,0,2,0,0,2,0,2,1,2,0] [.code (bodyOf fn)])) (downs (opsAt (focus [0,2,0,2,0,0,2,1,2,0,0,2,1,2,0,2,0,0,2,0,2,1,2,0] [.code (bodyOf fn)]))) [.none,.none,.none,(.app ((z++[mid]):List ARat).length (((z++[mid]):List ARat).map ARat.cells).flatten),.none,.none,.none,.none,.none,.none,(iI (depth-1)),(.callX [(49,200000)] (some (0,57)) (.rowT 0 0 z1.length 3 [(errPV cut1)]) [(0,(.pure ((z1:List ARat).map ARat.cells).flatten))]),.none,.none,.none,.none] ⟨[(0,(.row 40 0 z.length 3)),(1,(.pv (polyPV p))),(3,(eI depth)),(6,(.ptr 6 0)),(12,(.ptr 12 0))],[(40,(.pure ((z:List ARat).map ARat.cells).flatten)),(12,(.lit [(eB mid.neg),(.pv (wordsPV mid.num)),(.pv (wordsPV mid.den))])),(6,(.lit [(eB rV.lo.neg),(.pv (wordsPV rV.lo.num)),(.pv (wordsPV rV.lo.den)),(eB rV.hi.neg),(.pv (wordsPV rV.hi.num)),(.pv (wordsPV rV.hi.den))]))]⟩:=by kernel_rfl
theorem e2(out p:List ARat)(rV:ARange)(depth:Int)(cle:Bool)(mid:ARat)(z z1:List ARat)(cut1:Option Int)(h1:Contract prg 98 [(polyPV p),rV.pv] (.tup [(vB cle),.nilI]))(h2:cle=false)(h3:depth≠0)(h4:Contract prg 183 [rV.pv] mid.pv)(h5:InI64 (depth-1))(h6:ContractX prg 101 [.row 200000 0 out.length 3,.pv (polyPV p),.pv (⟨rV.lo,mid⟩:ARange).pv,.pv (vI (depth-1))] [(200000,(.pure ((out:List ARat).map ARat.cells).flatten))] (.rowT 0 0 z.length 3 [.nilI]) [(0,(.pure ((z:List ARat).map ARat.cells).flatten))])(h7:((z++[mid]):List ARat).length*56≤140737488355328)(h8:ContractX prg 101 [.row 200000 0 ((z++[mid]).length) 3,.pv (polyPV p),.pv (⟨mid,rV.hi⟩:ARange).pv,.pv (vI (depth-1))] [(200000,(.pure (((z++[mid]):List ARat).map ARat.cells).flatten))] (.rowT 0 0 z1.length 3 [(errPV cut1)]) [(0,(.pure ((z1:List ARat).map ARat.cells).flatten))]):ContractX prg 101 [(.row 200000 0 out.length 3),(.pv (polyPV p)),(.pv rV.pv),(eI depth)] [(200000,(.pure ((out:List ARat).map ARat.cells).flatten))] (.rowT 0 0 z1.length 3 [(errPV cut1)]) [(0,(.pure ((z1:List ARat).map ARat.cells).flatten))] :=
 ContractX.ofL Tryz.func101 (by kernel_rfl) (LX.done mixed tabOk (n:=135) (ns:=[1,1,1,1,1,1,1,6,1,1,1]) (tr:=[.ren 200000 1,.reg [],.reg [.none,.none,(.pv (.tup [(vB cle),.nilI]))],.reg [],.dec false,.reg [],.dec false,.reg [.none,(.pv mid.pv)],.reg [.none,.none,.none,.none,.none,.none,.none,(iI (depth-1)),(.callX [(1,200000)] (some (0,40)) (.rowT 0 0 z.length 3 [.nilI]) [(0,(.pure ((z:List ARat).map ARat.cells).flatten))])],.reg [],.auto,.keep [0,1,3,6,12],.any [.none,.none,.none,(.app ((z++[mid]):List ARat).length (((z++[mid]):List ARat).map ARat.cells).flatten),.none,.none,.none,.none,.none,.none,(iI (depth-1)),(.callX [(49,200000)] (some (0,57)) (.rowT 0 0 z1.length 3 [(errPV cut1)]) [(0,(.pure ((z1:List ARat).map ARat.cells).flatten))]),.none,.none,.none,.none],.ren 57 0,.drop [48,12,6],.ord [0]]) rfl (cj h1 (cj (Eq.refl false) (cj h2 (cj (deq_f h3) (cj h4 (cj (bs_sub h5) (cj h6 (cj (o_appR sz_ARat (z:List ARat) ([mid]:List ARat) 56 (Eq.refl (z:List ARat).length) (Eq.refl ([mid]:List ARat).length) h7 rfl) (cj (bs_sub h5) (cj h8 (cj (e2_any0 p rV depth mid z z1 cut1) True.intro))))))))))) (by kernel_rfl))
theorem e3(out p:List ARat)(rV:ARange)(depth:Int)(cle:Bool)(mid:ARat)(z:List ARat)(cut:Int)(h1:Contract prg 98 [(polyPV p),rV.pv] (.tup [(vB cle),.nilI]))(h2:cle=false)(h3:depth≠0)(h4:Contract prg 183 [rV.pv] mid.pv)(h5:InI64 (depth-1))(h6:ContractX prg 101 [.row 200000 0 out.length 3,.pv (polyPV p),.pv (⟨rV.lo,mid⟩:ARange).pv,.pv (vI (depth-1))] [(200000,(.pure ((out:List ARat).map ARat.cells).flatten))] (.rowT 0 0 z.length 3 [(.iface 94 (vI cut))]) [(0,(.pure ((z:List ARat).map ARat.cells).flatten))]):ContractX prg 101 [(.row 200000 0 out.length 3),(.pv (polyPV p)),(.pv rV.pv),(eI depth)] [(200000,(.pure ((out:List ARat).map ARat.cells).flatten))] (.rowT 0 0 0 3 [(.iface 94 (vI cut))]) [(0,(.pure (([]:List ARat).map ARat.cells).flatten))] :=
 ContractX.ofL Tryz.func101 (by kernel_rfl) (LX.done mixed tabOk (n:=132) (ns:=[1,1,1,1,1,1,1]) (tr:=[.ren 200000 1,.reg [],.reg [.none,.none,(.pv (.tup [(vB cle),.nilI]))],.reg [],.dec false,.reg [],.dec false,.reg [.none,(.pv mid.pv)],.reg [.none,.none,.none,.none,.none,.none,.none,(iI (depth-1)),(.callX [(1,200000)] (some (0,40)) (.rowT 0 0 z.length 3 [(.iface 94 (vI cut))]) [(0,(.pure ((z:List ARat).map ARat.cells).flatten))])],.reg [],.auto,.reg [.none,.nil],.adopt 8 0 3,.drop [40,12,6],.ord [0]]) rfl (cj h1 (cj (Eq.refl false) (cj h2 (cj (deq_f h3) (cj h4 (cj (bs_sub h5) (cj h6 True.intro))))))) (by kernel_rfl))
end positive_cutG
namespace linkworkref31_cuts
theorem e0(p:List ARat)(rV:ARange)(depth:Int)(cle:Bool)(h1:Contract prg 100 [(polyPV p),rV.pv] (vB cle))(h2:cle=true):ContractX prg 102 [(.pv (polyPV p)),(.pv rV.pv),(eI depth)] [] (.rowT 0 0 0 3 [(vB true)]) [(0,(.pure (([]:List ARat).map ARat.cells).flatten))] :=
 ContractX.ofL Tryz.func102 (by kernel_rfl) (LX.done mixed tabOk (n:=84) (ns:=[1,1]) (tr:=[.reg [],.reg [.none,.none,(.pv (vB cle))],.dec true,.reg [.nil],.adopt 6 0 3,.drop [4],.ord [0]]) rfl (cj h1 (cj h2 True.intro)) (by kernel_rfl))
theorem e1(p:List ARat)(rV:ARange)(depth:Int)(cle:Bool)(h1:Contract prg 100 [(polyPV p),rV.pv] (vB cle))(h2:cle=false)(h3:depth=0):ContractX prg 102 [(.pv (polyPV p)),(.pv rV.pv),(eI depth)] [] (.rowT 0 0 0 3 [(vB false)]) [(0,(.pure (([]:List ARat).map ARat.cells).flatten))] :=
 ContractX.ofL Tryz.func102 (by kernel_rfl) (LX.done mixed tabOk (n:=99) (ns:=[1,1,1]) (tr:=[.reg [],.reg [.none,.none,(.pv (vB cle))],.dec false,.reg [],.dec true,.reg [.nil],.adopt 6 0 3,.drop [4],.ord [0]]) rfl (cj h1 (cj h2 (cj (deq_t h3) True.intro))) (by kernel_rfl))
theorem e2(p:List ARat)(rV:ARange)(depth:Int)(cle:Bool)(mid:ARat)(z:List ARat)(cut:Bool)(h1:Contract prg 100 [(polyPV p),rV.pv] (vB cle))(h2:cle=false)(h3:depth≠0)(h4:Contract prg 184 [rV.pv] mid.pv)(h5:InI64 (depth-1))(h6:ContractX prg 102 [.pv (polyPV p),.pv (⟨rV.lo,mid⟩:ARange).pv,.pv (vI (depth-1))] [] (.rowT 0 0 z.length 3 [(vB cut)]) [(0,(.pure ((z:List ARat).map ARat.cells).flatten))])(h7:cut=false):ContractX prg 102 [(.pv (polyPV p)),(.pv rV.pv),(eI depth)] [] (.rowT 0 0 0 3 [(vB false)]) [(0,(.pure (([]:List ARat).map ARat.cells).flatten))] :=
 ContractX.ofL Tryz.func102 (by kernel_rfl) (LX.done mixed tabOk (n:=126) (ns:=[1,1,1,1,1,1,1]) (tr:=[.reg [],.reg [.none,.none,(.pv (vB cle))],.dec false,.reg [],.dec false,.reg [.none,(.pv mid.pv)],.reg [.none,.none,.none,.none,.none,.none,(iI (depth-1)),(.callX [] (some (0,27)) (.rowT 0 0 z.length 3 [(vB cut)]) [(0,(.pure ((z:List ARat).map ARat.cells).flatten))])],.reg [],.dec true,.reg [.nil],.adopt 6 0 3,.drop [27,8,4],.ord [0]]) rfl (cj h1 (cj h2 (cj (deq_f h3) (cj h4 (cj (bs_sub h5) (cj h6 (cj (bnot_t h7) True.intro))))))) (by kernel_rfl))
theorem e3(p:List ARat)(rV:ARange)(depth:Int)(cle:Bool)(mid:ARat)(z:List ARat)(cut:Bool)(z1:List ARat)(cut1:Bool)(h1:Contract prg 100 [(polyPV p),rV.pv] (vB cle))(h2:cle=false)(h3:depth≠0)(h4:Contract prg 184 [rV.pv] mid.pv)(h5:InI64 (depth-1))(h6:ContractX prg 102 [.pv (polyPV p),.pv (⟨rV.lo,mid⟩:ARange).pv,.pv (vI (depth-1))] [] (.rowT 0 0 z.length 3 [(vB cut)]) [(0,(.pure ((z:List ARat).map ARat.cells).flatten))])(h7:cut=true)(h8:ContractX prg 102 [.pv (polyPV p),.pv (⟨mid,rV.hi⟩:ARange).pv,.pv (vI (depth-1))] [] (.rowT 0 0 z1.length 3 [(vB cut1)]) [(0,(.pure ((z1:List ARat).map ARat.cells).flatten))])(h9:((z++[mid]):List ARat).length*56≤140737488355328)(h10:(((z++[mid])++z1):List ARat).length*56≤140737488355328):ContractX prg 102 [(.pv (polyPV p)),(.pv rV.pv),(eI depth)] [] (.rowT 0 0 (((z++[mid])++z1).length) 3 [(vB cut1)]) [(0,(.pure ((((z++[mid])++z1):List ARat).map ARat.cells).flatten))] :=
 ContractX.ofL Tryz.func102 (by kernel_rfl) (LX.done mixed tabOk (n:=135) (ns:=[1,1,1,1,1,1,1,1,1,6,6]) (tr:=[.reg [],.reg [.none,.none,(.pv (vB cle))],.dec false,.reg [],.dec false,.reg [.none,(.pv mid.pv)],.reg [.none,.none,.none,.none,.none,.none,(iI (depth-1)),(.callX [] (some (0,27)) (.rowT 0 0 z.length 3 [(vB cut)]) [(0,(.pure ((z:List ARat).map ARat.cells).flatten))])],.reg [],.dec false,.reg [.none,.none,.none,.none,.none,.none,(iI (depth-1)),(.callX [] (some (0,40)) (.rowT 0 0 z1.length 3 [(vB cut1)]) [(0,(.pure ((z1:List ARat).map ARat.cells).flatten))])],.reg [.none,.none,.none,(.app ((z++[mid]):List ARat).length (((z++[mid]):List ARat).map ARat.cells).flatten),.none,(.app (((z++[mid])++z1):List ARat).length ((((z++[mid])++z1):List ARat).map ARat.cells).flatten)],.ren 48 0,.drop [45,40,8,4],.ord [0]]) rfl (cj h1 (cj h2 (cj (deq_f h3) (cj h4 (cj (bs_sub h5) (cj h6 (cj (bnot_f h7) (cj (bs_sub h5) (cj h8 (cj (o_appR sz_ARat (z:List ARat) ([mid]:List ARat) 56 (Eq.refl (z:List ARat).length) (Eq.refl ([mid]:List ARat).length) h9 rfl) (cj (o_appR sz_ARat ((z++[mid]):List ARat) (z1:List ARat) 56 (Eq.refl ((z++[mid]):List ARat).length) (Eq.refl (z1:List ARat).length) h10 rfl) True.intro))))))))))) (by kernel_rfl))
end linkworkref31_cuts
namespace positive_choose
@[reducible] noncomputable def fn:Func:=Tryz.f158
noncomputable def atK1:List Itm:=focus [0,2,0,2,0,0,2,0,0] [.code (bodyOf fn)]
def inv1(n k:Int)(t_12:Nat)(site_6:ARat):St:=⟨[(0,(eI n)),(4,(.ptr 4 0)),(6,(.ptr 6 0)),(11,(eI k)),(12,(eI (t_12:Int)))],[(4,(.lit [(eB false),(.pv (.list [])),(.pv (.list []))])),(6,(.lit [(eB site_6.neg),(.pv (wordsPV site_6.num)),(.pv (wordsPV site_6.den))]))]⟩
@[reducible] noncomputable def Loop1(n k:Int)(t_12:Nat)(site_6:ARat)(r:PV):Prop:=L prg fn atK1 (inv1 n k t_12 site_6) r
theorem e0(n k:Int)(of:ARat){r:PV}(h1:Contract prg 73 [(vI 1)] of.pv)(hL:Loop1 n k 0 of r):Contract prg 158 [(vI n),(vI k)] r :=
 Contract.ofL Tryz.func158 (by kernel_rfl) (L.go mixed tabOk (n:=87) (ns:=[1]) (tr:=[.reg [],.reg [(.pv of.pv)],.reg [],.keep [0,4,6,11,12],.ord [4,6]]) (cj h1 True.intro) (by kernel_rfl) hL)
theorem l10(n k:Int)(t_12:Nat)(site_6 mak mul:ARat){r:PV}(h1:(t_12:Int)<k)(h2:InI64 (n-(t_12:Int)))(h3:(t_12+1)<9223372036854775808)(h4:Contract prg 215 [(vI (n-(t_12:Int))),(vI (((t_12+1):Nat):Int))] (.tup [mak.pv,.nilI]))(h5:Contract prg 85 [site_6.pv,mak.pv] mul.pv)(hL:Loop1 n k (t_12+1) mul r):Loop1 n k t_12 site_6 r :=
 L.go mixed tabOk (n:=147) (ns:=[1,1,1,1,1,1]) (tr:=[.auto,.reg [],.dec true,.reg [],.reg [.none,.none,(iI (n-(t_12:Int))),.none,(iI (((t_12+1):Nat):Int)),(.pv (.tup [mak.pv,.nilI]))],.reg [],.auto,.reg [.none,.none,(.pv mul.pv)],.reg [(iI (((t_12+1):Nat):Int))],.keep [0,4,6,11,12],.drop [8]]) (cj (dlt_t h1) (cj (bs_sub h2) (cj (bs_addN h3) (cj h4 (cj h5 (cj (bs_addN h3) True.intro)))))) (by kernel_rfl) hL
theorem l12(n k:Int)(t_12:Nat)(site_6:ARat)(h1:k≤(t_12:Int)):Loop1 n k t_12 site_6 (.tup [site_6.pv,.nilI]) :=
 L.done mixed tabOk (n:=120) (ns:=[1]) (tr:=[.auto,.reg [],.dec false,.reg []]) (cj (dlt_f h1) True.intro) (by kernel_rfl)
end positive_choose
namespace linkworkref31_choose
@[reducible] noncomputable def fn:Func:=Tryz.f163
noncomputable def atK1:List Itm:=focus [0,2,0,2,0,0,2,0,0] [.code (bodyOf fn)]
def inv1(n k:Int)(t_9:Nat)(site_5:ARat):St:=⟨[(0,(eI n)),(4,(.ptr 4 0)),(5,(.ptr 5 0)),(8,(eI k)),(9,(eI (t_9:Int)))],[(4,(.lit [(eB false),(.pv (.list [])),(.pv (.list []))])),(5,(.lit [(eB site_5.neg),(.pv (wordsPV site_5.num)),(.pv (wordsPV site_5.den))]))]⟩
@[reducible] noncomputable def Loop1(n k:Int)(t_9:Nat)(site_5:ARat)(r:PV):Prop:=L prg fn atK1 (inv1 n k t_9 site_5) r
theorem e0(n k:Int)(of:ARat){r:PV}(h1:Contract prg 70 [(vI 1)] of.pv)(hL:Loop1 n k 0 of r):Contract prg 163 [(vI n),(vI k)] r :=
 Contract.ofL Tryz.func163 (by kernel_rfl) (L.go mixed tabOk (n:=87) (ns:=[1]) (tr:=[.reg [],.reg [(.pv of.pv)],.reg [],.keep [0,4,5,8,9],.ord [4,5]]) (cj h1 True.intro) (by kernel_rfl) hL)
theorem l10(n k:Int)(t_9:Nat)(site_5 of mul of1 div:ARat)(div1:Int){r:PV}(h1:(t_9:Int)<k)(h2:InI64 (n-(t_9:Int)))(h3:Contract prg 70 [(vI (n-(t_9:Int)))] of.pv)(h4:Contract prg 88 [site_5.pv,of.pv] mul.pv)(h5:(t_9+1)<9223372036854775808)(h6:Contract prg 70 [(vI (((t_9+1):Nat):Int))] of1.pv)(h7:Contract prg 162 [mul.pv,of1.pv] (.tup [div.pv,(vI div1)]))(hL:Loop1 n k (t_9+1) div r):Loop1 n k t_9 site_5 r :=
 L.go mixed tabOk (n:=132) (ns:=[1,1,1,1,1,1,1,1]) (tr:=[.auto,.reg [],.dec true,.reg [],dr 6 1 [.none,.none,.none,(iI (n-(t_9:Int))),(.pv of.pv),(.pv mul.pv)],dr 9 0 [.none,.none,(iI (((t_9+1):Nat):Int)),(.pv of1.pv),(.pv (.tup [div.pv,(vI div1)]))],.reg [(iI (((t_9+1):Nat):Int))],.keep [0,4,5,8,9]]) (cj (dlt_t h1) (cj (bs_sub h2) (cj h3 (cj h4 (cj (bs_addN h5) (cj h6 (cj h7 (cj (bs_addN h5) True.intro)))))))) (by kernel_rfl) hL
theorem l11(n k:Int)(t_9:Nat)(site_5:ARat)(h1:k≤(t_9:Int)):Loop1 n k t_9 site_5 site_5.pv :=
 L.done mixed tabOk (n:=120) (ns:=[1]) (tr:=[.auto,.reg [],.dec false,.reg []]) (cj (dlt_f h1) True.intro) (by kernel_rfl)
end linkworkref31_choose
end Go.Proofs.YtbgkjomonebfcaaGreat.Sym.Path
namespace Go.Proofs.YtbgkjomonebfcaaGreat.Sym
open Go Path CInt
set_option linter.unusedVariables false
namespace CPs
theorem choose(n k:Nat)(hn:n≤64)(hk:k≤64):Contract prg 158 [vI (n:Int),vI (k:Int)] (.tup [(mkR (choQ (n:Int) k)).pv,.nilI]):=by
 have loop:∀d t:Nat,k-t=d→t≤k→positive_choose.Loop1 (n:Int) (k:Int) t (mkR (choQ (n:Int) t)) (.tup [(mkR (choQ (n:Int) k)).pv,.nilI]):=by
  intro d
  induction d with
  |zero =>
   intro t hd ht
   have:t=k:=by omega
   subst this
   exact positive_choose.l12 _ _ t _ (by omega)
  |succ d ih =>
   intro t hd htk
   have h1:=ht_choQ (n:=(n:Int)) (by omega) t (by omega)
   have h2:=ht_divInt ((n:Int)-(t:Int)) ((t+1:Nat):Int)
   have h3:wl ((n:Int)-(t:Int))≤2:=wl_le (by omega)
   have h4:wl ((t+1:Nat):Int)≤2:=wl_le (by omega)
   have hm:=QF.Mul (choQ (n:Int) t) (Rat.divInt ((n:Int)-(t:Int)) ((t+1:Nat):Int)) (by omega) (by omega)
   exact positive_choose.l10 _ _ t _ _ _ (by omega) (by unfold InI64;omega) (by omega) (QF.Make _ _ (by unfold InI64;omega) (by unfold InI64;omega) (by omega)) hm (ih (t+1) (by omega) (by omega))
 exact positive_choose.e0 _ _ _ (CFr.Of 1 (by unfold InI64;omega)) (loop k 0 rfl (by omega))
theorem Width(lo hi:Rat)(h1:ht lo≤68719476736)(h2:ht hi≤68719476736)(hle:lo≤hi):Contract prg 156 [(mkG lo hi).pv] (mkR (hi-lo)).pv:=by
 have hc:=CIv.clean (mkG lo hi) (fit_mkG h1 h2)
 rw[loG_mk hle,hiG_mk hle] at hc
 exact interval_Width.e0 _ (mkG lo hi) _ hc (QF.Sub hi lo h2 h1)
theorem bernstein{p:List Rat}{lo hi:Rat}(pc:Piece p lo hi):Contract prg 76 [pq p,(mkG lo hi).pv] (.tup [pq (bernQ p lo (hi-lo)),.nilI]):=by
 have hl:=pc.len
 by_cases h0:p.length=0
 ·have:p=[]:=List.eq_nil_of_length_eq_zero h0
  subst this
  exact positive_bernstein.e0 _ _ rfl
 have g1:=pc.hlo
 have g2:=pc.hhi
 have g3:=ht_sub hi lo
 have f1:Fl 81 [lo,hi-lo]:=fun x hx=>by
  rcases List.mem_cons.1 hx with rfl|hx
  ·omega
  ·rw[List.mem_singleton.1 hx];omega
 have l1:=len_trimL [lo,hi-lo]
 have l1:(trimL [lo,hi-lo]).length≤2:=l1
 have hw:=Width lo hi (by omega) (by omega) pc.le
 have ht:=CPl.Trim [lo,hi-lo] (by simp) f1 (by omega)
 have h5:=cB_le 2 40 81 (by omega) (9-p.length) p.length
 have h6:=cB_40
 rw[show p.length+(9-p.length)=9 from by omega] at h5
 have hc:=CPl.Compose (a:=40) (b:=81) 2 p (trimL [lo,hi-lo]) (chk2_zero (chk_map pc.zp (by omega)) (chk_trimL (by simp))) (by
  intro⟨_,h2,h3⟩
  have:(trimL [lo,hi-lo]).length-1=1:=by omega
  rw[this] at h3;omega) pc.fl (fl_trimL f1) (by omega) (by omega) l1 (by omega) (by omega)
 have hd:=poly_Degree.e0 (p.map mkR) (by rw[lenM];unfold InI64;omega)
 rw[lenM] at hd
 have hq:=sub_coef pc
 have ln:((subL p lo (hi-lo)).map mkR).length=(subL p lo (hi-lo)).length:=lenM _
 have inner:∀(j:Nat) (site:List ARat) (r:PV),j<p.length→site.length≤20→positive_bernstein.Loop1 ((subL p lo (hi-lo)).map mkR) ((p.length:Int)-1) (site++[mkR (berS (subL p lo (hi-lo)) ((p.length:Int)-1) j (j+1))]) (j+1) r →
   ∀d t:Nat,min (j+1) (subL p lo (hi-lo)).length-t=d→t≤min (j+1) (subL p lo (hi-lo)).length→positive_bernstein.Loop2 ((subL p lo (hi-lo)).map mkR) ((p.length:Int)-1) site j j (min (j+1) ((subL p lo (hi-lo)).map mkR).length) t (mkR (berS (subL p lo (hi-lo)) ((p.length:Int)-1) j t)) r:=by
  intro j site r hj hs hL d
  induction d with
  |zero =>
   intro t hd1 ht1
   have e:berS (subL p lo (hi-lo)) ((p.length:Int)-1) j t=berS (subL p lo (hi-lo)) ((p.length:Int)-1) j (j+1):=by
    by_cases hc:j+1≤(subL p lo (hi-lo)).length
    ·rw[show t=j+1 from by omega]
    ·have:=berS_ge (q:=subL p lo (hi-lo)) (n:=(p.length:Int)-1) (j:=j) (m:=t) (by omega) (j+1-t)
     rw[show t+(j+1-t)=j+1 from by omega] at this
     exact this.symm
   rw[e]
   exact positive_bernstein.l24 _ _ site j j _ t _ (by rw[ln];omega) (by rw[List.length_append,List.length_singleton];omega) (by omega) hL
  |succ d ih =>
   intro t hd1 ht1
   have c1:=choose j t (by omega) (by omega)
   have c2:=choose (p.length-1) t (by omega) (by omega)
   rw[show ((p.length-1:Nat):Int)=(p.length:Int)-1 from by omega] at c2
   have b1:=ht_choQ (n:=(j:Int)) (by omega) t (by omega)
   have b2:=ht_choQ (n:=(p.length:Int)-1) (by omega) t (by omega)
   obtain⟨b3,b4⟩:=ht_term (q:=subL p lo (hi-lo)) (n:=(p.length:Int)-1) (H:=110000) (by omega) hq j t (by omega) (by omega)
   have b5:=ht_berS (q:=subL p lo (hi-lo)) (n:=(p.length:Int)-1) (H:=110000) (by omega) hq j (by omega) t (by omega)
   have b6:t*(110000+271)≤65*(110000+271):=Nat.mul_le_mul_right _ (by omega)
   have b7:=hq t
   have hpos:=choQ_pos (n:=(p.length:Int)-1) t (by omega)
   have hdv:=QF.Div (choQ (j:Int) t) (choQ ((p.length:Int)-1) t) (by omega) (by omega) (by grind)
   have hml:=QF.Mul (choQ (j:Int) t/choQ ((p.length:Int)-1) t) (coef (subL p lo (hi-lo)) t) (by omega) (by omega)
   have had:=QF.Add (berS (subL p lo (hi-lo)) ((p.length:Int)-1) j t) _ (by omega) (Nat.le_trans b4 (by omega))
   exact positive_bernstein.l20 _ _ site j j _ t _ _ _ _ _ _ _ (by rw[ln];omega) c1 c2 hdv (getM (coef_get (by omega))) hml had (by omega) (ih (t+1) (by omega) (by omega))
 have outer:∀d j:Nat,p.length-j=d→j≤p.length→positive_bernstein.Loop1 ((subL p lo (hi-lo)).map mkR) ((p.length:Int)-1) ((tabL j (fun j=>berS (subL p lo (hi-lo)) ((p.length:Int)-1) j (j+1))).map mkR) j (.tup [pq (bernQ p lo (hi-lo)),.nilI]):=by
  intro d
  induction d with
  |zero =>
   intro j hd1 hj
   have:j=p.length:=by omega
   subst this
   exact positive_bernstein.l11 _ _ _ _ (by omega)
  |succ d ih =>
   intro j hd1 hj
   have:=ih (j+1) (by omega) (by omega)
   rw[tabL_succ,List.map_append] at this
   exact positive_bernstein.l10 _ _ _ j (by omega) (by omega) (inner j _ _ (by omega) (by rw[lenM,tabL_len];omega) this _ 0 rfl (by omega))
 exact positive_bernstein.e1 _ (mkG lo hi) _ _ _ _ (by rw[lenM];exact h0) hw ht hc hd (by unfold InI64;omega) (outer _ 0 rfl (by omega))
theorem clear{p:List Rat}{lo hi:Rat}(pc:Piece p lo hi):Contract prg 98 [pq p,(mkG lo hi).pv] (.tup [vB (clearB (bernQ p lo (hi-lo))),.nilI]):=by
 have hb:=bernstein pc
 have hf:=fl_bern pc
 have hl:=bern_len p lo (hi-lo)
 have hpl:=pc.len
 generalize bernQ p lo (hi-lo)=b at hb hf hl
 by_cases h0:b.length=0
 ·have:b=[]:=List.eq_nil_of_length_eq_zero h0
  subst this
  exact positive_clear.e0 _ _ _ hb rfl
 have ht:∀i,ht (coef b i)≤1000000:=fun i=>fl_coef hf (by omega) i
 have loop:∀d t:Nat,b.length-t=d→t≤b.length→positive_clear.Loop1 (b.map mkR) t (.tup [vB ((b.drop t).all (fun x=>decide (0≤x))&&(decide (0<coef b 0)&&decide (0<coef b (b.length-1)))),.nilI]):=by
  intro d
  induction d with
  |zero =>
   intro t hd1 ht1
   rw[List.drop_of_length_le (by omega),List.all_nil,Bool.true_and]
   have s1:=QF.Sign (coef b 0) (Nat.le_trans (ht 0) (by omega))
   have s2:=QF.Sign (coef b (b.length-1)) (Nat.le_trans (ht _) (by omega))
   by_cases hp:0<coef b 0
   ·rw[decide_eq_true hp,Bool.true_and]
    have:=positive_clear.l12 (b.map mkR) t _ _ (b.length-1) _ _ (by rw[lenM];omega) (getM (coef_get (by omega))) s1 (cmpR_gt.2 hp) (by rw[lenM];unfold InI64;omega) (by rw[lenM];omega) (getM (coef_get (by omega))) s2
    rwa[show decide (cmpR (coef b (b.length-1)) 0>0)=decide (0<coef b (b.length-1)) from by congr 1;exact propext cmpR_gt] at this
   ·rw[decide_eq_false hp,Bool.false_and]
    exact positive_clear.l13 (b.map mkR) t _ _ (by rw[lenM];omega) (getM (coef_get (by omega))) s1 (cmpR_le.2 (by grind))
  |succ d ih =>
   intro t hd1 ht1
   have hg:=coef_get (p:=b) (i:=t) (by omega)
   have s1:=QF.Sign (coef b t) (Nat.le_trans (ht t) (by omega))
   rw[drop_cons hg,List.all_cons]
   by_cases hp:0≤coef b t
   ·rw[decide_eq_true hp,Bool.true_and]
    exact positive_clear.l11 (b.map mkR) t _ _ (by rw[lenM];omega) (getM hg) s1 (cmpR_ge.2 hp) (by omega) (ih (t+1) (by omega) (by omega))
   ·rw[decide_eq_false hp,Bool.false_and,Bool.false_and]
    exact positive_clear.l10 (b.map mkR) t _ _ (by rw[lenM];omega) (getM hg) s1 (cmpR_lt.2 (by grind))
 have:=positive_clear.e1 _ _ _ hb (by rw[lenM];exact h0) (loop _ 0 rfl (by omega))
 rwa[List.drop_zero] at this
theorem check(p:List ARat)(r:ARange)(hp:FitP 274877906944 p)(hr:FitG 68719476736 r):Contract prg 75 [polyPV p,r.pv] (errPV (errOf (err31 p r))):=by
 have hk:=CPo.Check p hp
 have hv:=CIv.Valid r hr
 unfold err31
 by_cases h:chk p=0
 ·rw[if_pos h]
  rw[h] at hk
  by_cases h0:r.ok=true
  ·rw[if_pos h0];exact positive_check.e1 p r _ hk hv h0
  ·rw[if_neg h0];exact positive_check.e0 p r _ hk hv (by simpa using h0)
 ·rw[if_neg h]
  rw[errOf_ne h] at hk ⊢
  exact positive_check.e2 p r _ hk
theorem EvalQ(p:List Rat)(x:Rat)(hz:lastZ p=false)(hl:p.length≤65){k:Nat}(hf:Fl k p)(hx:ht x≤k)(hk:k≤1073741824):Contract prg 27 [pq p,(mkR x).pv] (.tup [(mkR (evalL p x)).pv,.nilI]):=by
 have:=CPo.Eval (p.map mkR) (mkR x) (chk_map hz hl) (fit_mapk (fl_mono hf hk)) (fit_mkRk (Nat.le_trans hx hk))
 rwa[vals_mkR,mkR_val] at this
theorem decide'{h L:Nat}{p:List Rat}(f:p=[]∨Fine h L p){lo hi:Rat}{k:Nat}(hf:Fl k p)(hk:k≤1048576)(hk1:1≤k)(hlh:lo≤hi)(h1:ht lo≤k)(h2:ht hi≤k):Contract prg 77 [pq p,(mkG lo hi).pv] (.tup [vB (posR p lo hi),.nilI]):=by
 have hl:p.length≤10:=by
  rcases f with rfl|f
  ·simp
  ·have:=f.len;have:=f.hL;omega
 have hz:lastZ p=false:=by
  rcases f with rfl|f
  ·rfl
  ·exact f.zp
 have he:=EvalQ p lo hz (by omega) hf h1 (by omega)
 have hv:=ht_eval p lo k hf h1
 have h4:p.length*(2*k+1)≤10*(2*k+1):=Nat.mul_le_mul_right _ hl
 have hs:=QF.Sign (evalL p lo) (by omega)
 unfold posR
 by_cases h0:0<evalL p lo
 ·rw[decide_eq_true h0,Bool.true_and]
  rcases f with rfl|f
  ·exact absurd h0 Rat.lt_irrefl
  ·exact positive_decide.e1 _ (mkG lo hi) _ _ _ none he hs (cmpR_gt.2 h0) (CSt.Count f lo hi hlh (by omega) (by omega))
 ·rw[decide_eq_false h0,Bool.false_and]
  exact positive_decide.e0 _ (mkG lo hi) _ _ he hs (cmpR_le.2 (by grind))
theorem Bound{k:Nat}{p:List Rat}(hz:lastZ p=false)(h0:p≠[])(hl:p.length≤65)(hf:Fl k p)(hk:k≤1048576):Contract prg 160 [pq p] (.tup [(mkR (bndQ k p)).pv,.nilI]):=by
 have hpos:=List.length_pos_iff.2 h0
 have hck:=CSt.check (p.map mkR) (fitQ hf (by omega))
 rw[chk_map hz hl,if_pos rfl,if_neg (by rw[lenM];omega)] at hck
 have htop:ht (topL p)≤k:=hf _ (List.mem_of_getElem? (coef_get (by omega)))
 have htn:=top_ne hz h0
 have inner:∀(t:Nat) (c:Rat) (r:PV) (out':Rat),p[t]? = some c→∀(f j:Nat),fuelB k≤j+f→j≤fuelB k→out'=dblF f (pow2 j) (1+absR (c/topL p))→sturm_Bound.Loop1 (p.map mkR) (t+1) (mkR out') r→sturm_Bound.Loop2 (p.map mkR) t (mkR (pow2 j)) (mkR (c/topL p)) r:=by
  intro t c r out' hc f
  have htl:=(List.getElem?_eq_some_iff.1 hc).1
  obtain⟨b1,b2,b3⟩:=bnd_term (hf c (List.mem_of_getElem? hc)) htop
  have ho:=CFr.Of 1 (by unfold InI64;omega)
  have ha:=QF.Abs (c/topL p) (by omega)
  have hd:=QF.Add ((1:Int):Rat) (absR (c/topL p)) (by decide) (by rw[ht_abs];omega)
  induction f with
  |zero =>
   intro j h1 h2 h3 hL
   have hp2:=ht_pow2 (k:=j) (n:=2*k+4) (by unfold fuelB at h2;omega)
   have hcmp:=QF.Cmp (pow2 j) (1+absR (c/topL p)) (by omega) (by omega)
   rw[h3] at hL
   exact sturm_Bound.l21 _ t _ _ _ _ _ _ ho ha hd hcmp (cmpR_ge.2 (Rat.le_trans b1 (pow2_mono (by omega)))) (by omega) hL
  |succ f ih =>
   intro j h1 h2 h3 hL
   have hp2:=ht_pow2 (k:=j) (n:=2*k+4) (by unfold fuelB at h2;omega)
   have hcmp:=QF.Cmp (pow2 j) (1+absR (c/topL p)) (by omega) (by omega)
   rw[dblF] at h3
   by_cases hlt:pow2 j<1+absR (c/topL p)
   ·rw[decide_eq_true hlt,cond_true,pow2_add] at h3
    have had:=QF.Add (pow2 j) (pow2 j) (by omega) (by omega)
    rw[pow2_add] at had
    have hj:j<fuelB k:=by
     rcases Nat.lt_or_ge j (fuelB k) with h|h
     ·exact h
     ·have:=pow2_mono h;grind
    exact sturm_Bound.l20 _ t _ _ _ _ _ _ _ ho ha hd hcmp (cmpR_lt.2 hlt) had (ih (j+1) (by omega) (by omega) h3 hL)
   ·rw[decide_eq_false hlt,cond_false] at h3
    rw[h3] at hL
    exact sturm_Bound.l21 _ t _ _ _ _ _ _ ho ha hd hcmp (cmpR_ge.2 (by grind)) (by omega) hL
 have outer:∀d t j:Nat,p.length-t=d→t≤p.length→j≤fuelB k→sturm_Bound.Loop1 (p.map mkR) t (mkR (pow2 j)) (.tup [(mkR (bndF (fuelB k) (topL p) (p.drop t) (pow2 j))).pv,.nilI]):=by
  intro d
  induction d with
  |zero =>
   intro t j h1 h2 h3
   rw[List.drop_of_length_le (by omega)]
   exact sturm_Bound.l12 _ t _ (by rw[lenM];omega)
  |succ d ih =>
   intro t j h1 h2 h3
   have hg:=coef_get (p:=p) (i:=t) (by omega)
   obtain⟨b1,b2,b3⟩:=bnd_term (hf _ (List.mem_of_getElem? hg)) htop
   obtain⟨j1,e1,e2,e3,e4⟩:=dblF_spec b1 (fuelB k) j (by omega)
   rw[drop_cons hg,bndF]
   have hdv:=QF.Div (coef p t) (topL p) (Nat.le_trans (hf _ (List.mem_of_getElem? hg)) (by omega)) (by omega) htn
   refine sturm_Bound.l10 _ t _ _ (p.length-1) _ _ (by rw[lenM];omega) (getM hg) (by rw[lenM];unfold InI64;omega) (by rw[lenM];omega) (getM (coef_get (by omega))) hdv ?_
   refine inner t _ _ _ hg (fuelB k) j (by omega) h3 rfl ?_
   rw[e1]
   exact ih (t+1) j1 (by omega) (by omega) (by omega)
 have:=outer _ 0 0 rfl (by omega) (by omega)
 rw[List.drop_zero] at this
 exact sturm_Bound.e0 _ _ hck (CFr.Of 1 (by unfold InI64;omega)) this
theorem bnd_ht{k:Nat}{p:List Rat}(h0:p≠[])(hf:Fl k p):0≤bndQ k p∧ht (bndQ k p)≤2*k+4:=by
 have hpos:=List.length_pos_iff.2 h0
 have htop:ht (topL p)≤k:=hf _ (List.mem_of_getElem? (coef_get (by omega)))
 obtain⟨j,e1,e2,e3,e4⟩:=bndF_spec htop p 0 hf (Nat.zero_le _)
 unfold bndQ
 rw[e1]
 refine⟨?_,ht_pow2 (by unfold fuelB at e3;omega)⟩
 exact Rat.le_trans (b:=pow2 0) (by decide) (pow2_mono (Nat.zero_le _))
theorem All{h L k:Nat}{p:List Rat}(f:Fine h L p)(hf:Fl k p)(hk:k≤1048576):Contract prg 79 [pq p] (.tup [vI (allR p (bndQ k p)),.nilI]):=by
 have hl:=f.len
 have hL:=f.hL
 obtain⟨b1,b2⟩:=bnd_ht f.ne hf
 have hb:=Bound f.zp f.ne (by omega) hf hk
 have hn:=QF.Neg (bndQ k p) (by omega)
 have hng:=ht_neg (bndQ k p)
 exact sturm_All.e0 _ _ _ _ none hb hn (CSt.Count f (-bndQ k p) (bndQ k p) (by grind) (by omega) (by omega))
theorem Everywhere{h L k:Nat}{p:List Rat}(f:p=[]∨Fine h L p)(hf:Fl k p)(hk:k≤1048576)(hk1:1≤k):Contract prg 20 [pq p] (.tup [vB (everyB k p),.nilI]):=by
 have hl:p.length≤10:=by
  rcases f with rfl|f
  ·simp
  ·have:=f.len;have:=f.hL;omega
 have hz:lastZ p=false:=by
  rcases f with rfl|f
  ·rfl
  ·exact f.zp
 have hck:=CPo.Check (p.map mkR) (fitQ hf (by omega))
 rw[chk_map hz (by omega)] at hck
 have h0':ht (0:Rat)≤k:=by rw[ht_zero];exact hk1
 have he:=EvalQ p 0 hz (by omega) hf h0' (by omega)
 have hv:=ht_eval p 0 k hf h0'
 have h4:p.length*(2*k+1)≤10*(2*k+1):=Nat.mul_le_mul_right _ hl
 have hs:=QF.Sign (evalL p 0) (by omega)
 unfold everyB
 by_cases h0:0<evalL p 0
 ·rw[decide_eq_true h0,Bool.true_and]
  rcases f with rfl|f
  ·exact absurd h0 Rat.lt_irrefl
  ·exact positive_Everywhere.e1 _ _ _ _ none hck he hs (cmpR_gt.2 h0) (All f hf hk)
 ·rw[decide_eq_false h0,Bool.false_and]
  exact positive_Everywhere.e0 _ _ _ hck he hs (cmpR_le.2 (by grind))
end CPs
end Go.Proofs.YtbgkjomonebfcaaGreat.Sym
namespace Go.Proofs.YtbgkjomonebfcaaGreat.Sym
open Go Path CInt
set_option linter.unusedVariables false
def ptQ(a w:Rat)(k j:Nat):Rat:=a+w*Rat.divInt (j:Int) ((2^k:Nat):Int)
def cutQ(p:List Rat)(a w:Rat):Nat→Nat→Nat→Option (List Rat)
 |d,k,j=>bif clearB (bernQ p (ptQ a w k j) (ptQ a w k (j+1)-ptQ a w k j)) then some [] else match d with
  |0=>none
  |d+1=>match cutQ p a w d (k+1) (2*j) with
   |none=>none
   |some l=>match cutQ p a w d (k+1) (2*j+1) with
    |none=>none
    |some m=>some (l++ptQ a w (k+1) (2*j+1)::m)
theorem two_ne(k:Nat):(((2^k:Nat):Int):Rat)≠0:=fun e=>by
 have:=Rat.intCast_inj.1 (show (((2^k:Nat):Int):Rat)=((0:Int):Rat) from e)
 have:=Nat.pow_pos (n:=k) (show 0<2 by omega)
 omega
theorem pt_even(a w:Rat)(k j:Nat):ptQ a w (k+1) (2*j)=ptQ a w k j:=by
 unfold ptQ
 congr 2
 have h:=two_ne k
 have h2:=two_ne (k+1)
 rw[Rat.divInt_eq_div,Rat.divInt_eq_div,Rat.div_def,Rat.div_def]
 have e:(((2^(k+1):Nat):Int):Rat)=(((2^k:Nat):Int):Rat)*2:=by
  rw[show (2:Rat)=((2:Int):Rat) from rfl,←Rat.intCast_mul];congr 1
 have e2:((2*j:Nat):Int)=(j:Int)*2:=by omega
 rw[e,e2,Rat.intCast_mul,show(((2:Int)):Rat)=2 from rfl,Rat.inv_mul_rev]
 have i2:(2:Rat)*2⁻¹=1:=by decide +kernel
 generalize ((((2^k:Nat):Int):Rat))⁻¹=u
 generalize ((j:Int):Rat)=v
 have:v*2*(2⁻¹*u)=v*(2*2⁻¹)*u:=by grind
 rw[this,i2];grind
theorem pt_odd(a w:Rat)(k j:Nat):Rat.divInt 1 2*(ptQ a w k j+ptQ a w k (j+1))=ptQ a w (k+1) (2*j+1):=by
 rw[←pt_even a w k j,←pt_even a w k (j+1)]
 unfold ptQ
 rw[Rat.divInt_eq_div,Rat.divInt_eq_div,Rat.divInt_eq_div,Rat.divInt_eq_div,Rat.div_def,Rat.div_def,Rat.div_def,Rat.div_def]
 generalize ((((2^(k+1):Nat):Int):Rat))⁻¹=u
 have e1:((2*j:Nat):Int)=2*(j:Int):=by omega
 have e2:((2*(j+1):Nat):Int)=2*(j:Int)+2:=by omega
 have e3:((2*j+1:Nat):Int)=2*(j:Int)+1:=by omega
 rw[e1,e2,e3,Rat.intCast_add,Rat.intCast_add,Rat.intCast_mul]
 generalize ((j:Int):Rat)=v
 have i2:((1:Int):Rat)*(((2:Int):Rat))⁻¹=1/2:=by decide +kernel
 rw[i2,show((2:Int):Rat)=2 from rfl,show((1:Int):Rat)=1 from rfl]
 grind
structure Base (p:List Rat) (a w:Rat):Prop where
 zp:lastZ p=false
 len:p.length≤9
 fl:Fl 40 p
 ha:ht a≤10
 hw:ht w≤20
 w0:0≤w
theorem pt_ht{p:List Rat}{a w:Rat}(b:Base p a w){k j:Nat}(hk:k≤10)(hj:j≤2^k):ht (ptQ a w k j)≤33:=by
 have h1:=b.ha
 have h2:=b.hw
 have h3:=ht_divInt (j:Int) ((2^k:Nat):Int)
 have h5:2^k≤2^10:=Nat.pow_le_pow_right (by omega) hk
 have h6:wl (j:Int)≤1:=wl_le (by omega)
 have h7:wl ((2^k:Nat):Int)≤1:=wl_le (by omega)
 have h8:=ht_mul w (Rat.divInt (j:Int) ((2^k:Nat):Int))
 have h9:=ht_add a (w*Rat.divInt (j:Int) ((2^k:Nat):Int))
 unfold ptQ
 omega
theorem pt_le{w:Rat}(a:Rat)(h:0≤w)(k j:Nat):ptQ a w k j≤ptQ a w k (j+1):=by
 unfold ptQ
 have h2:Rat.divInt (j:Int) ((2^k:Nat):Int)≤Rat.divInt ((j+1:Nat):Int) ((2^k:Nat):Int):=by
  rw[Rat.divInt_eq_div,Rat.divInt_eq_div,Rat.div_def,Rat.div_def]
  refine Rat.mul_le_mul_of_nonneg_right (Rat.intCast_le_intCast.2 (by omega)) (Rat.le_of_lt (Rat.inv_pos.2 ?_))
  have:=Nat.pow_pos (n:=k) (show 0<2 by omega)
  exact Rat.intCast_lt_intCast.2 (show (0:Int)<_ by omega)
 have:=Rat.mul_le_mul_of_nonneg_left h2 h
 grind
theorem pt_piece{p:List Rat}{a w:Rat}(b:Base p a w){k j:Nat}(hk:k≤10)(hj:j<2^k):Piece p (ptQ a w k j) (ptQ a w k (j+1)):=by
 have h1:=pt_ht b hk (show j≤2^k by omega)
 have h2:=pt_ht b hk (show j+1≤2^k by omega)
 exact⟨b.zp,b.len,b.fl,by omega,by omega,pt_le a b.w0 k j⟩
theorem cutQ_len{p:List Rat}{a w:Rat} : ∀(d k j:Nat) (l:List Rat),cutQ p a w d k j=some l→l.length+1≤2^d
 |d,k,j,l,h=>by
  unfold cutQ at h
  cases hc:clearB (bernQ p (ptQ a w k j) (ptQ a w k (j+1)-ptQ a w k j)) with
  |true =>
   rw[hc,cond_true] at h
   injection h with h;subst h
   exact Nat.pow_pos (by omega)
  |false =>
   rw[hc,cond_false] at h
   match d,h with
   |d+1,h =>
    simp only at h
    cases h1:cutQ p a w d (k+1) (2*j) with
    |none=>rw[h1] at h;cases h
    |some l1 =>
     cases h2:cutQ p a w d (k+1) (2*j+1) with
     |none=>rw[h1,h2] at h;cases h
     |some l2 =>
      rw[h1,h2] at h
      injection h with h;subst h
      have:=cutQ_len d _ _ _ h1
      have:=cutQ_len d _ _ _ h2
      rw[List.length_append,List.length_cons,Nat.pow_succ]
      omega
namespace CPc
theorem Mid(lo hi:Rat)(h1:ht lo≤1000)(h2:ht hi≤1000)(hle:lo≤hi):Contract prg 183 [(mkG lo hi).pv] (mkR (Rat.divInt 1 2*(lo+hi))).pv:=by
 have hc:=CIv.clean (mkG lo hi) (fit_mkG (Nat.le_trans h1 (by omega)) (Nat.le_trans h2 (by omega)))
 rw[loG_mk hle,hiG_mk hle] at hc
 have hh:=interval_half.e0 _ none (QF.Make 1 2 (by unfold InI64;omega) (by unfold InI64;omega) (by omega))
 have h3:=ht_add lo hi
 have h4:ht (Rat.divInt 1 2)≤1:=by decide
 exact interval_Mid.e0 _ (mkG lo hi) _ _ _ hc hh (QF.Add lo hi (by omega) (by omega)) (QF.Mul _ _ (by omega) (by omega))
def cutZ(out:List ARat):Option (List Rat)→List ARat
 |some l=>out++l.map mkR
 |none=>[]
def cutE:Option (List Rat)→Option Int
 |some _=>none
 |none=>some 15
theorem cutG{p:List Rat}{a w:Rat}(b:Base p a w):∀(d k j:Nat) (out:List ARat),k+d≤9→j<2^k→out.length+2^d≤1000000 →
  ContractX prg 101 [(.row 200000 0 out.length 3),(.pv (pq p)),(.pv (mkG (ptQ a w k j) (ptQ a w k (j+1))).pv),(eI (d:Int))] [(200000,(.pure ((out:List ARat).map ARat.cells).flatten))] (.rowT 0 0 (cutZ out (cutQ p a w d k j)).length 3 [errPV (cutE (cutQ p a w d k j))]) [(0,(.pure ((cutZ out (cutQ p a w d k j):List ARat).map ARat.cells).flatten))]
 |d,k,j,out,hkd,hj,hlen=>by
  have pc:=pt_piece b (k:=k) (by omega) hj
  have hcl:=CPs.clear pc
  unfold cutQ
  cases hc:clearB (bernQ p (ptQ a w k j) (ptQ a w k (j+1)-ptQ a w k j)) with
  |true =>
   rw[hc] at hcl
   have:=positive_cutG.e0 out _ (mkG (ptQ a w k j) (ptQ a w k (j+1))) (d:Int) _ hcl rfl
   rw[cond_true]
   show ContractX prg _ _ _ (.rowT 0 0 (out++[].map mkR).length 3 [errPV none]) [(0,.pure (((out++[].map mkR:List ARat)).map ARat.cells).flatten)]
   rw[List.map_nil,List.append_nil]
   exact this
  |false =>
   rw[hc] at hcl
   rw[cond_false]
   match d with
   |0=>exact positive_cutG.e1 out _ (mkG (ptQ a w k j) (ptQ a w k (j+1))) _ _ hcl rfl rfl
   |d+1 =>
    have hj1:2*j<2^(k+1):=by rw[Nat.pow_succ];omega
    have hj2:2*j+1<2^(k+1):=by rw[Nat.pow_succ];omega
    have hp2:2^(d+1)=2^d+2^d:=by rw[Nat.pow_succ];omega
    have hpd:=Nat.pow_pos (n:=d) (show 0<2 by omega)
    have hm:=Mid (ptQ a w k j) (ptQ a w k (j+1)) (by have:=pc.hlo;omega) (by have:=pc.hhi;omega) pc.le
    rw[pt_odd] at hm
    have i1:=cutG b d (k+1) (2*j) out (by omega) hj1 (by omega)
    rw[pt_even] at i1
    have hd:((d+1:Nat):Int)≠0:=by omega
    have hI:InI64 (((d+1:Nat):Int)-1):=by
     have:d≤9:=by omega
     unfold InI64;omega
    have e1:((d+1:Nat):Int)-1=(d:Int):=by omega
    simp only
    cases h1:cutQ p a w d (k+1) (2*j) with
    |none =>
     rw[h1] at i1
     exact positive_cutG.e3 out _ (mkG (ptQ a w k j) (ptQ a w k (j+1))) _ _ _ [] 15 hcl rfl hd hm hI (by rw[e1];exact i1)
    |some l =>
     rw[h1] at i1
     have hl:=cutQ_len _ _ _ _ h1
     have i2:=cutG b d (k+1) (2*j+1) (out++l.map mkR++[mkR (ptQ a w (k+1) (2*j+1))]) (by omega) hj2 (by
      rw[List.length_append,List.length_append,lenM,List.length_singleton];omega)
     rw[show 2*j+1+1=2*(j+1) from by omega,pt_even] at i2
     have:=positive_cutG.e2 out _ (mkG (ptQ a w k j) (ptQ a w k (j+1))) _ _ _ (out++l.map mkR) _ _ hcl rfl hd hm hI (by rw[e1];exact i1) (by rw[List.length_append,List.length_append,lenM,List.length_singleton];omega) (by rw[e1];exact i2)
     cases h2:cutQ p a w d (k+1) (2*j+1) with
     |none=>rw[h2] at this;exact this
     |some m =>
      rw[h2] at this
      have e:cutZ (out++l.map mkR++[mkR (ptQ a w (k+1) (2*j+1))]) (some m)=cutZ out (some (l++ptQ a w (k+1) (2*j+1)::m)):=by
       show out++l.map mkR++[mkR _]++m.map mkR=out++(l++_::m).map mkR
       simp
      rw[e] at this
      exact this
theorem cutN{p:List Rat}{a w:Rat}(b:Base p a w)(d k j:Nat)(hkd:k+d≤9)(hj:j<2^k) :
  ContractX prg 101 [(.pv .nilS),(.pv (pq p)),(.pv (mkG (ptQ a w k j) (ptQ a w k (j+1))).pv),(eI (d:Int))] [] (.rowT 0 0 (cutZ [] (cutQ p a w d k j)).length 3 [errPV (cutE (cutQ p a w d k j))]) [(0,(.pure ((cutZ [] (cutQ p a w d k j):List ARat).map ARat.cells).flatten))]:=by
 have pc:=pt_piece b (k:=k) (by omega) hj
 have hcl:=CPs.clear pc
 unfold cutQ
 cases hc:clearB (bernQ p (ptQ a w k j) (ptQ a w k (j+1)-ptQ a w k j)) with
 |true =>
  rw[hc] at hcl
  exact positive_cutN.e0 _ (mkG (ptQ a w k j) (ptQ a w k (j+1))) (d:Int) _ hcl rfl
 |false =>
  rw[hc] at hcl
  rw[cond_false]
  match d,hkd with
  |0,_=>exact positive_cutN.e1 _ (mkG (ptQ a w k j) (ptQ a w k (j+1))) _ _ hcl rfl rfl
  |d+1,hkd =>
   have hj1:2*j<2^(k+1):=by rw[Nat.pow_succ];omega
   have hj2:2*j+1<2^(k+1):=by rw[Nat.pow_succ];omega
   have hp9:2^d≤2^9:=Nat.pow_le_pow_right (by omega) (by omega)
   have hm:=Mid (ptQ a w k j) (ptQ a w k (j+1)) (by have:=pc.hlo;omega) (by have:=pc.hhi;omega) pc.le
   rw[pt_odd] at hm
   have i1:=cutG b d (k+1) (2*j) [] (by omega) hj1 (by simp;omega)
   rw[pt_even] at i1
   have hd:((d+1:Nat):Int)≠0:=by omega
   have hI:InI64 (((d+1:Nat):Int)-1):=by
    have:d≤9:=by omega
    unfold InI64;omega
   have e1:((d+1:Nat):Int)-1=(d:Int):=by omega
   simp only
   cases h1:cutQ p a w d (k+1) (2*j) with
   |none =>
    rw[h1] at i1
    exact positive_cutN.e3 _ (mkG (ptQ a w k j) (ptQ a w k (j+1))) _ _ _ [] 15 hcl rfl hd hm hI (by rw[e1];exact i1)
   |some l =>
    rw[h1] at i1
    have hl:=cutQ_len _ _ _ _ h1
    have i2:=cutG b d (k+1) (2*j+1) (l.map mkR++[mkR (ptQ a w (k+1) (2*j+1))]) (by omega) hj2 (by
     rw[List.length_append,lenM,List.length_singleton];omega)
    rw[show 2*j+1+1=2*(j+1) from by omega,pt_even] at i2
    have:=positive_cutN.e2 _ (mkG (ptQ a w k j) (ptQ a w k (j+1))) _ _ _ (l.map mkR) _ _ hcl rfl hd hm hI (by rw[e1];exact i1) (by rw[List.length_append,lenM,List.length_singleton];omega) (by rw[e1];exact i2)
    cases h2:cutQ p a w d (k+1) (2*j+1) with
    |none=>rw[h2] at this;exact this
    |some m =>
     rw[h2] at this
     have e:cutZ (l.map mkR++[mkR (ptQ a w (k+1) (2*j+1))]) (some m)=cutZ [] (some (l++ptQ a w (k+1) (2*j+1)::m)):=by
      show l.map mkR++[mkR _]++m.map mkR=[]++(l++_::m).map mkR
      simp
     rw[e] at this
     exact this
end CPc
end Go.Proofs.YtbgkjomonebfcaaGreat.Sym
namespace Go.Proofs.YtbgkjomonebfcaaGreat.Sym
open Go Path CInt
set_option linter.unusedVariables false
def lnQ(lo w:Rat):Nat→Nat→Rat
 |0,i=>if i=0 then 1 else 0
 |k+1,i=>lo*lnQ lo w k i+(if i=0 then 0 else w*lnQ lo w k (i-1))
def ccQ(p:List Rat)(lo w:Rat):Nat→Nat→Rat
 |0,_=>0
 |k+1,i=>ccQ p lo w k i+coef p k*lnQ lo w k i
def nxQ(lo w:Rat)(k a b i:Nat):Rat:=(if i<a then lo*lnQ lo w k i else 0)+(if 1≤i∧i≤b then w*lnQ lo w k (i-1) else 0)
theorem lnQ_zero(lo w:Rat):∀(k i:Nat),k<i→lnQ lo w k i=0
 |0,i,h=>by show(if i=0 then (1:Rat) else 0)=0;rw[if_neg (by omega)]
 |k+1,i,h=>by rw[lnQ,lnQ_zero lo w k i (by omega),if_neg (by omega),lnQ_zero lo w k (i-1) (by omega),Rat.mul_zero,Rat.mul_zero,Rat.add_zero]
def lnL(lo w:Rat):Nat→List Rat
 |0=>[1]
 |k+1=>mulL [lo,w] (lnL lo w k)
def ccL(p:List Rat)(lo w:Rat):Nat→List Rat
 |0=>[]
 |k+1=>addL (ccL p lo w k) (smulL (coef p k) (lnL lo w k))
theorem coef_lnL(lo w:Rat):∀(k i:Nat),coef (lnL lo w k) i=lnQ lo w k i
 |0,0=>rfl
 |0,i+1=>rfl
 |k+1,i=>by
  rw[lnL,lnQ,coef_mul_cons,coef_lnL lo w k i]
  congr 1
  cases i with
  |zero=>rfl
  |succ i =>
   rw[coef_succ,coef_mul_cons,coef_lnL lo w k i,if_neg (by omega)]
   have:coef (0::mulL [] (lnL lo w k)) i=0:=by cases i<;>rfl
   rw[this,Rat.add_zero];rfl
theorem coef_ccL(p:List Rat)(lo w:Rat):∀(k i:Nat),coef (ccL p lo w k) i=ccQ p lo w k i
 |0,i=>rfl
 |k+1,i=>by rw[ccL,ccQ,coef_addL,coef_smulL,coef_lnL,coef_ccL p lo w k i]
theorem eval_lnL(lo w x:Rat):∀k:Nat,evalL (lnL lo w k) x=(lo+w*x)^k
 |0=>by show 0*x+1=_;rw[Rat.pow_zero];grind
 |k+1=>by
  rw[lnL,evalL_mulL,eval_lnL lo w x k,Rat.pow_succ]
  show((0*x+w)*x+lo)*_=_
  grind
theorem evalL_snoc(a x:Rat):∀q:List Rat,evalL (q++[a]) x=evalL q x+a*x^q.length
 |[]=>by show 0*x+a=0+a*x^0;rw[Rat.pow_zero];grind
 |b::r=>by
  show evalL (r++[a]) x*x+b=evalL r x*x+b+a*x^(r.length+1)
  rw[evalL_snoc a x r,Rat.pow_succ]
  grind
theorem eval_ccL(p:List Rat)(lo w x:Rat):∀k:Nat,k≤p.length→evalL (ccL p lo w k) x=evalL (p.take k) (lo+w*x)
 |0,_=>rfl
 |k+1,h=>by
  rw[ccL,evalL_addL,evalL_smulL,eval_lnL,eval_ccL p lo w x k (by omega),List.take_add_one,coef_get (show k<p.length by omega)]
  show _=evalL (p.take k++[coef p k]) _
  rw[evalL_snoc,List.length_take,Nat.min_eq_left (by omega)]
theorem ccQ_sub(p:List Rat)(lo w:Rat)(i:Nat):ccQ p lo w p.length i=coef (subL p lo w) i:=by
 rw[←coef_ccL]
 refine eval_coef (fun x => ?_) i
 rw[eval_ccL p lo w x _ (Nat.le_refl _),List.take_length,sub_eval]
theorem ht_lnQ{lo w:Rat}(h1:ht lo≤40)(h2:ht w≤81):∀(k i:Nat),ht (lnQ lo w k i)+200≤2^k*201
 |0,i=>by
  show ht (if i=0 then (1:Rat) else 0)+200≤_
  have a:ht (1:Rat)=1:=by decide
  have b:=ht_zero
  split<;>omega
 |k+1,i=>by
  have i1:=ht_lnQ h1 h2 k i
  have i2:=ht_lnQ h1 h2 k (i-1)
  have m1:=ht_mul lo (lnQ lo w k i)
  have m2:=ht_mul w (lnQ lo w k (i-1))
  have z:=ht_zero
  rw[lnQ,Nat.pow_succ]
  have a:=ht_add (lo*lnQ lo w k i) (if i=0 then 0 else w*lnQ lo w k (i-1))
  have:ht (if i=0 then 0 else w*lnQ lo w k (i-1))≤81+ht (lnQ lo w k (i-1)):=by split<;>omega
  omega
theorem ht_lnQ'{lo w:Rat}(h1:ht lo≤40)(h2:ht w≤81){k:Nat}(hk:k≤9)(i:Nat):ht (lnQ lo w k i)≤103000:=by
 have:=ht_lnQ h1 h2 k i
 have:2^k≤2^9:=Nat.pow_le_pow_right (by omega) hk
 omega
theorem ht_ccQ{p:List Rat}{lo w:Rat}(hp:Fl 40 p)(h1:ht lo≤40)(h2:ht w≤81):∀(k i:Nat),k≤9→ht (ccQ p lo w k i)≤k*103041+1
 |0,i,_=>by show ht 0≤_;have:=ht_zero;omega
 |k+1,i,h=>by
  have ih:=ht_ccQ hp h1 h2 k i (by omega)
  have m:=ht_mul (coef p k) (lnQ lo w k i)
  have l:=ht_lnQ' h1 h2 (show k≤9 by omega) i
  have c:=fl_coef hp (by omega) k
  have a:=ht_add (ccQ p lo w k i) (coef p k*lnQ lo w k i)
  rw[ccQ]
  omega
namespace CPt
theorem choose(n k:Nat)(hn:n≤64)(hk:k≤64):Contract prg 163 [vI (n:Int),vI (k:Int)] (mkR (choQ (n:Int) k)).pv:=by
 have loop:∀d t:Nat,k-t=d→t≤k→linkworkref31_choose.Loop1 (n:Int) (k:Int) t (mkR (choQ (n:Int) t)) (mkR (choQ (n:Int) k)).pv:=by
  intro d
  induction d with
  |zero =>
   intro t hd ht
   have:t=k:=by omega
   subst this
   exact linkworkref31_choose.l11 _ _ t _ (by omega)
  |succ d ih =>
   intro t hd htk
   have h1:=ht_choQ (n:=(n:Int)) (by omega) t (by omega)
   have h2:=ht_int ((n:Int)-(t:Int))
   have h2':=ht_int ((t+1:Nat):Int)
   have h3:wl ((n:Int)-(t:Int))≤2:=wl_le (by omega)
   have h4:wl ((t+1:Nat):Int)≤2:=wl_le (by omega)
   have hm:=QR.Mul (choQ (n:Int) t) (((n:Int)-(t:Int):Int):Rat) (by omega) (by omega)
   have h5:=ht_mul (choQ (n:Int) t) (((n:Int)-(t:Int):Int):Rat)
   have hne:(((t+1:Nat):Int):Rat)≠0:=fun e=>by
    have:=Rat.intCast_inj.1 (show (((t+1:Nat):Int):Rat)=((0:Int):Rat) from e);omega
   have hd:=QR.Div (choQ (n:Int) t*(((n:Int)-(t:Int):Int):Rat)) (((t+1:Nat):Int):Rat) (by omega) (by omega) hne
   have e:choQ (n:Int) t*(((n:Int)-(t:Int):Int):Rat)/(((t+1:Nat):Int):Rat)=choQ (n:Int) (t+1):=by
    rw[choQ,Rat.divInt_eq_div,Rat.div_def,Rat.div_def,Rat.mul_assoc]
   rw[e] at hd
   exact linkworkref31_choose.l10 _ _ t _ _ _ _ _ _ (by omega) (by unfold InI64;omega) (CRb.Of _ (by unfold InI64;omega)) hm (by omega) (CRb.Of _ (by unfold InI64;omega)) hd (ih (t+1) (by omega) (by omega))
 exact linkworkref31_choose.e0 _ _ _ (CRb.Of 1 (by unfold InI64;omega)) (loop k 0 rfl (by omega))
theorem Width(lo hi:Rat)(h1:ht lo≤68719476736)(h2:ht hi≤68719476736)(hle:lo≤hi):Contract prg 89 [(mkG lo hi).pv] (mkR (hi-lo)).pv:=by
 have hc:=CJv.given (mkG lo hi) (fit_mkG h1 h2)
 rw[loG_mk hle,hiG_mk hle] at hc
 exact linkworkref03_Width.e0 _ (mkG lo hi) _ hc (QR.Sub hi lo h2 h1)
theorem bernstein{p:List Rat}{lo hi:Rat}(pc:Piece p lo hi):Contract prg 81 [pq p,(mkG lo hi).pv] (pq (bernQ p lo (hi-lo))):=by
 have hl:=pc.len
 have g1:=pc.hlo
 have g2:=pc.hhi
 have g3:=ht_sub hi lo
 have hwid:=Width lo hi (by omega) (by omega) pc.le
 have g4:ht (hi-lo)≤81:=by omega
 have cfl:=fun i=>fl_coef pc.fl (by omega) i
 generalize hw:hi-lo=w at hwid g4
 have line:∀(k:Nat) (c:List ARat) (r:PV),k<p.length→linkworkref31_bernstein.Loop1 (p.map mkR) p.length (k+2) (k+1) (mkG lo hi) (mkR w) c ((tabL (k+2) (lnQ lo w (k+1))).map mkR) r →
   ∀d t:Nat,k+1-t=d→t≤k+1→linkworkref31_bernstein.Loop5 (p.map mkR) p.length (k+2) k (k+1) (k+1) t (mkG lo hi) (mkR w) c ((tabL (k+1) (lnQ lo w k)).map mkR) ((tabL (k+2) (nxQ lo w k t t)).map mkR) r:=by
  intro k c r hk hL d
  induction d with
  |zero =>
   intro t hd1 ht1
   have:t=k+1:=by omega
   subst this
   refine linkworkref31_bernstein.l51 _ _ _ k _ _ _ _ _ _ _ _ (by omega) (by omega) ?_
   rw[tabL_congr (f:=nxQ lo w k (k+1) (k+1)) (g:=lnQ lo w (k+1)) (fun i hi=>by
    rw[lnQ,nxQ]
    by_cases h0:i=0
    ·subst h0
     rw[if_pos (by omega),if_neg (by omega),if_pos rfl]
    ·rw[if_pos (show 1≤i∧i≤k+1 by omega),if_neg h0]
     by_cases h1:i<k+1
     ·rw[if_pos h1]
     ·rw[if_neg h1,lnQ_zero lo w k i (by omega),Rat.mul_zero])]
   exact hL
  |succ d ih =>
   intro t hd1 ht1
   have lh:=ht_lnQ' (lo:=lo) (w:=w) (by omega) g4 (show k≤9 by omega)
   have z:=ht_zero
   have m1:=QR.Mul lo (lnQ lo w k t) (by omega) (by have:=lh t;omega)
   have m1h:=ht_mul lo (lnQ lo w k t)
   have m2:=QR.Mul w (lnQ lo w k t) (by omega) (by have:=lh t;omega)
   have m2h:=ht_mul w (lnQ lo w k t)
   have m3h:=ht_mul w (lnQ lo w k (t-1))
   have l1:=lh t
   have l2:=lh (t-1)
   have v1h:ht (nxQ lo w k t t t)≤200000:=by
    unfold nxQ
    rw[if_neg (Nat.lt_irrefl t)]
    have a:=ht_add 0 (if 1≤t∧t≤t then w*lnQ lo w k (t-1) else 0)
    have:ht (if 1≤t∧t≤t then w*lnQ lo w k (t-1) else 0)≤190000:=by split<;>omega
    omega
   have a1:=QR.Add _ _ (Nat.le_trans v1h (by omega)) (show ht (lo*lnQ lo w k t)≤68719476736 by omega)
   have a2:=QR.Add 0 (w*lnQ lo w k t) (by omega) (by omega)
   have s1:=tab_step (m:=k+2) (t:=t) (f:=nxQ lo w k (t+1) t) (g:=nxQ lo w k t t) (v:=nxQ lo w k t t t+lo*lnQ lo w k t) (by omega) (by
     unfold nxQ
     rw[if_pos (show t<t+1 by omega),if_neg (Nat.lt_irrefl t)];grind) (fun i hi=>by
     unfold nxQ
     by_cases h:i<t
     ·rw[if_pos h,if_pos (show i<t+1 by omega)]
     ·rw[if_neg h,if_neg (show ¬i<t+1 by omega)])
   have z2:nxQ lo w k (t+1) t (t+1)=0:=by
    unfold nxQ
    rw[if_neg (Nat.lt_irrefl _),if_neg (by omega),Rat.add_zero]
   have s2:=tab_step (m:=k+2) (t:=t+1) (f:=nxQ lo w k (t+1) (t+1)) (g:=nxQ lo w k (t+1) t) (v:=0+w*lnQ lo w k t) (by omega) (by
     unfold nxQ
     rw[if_neg (Nat.lt_irrefl _),if_pos (show 1≤t+1∧t+1≤t+1 by omega)];rfl) (fun i hi=>by
     unfold nxQ
     by_cases h:1≤i∧i≤t
     ·have hh:1≤i∧i≤t+1:=by omega
      rw[if_pos h,if_pos hh]
     ·have hh:¬(1≤i∧i≤t+1):=by omega
      rw[if_neg h,if_neg hh])
   have hv2:((tabL (k+2) (nxQ lo w k (t+1) t)).map mkR)[t+1]? = some (mkR 0):=by rw[getM (tabL_get _ (show t+1<k+2 by omega)),z2]
   refine linkworkref31_bernstein.l50 _ _ _ k _ _ t _ _ _ _ _ _ _ _ _ (mkR 0) _ _ (by omega) (by omega) (getM (tabL_get _ (by omega))) (by omega) (getM (tabL_get _ (by omega))) m1 a1 (by rw[lenM,tabL_len];omega) (by omega) (by omega) (by rw[s1];exact hv2) m2 a2 (by rw[s1,lenM,tabL_len];omega) ?_
   rw[s1,s2]
   exact ih (t+1) (by omega) (by omega)
 have power:∀(k:Nat) (r:PV),k<p.length→linkworkref31_bernstein.Loop1 (p.map mkR) p.length (k+2) (k+1) (mkG lo hi) (mkR w) ((tabL p.length (ccQ p lo w (k+1))).map mkR) ((tabL (k+2) (lnQ lo w (k+1))).map mkR) r →
   ∀d t:Nat,k+1-t=d→t≤k+1→linkworkref31_bernstein.Loop2 (p.map mkR) p.length (k+1) k (k+1) t (mkG lo hi) (mkR w) (mkR (coef p k)) ((tabL p.length (fun i=>ccQ p lo w k i+(if i<t then coef p k*lnQ lo w k i else 0))).map mkR) ((tabL (k+1) (lnQ lo w k)).map mkR) r:=by
  intro k r hk hL d
  induction d with
  |zero =>
   intro t hd1 ht1
   have:t=k+1:=by omega
   subst this
   rw[tabL_congr (g:=ccQ p lo w (k+1)) (fun i hi=>by
    rw[ccQ]
    by_cases h:i<k+1
    ·rw[if_pos h]
    ·rw[if_neg h,lnQ_zero lo w k i (by omega),Rat.mul_zero])]
   refine linkworkref31_bernstein.l21 _ _ _ k _ _ _ _ _ _ _ (by omega) (by omega) (by omega) ?_
   have:=line k _ r hk hL _ 0 rfl (by omega)
   rw[tabL_congr (f:=nxQ lo w k 0 0) (g:=fun _=>(0:Rat)) (fun i hi=>by
    unfold nxQ
    rw[if_neg (by omega),if_neg (by omega),Rat.add_zero]),←tabL_zero] at this
   exact this
  |succ d ih =>
   intro t hd1 ht1
   have lh:=ht_lnQ' (lo:=lo) (w:=w) (by omega) g4 (show k≤9 by omega) t
   have ch:=ht_ccQ pc.fl g1 g4 k t (by omega)
   have hck:=cfl k
   have mh:=ht_mul (coef p k) (lnQ lo w k t)
   have m:=QR.Mul (coef p k) (lnQ lo w k t) (by omega) (by omega)
   have vh:ht (ccQ p lo w k t+(if t<t then coef p k*lnQ lo w k t else 0))≤2000000:=by
    rw[if_neg (Nat.lt_irrefl t),Rat.add_zero]
    have:k*103041≤9*103041:=Nat.mul_le_mul_right _ (by omega)
    omega
   have a:=QR.Add _ _ (Nat.le_trans vh (by omega)) (show ht (coef p k*lnQ lo w k t)≤68719476736 by omega)
   have s:=tab_step (m:=p.length) (t:=t) (f:=fun i=>ccQ p lo w k i+(if i<t+1 then coef p k*lnQ lo w k i else 0)) (g:=fun i=>ccQ p lo w k i+(if i<t then coef p k*lnQ lo w k i else 0)) (v:=ccQ p lo w k t+(if t<t then coef p k*lnQ lo w k t else 0)+coef p k*lnQ lo w k t) (by omega) (by
     show _+(if t<t+1 then _ else _)=_
     rw[if_pos (by omega),if_neg (Nat.lt_irrefl t),Rat.add_zero]) (fun i hi=>by
     show _+(if i<t+1 then _ else _)=_+(if i<t then _ else _)
     by_cases h:i<t
     ·rw[if_pos h,if_pos (by omega)]
     ·rw[if_neg h,if_neg (by omega)])
   refine linkworkref31_bernstein.l20 _ _ _ k _ t _ _ _ _ _ _ _ _ _ (by omega) (by omega) (getM (tabL_get _ (by omega))) (by omega) (getM (tabL_get _ (by omega))) m a (by rw[lenM,tabL_len];omega) (by omega) ?_
   rw[s]
   exact ih (t+1) (by omega) (by omega)
 have hq:∀i,ht (coef (subL p lo w) i)≤110000:=by rw[←hw];exact sub_coef pc
 have inner:∀(j:Nat) (site:List ARat) (r:PV),j<p.length→site.length≤20→linkworkref31_bernstein.Loop3 (p.map mkR) p.length (site++[mkR (berS (subL p lo w) ((p.length:Int)-1) j (j+1))]) (j+1) ((tabL p.length (coef (subL p lo w))).map mkR) r →
   ∀d t:Nat,j+1-t=d→t≤j+1→linkworkref31_bernstein.Loop4 (p.map mkR) p.length site j j (j+1) t (mkR (berS (subL p lo w) ((p.length:Int)-1) j t)) ((tabL p.length (coef (subL p lo w))).map mkR) r:=by
  intro j site r hj hs hL d
  induction d with
  |zero =>
   intro t hd1 ht1
   have:t=j+1:=by omega
   subst this
   exact linkworkref31_bernstein.l41 _ _ site j j _ _ _ _ (by omega) (by rw[List.length_append,List.length_singleton];omega) (by omega) hL
  |succ d ih =>
   intro t hd1 ht1
   have c1:=choose j t (by omega) (by omega)
   have c2:=choose (p.length-1) t (by omega) (by omega)
   rw[show ((p.length-1:Nat):Int)=((p.map mkR).length:Int)-1 from by rw[lenM];omega] at c2
   have b1:=ht_choQ (n:=(j:Int)) (by omega) t (by omega)
   have b2:=ht_choQ (n:=(p.length:Int)-1) (by omega) t (by omega)
   obtain⟨b3,b4⟩:=ht_term (q:=subL p lo w) (n:=(p.length:Int)-1) (H:=110000) (by omega) hq j t (by omega) (by omega)
   have b5:=ht_berS (q:=subL p lo w) (n:=(p.length:Int)-1) (H:=110000) (by omega) hq j (by omega) t (by omega)
   have b6:t*(110000+271)≤65*(110000+271):=Nat.mul_le_mul_right _ (by omega)
   have b7:=hq t
   have hpos:=choQ_pos (n:=(p.length:Int)-1) t (by omega)
   have hdv:=QR.Div (choQ (j:Int) t) (choQ ((p.length:Int)-1) t) (by omega) (by omega) (by grind)
   have hml:=QR.Mul (choQ (j:Int) t/choQ ((p.length:Int)-1) t) (coef (subL p lo w) t) (by omega) (by omega)
   have had:=QR.Add (berS (subL p lo w) ((p.length:Int)-1) j t) _ (by omega) (Nat.le_trans b4 (by omega))
   have c2':Contract prg 163 [vI (((p.map mkR).length:Int)-1),vI (t:Int)] (mkR (choQ ((p.length:Int)-1) t)).pv:=by rw[lenM] at c2 ⊢;exact c2
   exact linkworkref31_bernstein.l40 _ _ site j j _ t _ _ _ _ _ _ _ _ _ (by omega) c1 c2' hdv (by omega) (getM (tabL_get _ (by omega))) hml had (by omega) (ih (t+1) (by omega) (by omega))
 have outer:∀d j:Nat,p.length-j=d→j≤p.length→linkworkref31_bernstein.Loop3 (p.map mkR) p.length ((tabL j (fun j=>berS (subL p lo w) ((p.length:Int)-1) j (j+1))).map mkR) j ((tabL p.length (coef (subL p lo w))).map mkR) (pq (bernQ p lo w)):=by
  intro d
  induction d with
  |zero =>
   intro j hd1 hj
   have:j=p.length:=by omega
   subst this
   exact linkworkref31_bernstein.l31 _ _ _ _ _ (by rw[lenM];omega)
  |succ d ih =>
   intro j hd1 hj
   have:=ih (j+1) (by omega) (by omega)
   rw[tabL_succ,List.map_append] at this
   exact linkworkref31_bernstein.l30 _ _ _ j _ (by rw[lenM];omega) (by omega) (inner j _ _ (by omega) (by rw[lenM,tabL_len];omega) this _ 0 rfl (by omega))
 have first:∀d k:Nat,p.length-k=d→k≤p.length→linkworkref31_bernstein.Loop1 (p.map mkR) p.length (k+1) k (mkG lo hi) (mkR w) ((tabL p.length (ccQ p lo w k)).map mkR) ((tabL (k+1) (lnQ lo w k)).map mkR) (pq (bernQ p lo w)):=by
  intro d
  induction d with
  |zero =>
   intro k hd1 hk
   have:k=p.length:=by omega
   subst this
   refine linkworkref31_bernstein.l11 _ _ _ _ _ _ _ _ (by rw[lenM];omega) (by rw[lenM];unfold InI64;omega) ?_
   rw[tabL_congr (g:=coef (subL p lo w)) (fun i _=>ccQ_sub p lo w i)]
   exact outer _ 0 rfl (by omega)
  |succ d ih =>
   intro k hd1 hk
   refine linkworkref31_bernstein.l10 _ _ _ k _ _ _ _ _ (by rw[lenM];omega) (getM (coef_get (by omega))) ?_
   have:=power k _ (by omega) (ih (k+1) (by omega) (by omega)) _ 0 rfl (by omega)
   rw[tabL_congr (g:=ccQ p lo w k) (fun i hi=>by
    show _+(if i<0 then _ else _)=_
    rw[if_neg (by omega),Rat.add_zero])] at this
   exact this
 have start:=first _ 0 rfl (by omega)
 rw[show ccQ p lo w 0=fun _=>(0:Rat) from rfl,←tabL_zero] at start
 have hof:=CRb.Of 1 (by unfold InI64;omega)
 exact linkworkref31_bernstein.e0 _ (mkG lo hi) p.length _ _ (by rw[lenM];unfold InI64;omega) (by rw[lenM];unfold InI64;omega) (by rw[lenM];omega) (by omega) hof hwid start
theorem clear{p:List Rat}{lo hi:Rat}(pc:Piece p lo hi):Contract prg 100 [pq p,(mkG lo hi).pv] (vB (clearB (bernQ p lo (hi-lo)))):=by
 have hb:=bernstein pc
 have hf:=fl_bern pc
 have hl:=bern_len p lo (hi-lo)
 have hpl:=pc.len
 generalize bernQ p lo (hi-lo)=b at hb hf hl
 by_cases h0:b.length=0
 ·have:b=[]:=List.eq_nil_of_length_eq_zero h0
  subst this
  exact linkworkref31_clear.e0 _ _ _ hb (linkworkref31_clear.l14 _ 0 (Nat.le_refl _) (Nat.le_refl _))
 have ht:∀i,ht (coef b i)≤1000000:=fun i=>fl_coef hf (by omega) i
 have loop:∀d t:Nat,b.length-t=d→t≤b.length→linkworkref31_clear.Loop1 (b.map mkR) t (vB ((b.drop t).all (fun x=>decide (0≤x))&&(decide (0<coef b 0)&&decide (0<coef b (b.length-1))))):=by
  intro d
  induction d with
  |zero =>
   intro t hd1 ht1
   rw[List.drop_of_length_le (by omega),List.all_nil,Bool.true_and]
   have s1:=QR.Sign (coef b 0) (Nat.le_trans (ht 0) (by omega))
   have s2:=QR.Sign (coef b (b.length-1)) (Nat.le_trans (ht _) (by omega))
   by_cases hp:0<coef b 0
   ·rw[decide_eq_true hp,Bool.true_and]
    have:=linkworkref31_clear.l12 (b.map mkR) t _ _ (b.length-1) _ _ (by rw[lenM];omega) (by rw[lenM];omega) (getM (coef_get (by omega))) s1 (cmpR_gt.2 hp) (by rw[lenM];unfold InI64;omega) (by rw[lenM];omega) (getM (coef_get (by omega))) s2
    rwa[show decide (cmpR (coef b (b.length-1)) 0>0)=decide (0<coef b (b.length-1)) from by congr 1;exact propext cmpR_gt] at this
   ·rw[decide_eq_false hp,Bool.false_and]
    exact linkworkref31_clear.l13 (b.map mkR) t _ _ (by rw[lenM];omega) (by rw[lenM];omega) (getM (coef_get (by omega))) s1 (cmpR_le.2 (by grind))
  |succ d ih =>
   intro t hd1 ht1
   have hg:=coef_get (p:=b) (i:=t) (by omega)
   have s1:=QR.Sign (coef b t) (Nat.le_trans (ht t) (by omega))
   rw[drop_cons hg,List.all_cons]
   by_cases hp:0≤coef b t
   ·rw[decide_eq_true hp,Bool.true_and]
    exact linkworkref31_clear.l11 (b.map mkR) t _ _ (by rw[lenM];omega) (getM hg) s1 (cmpR_ge.2 hp) (by omega) (ih (t+1) (by omega) (by omega))
   ·rw[decide_eq_false hp,Bool.false_and,Bool.false_and]
    exact linkworkref31_clear.l10 (b.map mkR) t _ _ (by rw[lenM];omega) (getM hg) s1 (cmpR_lt.2 (by grind))
 have:=linkworkref31_clear.e0 _ _ _ hb (loop _ 0 rfl (by omega))
 rwa[List.drop_zero] at this
theorem Error(p:List ARat)(r:ARange)(hp:FitP 274877906944 p)(hr:FitG 68719476736 r):Contract prg 80 [polyPV p,r.pv] (vI (err31 p r)):=by
 have hk:=CRe.Check p hp
 have hv:=CJv.Valid r hr
 unfold err31
 by_cases h:chk p=0
 ·rw[if_pos h]
  by_cases h0:r.ok=true
  ·rw[if_pos h0];exact linkworkref31_Error.e2 p r _ _ hk h hv h0
  ·rw[if_neg h0];exact linkworkref31_Error.e1 p r _ _ hk h hv (by simpa using h0)
 ·rw[if_neg h];exact linkworkref31_Error.e0 p r _ hk h
theorem AtQ(p:List Rat)(x:Rat)(hl:p.length≤65){k:Nat}(hf:Fl k p)(hx:ht x≤k)(hk:k≤1073741824):Contract prg 164 [pq p,(mkR x).pv] (mkR (evalL p x)).pv:=by
 have:=CRe.At (p.map mkR) (mkR x) (by rw[lenM];exact hl) (fit_mapk (fl_mono hf hk)) (fit_mkRk (Nat.le_trans hx hk))
 rwa[vals_mkR,mkR_val] at this
theorem decide'{h L:Nat}{p:List Rat}(f:p=[]∨Fine h L p){lo hi:Rat}{k:Nat}(hf:Fl k p)(hk:k≤1048576)(hk1:1≤k)(hlh:lo≤hi)(h1:ht lo≤k)(h2:ht hi≤k):Contract prg 82 [pq p,(mkG lo hi).pv] (vB (posR p lo hi)):=by
 have hl:p.length≤10:=by
  rcases f with rfl|f
  ·simp
  ·have:=f.len;have:=f.hL;omega
 unfold posR
 rcases f with rfl|f
 ·rw[decide_eq_false (show ¬0<evalL [] lo from Rat.lt_irrefl),Bool.false_and]
  exact linkworkref31_decide.e0 _ (mkG lo hi) rfl
 ·have hne:=List.length_pos_iff.2 f.ne
  have he:=AtQ p lo (by omega) hf h1 (by omega)
  have hv:=ht_eval p lo k hf h1
  have h4:p.length*(2*k+1)≤10*(2*k+1):=Nat.mul_le_mul_right _ hl
  have hs:=QR.Sign (evalL p lo) (by omega)
  by_cases h0:0<evalL p lo
  ·rw[decide_eq_true h0,Bool.true_and]
   exact linkworkref31_decide.e2 _ (mkG lo hi) _ _ _ _ (by rw[lenM];omega) he hs (cmpR_gt.2 h0) (CSr.Count f lo hi hlh (by omega) (by omega))
  ·rw[decide_eq_false h0,Bool.false_and]
   exact linkworkref31_decide.e1 _ (mkG lo hi) _ _ (by rw[lenM];omega) he hs (cmpR_le.2 (by grind))
end CPt
end Go.Proofs.YtbgkjomonebfcaaGreat.Sym










namespace Go.Proofs.YtbgkjomonebfcaaGreat.Sym
open Go Path CInt
set_option linter.unusedVariables false
namespace CCa
theorem ScaleQ{a d:Nat}(p:List Rat)(c:Rat)(zp:lastZ p=false)(lp:p.length≤65)(hp:Fl a p)(hc:ht c≤d)(ha:1≤a)(hk:a+d+2≤68719476736):Contract prg 72 [pq p,(mkR c).pv] (.tup [pq (trimL (smulL c p)),.nilI]):=by
 have hck:=CPo.Check (p.map mkR) (fitQ hp (by omega))
 rw[chk_map zp lp] at hck
 exact poly_Scale.e0 _ _ _ hck (CPl.plus (a:=1) (d:=d) [] p c (by simp) (by omega) (fun x hx=>by cases hx) hp hc (by omega) ha (by omega))
end CCa
end Go.Proofs.YtbgkjomonebfcaaGreat.Sym
namespace Go.Proofs.YtbgkjomonebfcaaGreat.Sym.Path
open Go
set_option maxRecDepth 20000
set_option linter.unusedVariables false
namespace linkworklaw31_PositiveMakes
theorem e0(p:List ARat)(rV:ARange)(depth:Int)(sho awa:Bool)(h1:Contract prg 15 [(lpv (lcell ARat.cells) [p])] (vB sho))(h2:sho=false)(h3:Contract prg 17 [] (vB awa)):Contract prg 7 [(polyPV p),rV.pv,(vI depth)] (vB awa) :=
 Contract.ofL Tryz.func7 (by kernel_rfl) (L.done mixed tabOk (n:=84) (ns:=[3,1,1,1,1,1,1,1,1,1,1,1,1]) (tr:=[.reg [],.reg [.none,(.slc 0 0 (([p]:List (List ARat)).map (lcell ARat.cells))),(.pv (vB sho)),.none,.none,.skip,.skip,.skip,(.dec true),.none,.skip,.skip,.skip,.skip,.skip,.skip,.none,.none,.skip,.skip],.auto,.reg [(.pv (vB awa))]]) (cj (o_bs (sz_l ARat.cells) ([p]:List (List ARat))) (cj h1 (cj (bnot_t h2) (cj (bnot_t h2) (cj (bnot_t h2) (cj (bnot_t h2) (cj (Eq.refl true) (cj (Eq.refl true) (cj (Eq.refl true) (cj (Eq.refl true) (cj (Eq.refl true) (cj (Eq.refl true) (cj h3 True.intro))))))))))))) (by kernel_rfl))
theorem e1(p:List ARat)(rV:ARange)(depth:Int)(sho bri awa:Bool)(h1:Contract prg 15 [(lpv (lcell ARat.cells) [p])] (vB sho))(h2:sho=true)(h3:Contract prg 16 [rV.pv] (vB bri))(h4:bri=false)(h5:Contract prg 17 [] (vB awa)):Contract prg 7 [(polyPV p),rV.pv,(vI depth)] (vB awa) :=
 Contract.ofL Tryz.func7 (by kernel_rfl) (L.done mixed tabOk (n:=84) (ns:=[3,1,1,1,1,1,1,1,1,1,1,1,1,1,1]) (tr:=[.reg [],.reg [.none,(.slc 0 0 (([p]:List (List ARat)).map (lcell ARat.cells))),(.pv (vB sho)),.none,.none,.none,(.pv (vB bri)),.none,(.dec false),.none,.skip,.skip,.skip,.skip,.skip,.skip,(.dec true),.none,.skip,.skip],.auto,.reg [(.pv (vB awa))]]) (cj (o_bs (sz_l ARat.cells) ([p]:List (List ARat))) (cj h1 (cj (bnot_f h2) (cj (bnot_f h2) (cj h3 (cj (bnot_f h2) (cj (bnot_f h2) (cj (bnot_t h4) (cj (bnot_t h4) (cj (bnot_t h4) (cj (bnot_t h4) (cj (bnot_t h4) (cj (Eq.refl true) (cj (Eq.refl true) (cj h5 True.intro))))))))))))))) (by kernel_rfl))
theorem e2(p:List ARat)(rV:ARange)(depth:Int)(sho bri awa:Bool)(h1:Contract prg 15 [(lpv (lcell ARat.cells) [p])] (vB sho))(h2:sho=true)(h3:Contract prg 16 [rV.pv] (vB bri))(h4:bri=true)(h5:5<depth)(h6:depth≤8)(h7:Contract prg 17 [] (vB awa)):Contract prg 7 [(polyPV p),rV.pv,(vI depth)] (vB awa) :=
 Contract.ofL Tryz.func7 (by kernel_rfl) (L.done mixed tabOk (n:=84) (ns:=[3,1,1,1,1,1,1,1,1,1,1,1,1,1,1,1,1,1,1]) (tr:=[.reg [],.reg [.none,(.slc 0 0 (([p]:List (List ARat)).map (lcell ARat.cells))),(.pv (vB sho)),.none,.none,.none,(.pv (vB bri)),.none,(.dec false),.none,.none,.none,.none,.none,.none,(.dec true),(.dec false),.none,.skip,.skip,(.dec true)],.auto,.reg [(.pv (vB awa))]]) (cj (o_bs (sz_l ARat.cells) ([p]:List (List ARat))) (cj h1 (cj (bnot_f h2) (cj (bnot_f h2) (cj h3 (cj (bnot_f h2) (cj (bnot_f h2) (cj (bnot_f h4) (cj (bnot_f h4) (cj (bnot_f h4) (cj (dlt_t h5) (cj (dlt_t h5) (cj (bnot_f h4) (cj (dlt_t h5) (cj (bnot_f h4) (cj (dle_t h6) (cj (dle_t h6) (cj (dle_t h6) (cj h7 True.intro))))))))))))))))))) (by kernel_rfl))
theorem e4(p:List ARat)(rV:ARange)(depth:Int)(sho bri awa:Bool)(mak:APosCert)(mak1:Option Int)(mak2:APosCert)(mak3 num:Int)(rat:Bool)(h1:Contract prg 15 [(lpv (lcell ARat.cells) [p])] (vB sho))(h2:sho=true)(h3:Contract prg 16 [rV.pv] (vB bri))(h4:bri=true)(h5:5<depth)(h6:8<depth)(h7:Contract prg 17 [] (vB awa))(h8:awa=true)(h9:Contract prg 37 [(polyPV p),rV.pv,(vI depth)] (.tup [mak.pv,(errPV mak1)]))(h10:Contract prg 38 [(polyPV p),rV.pv,(vI depth)] (.tup [mak2.pv,(vI mak3)]))(h11:Contract prg 24 [(errPV mak1)] (vI num))(h12:num=mak3)(h13:Contract prg 25 [(polyPV mak.cuts),(polyPV mak2.cuts)] (vB rat))(h14:rat=true)(h15:mak3≠0):Contract prg 7 [(polyPV p),rV.pv,(vI depth)] (vB true) :=
 Contract.ofL Tryz.func7 (by kernel_rfl) (L.done mixed tabOk (n:=126) (ns:=[3,1,1,1,1,1,1,1,1,1,1,1,1,1,1,1,1,1,1,1,1,1,1,1,1,1,1,1,1,1,1,1,1]) (tr:=[.reg [],.reg [.none,(.slc 0 0 (([p]:List (List ARat)).map (lcell ARat.cells))),(.pv (vB sho)),.none,.none,.none,(.pv (vB bri)),.none,(.dec false),.none,.none,.none,.none,.none,.none,(.dec true),(.dec false),.none,(.pv (vB awa)),.none,(.dec false)],.dec false,.reg [.none,.none,.none,(.pv (.tup [mak.pv,(errPV mak1)]))],.reg [.none,.none,.none,(.pv (.tup [mak2.pv,(vI mak3)]))],.reg [.none,(.pv (vI num)),.none,.none,.none,.none,.none,.none,.none,(.pv (vB rat)),.none,(.dec false)],.dec false,.reg [],.dec true,.reg []]) (cj (o_bs (sz_l ARat.cells) ([p]:List (List ARat))) (cj h1 (cj (bnot_f h2) (cj (bnot_f h2) (cj h3 (cj (bnot_f h2) (cj (bnot_f h2) (cj (bnot_f h4) (cj (bnot_f h4) (cj (bnot_f h4) (cj (dlt_t h5) (cj (dlt_t h5) (cj (bnot_f h4) (cj (dlt_t h5) (cj (bnot_f h4) (cj (dle_f h6) (cj h7 (cj (dle_f h6) (cj (dle_f h6) (cj (bnot_f h8) (cj h9 (cj h10 (cj h11 (cj (dne_f h12) (cj (dne_f h12) (cj (dne_f h12) (cj (dne_f h12) (cj (dne_f h12) (cj h13 (cj (dne_f h12) (cj (dne_f h12) (cj (bnot_f h14) (cj (dne_t h15) True.intro))))))))))))))))))))))))))))))))) (by kernel_rfl))
theorem e7(p:List ARat)(rV:ARange)(depth:Int)(sho bri awa:Bool)(mak:APosCert)(mak1:Option Int)(mak2:APosCert)(mak3 num:Int)(rat:Bool)(h1:Contract prg 15 [(lpv (lcell ARat.cells) [p])] (vB sho))(h2:sho=true)(h3:Contract prg 16 [rV.pv] (vB bri))(h4:bri=true)(h5:depth≤5)(h6:Contract prg 17 [] (vB awa))(h7:awa=true)(h8:Contract prg 37 [(polyPV p),rV.pv,(vI depth)] (.tup [mak.pv,(errPV mak1)]))(h9:Contract prg 38 [(polyPV p),rV.pv,(vI depth)] (.tup [mak2.pv,(vI mak3)]))(h10:Contract prg 24 [(errPV mak1)] (vI num))(h11:num=mak3)(h12:Contract prg 25 [(polyPV mak.cuts),(polyPV mak2.cuts)] (vB rat))(h13:rat=true)(h14:mak3≠0):Contract prg 7 [(polyPV p),rV.pv,(vI depth)] (vB true) :=
 Contract.ofL Tryz.func7 (by kernel_rfl) (L.done mixed tabOk (n:=126) (ns:=[3,1,1,1,1,1,1,1,1,1,1,1,1,1,1,1,1,1,1,1,1,1,1,1,1,1,1,1,1,1,1,1]) (tr:=[.reg [],.reg [.none,(.slc 0 0 (([p]:List (List ARat)).map (lcell ARat.cells))),(.pv (vB sho)),.none,.none,.none,(.pv (vB bri)),.none,(.dec false),.none,.none,.none,.none,.skip,.skip,(.dec false),(.dec false),.none,(.pv (vB awa))],.dec false,.reg [.none,.none,.none,(.pv (.tup [mak.pv,(errPV mak1)]))],.reg [.none,.none,.none,(.pv (.tup [mak2.pv,(vI mak3)]))],.reg [.none,(.pv (vI num)),.none,.none,.none,.none,.none,.none,.none,(.pv (vB rat)),.none,(.dec false)],.dec false,.reg [],.dec true,.reg []]) (cj (o_bs (sz_l ARat.cells) ([p]:List (List ARat))) (cj h1 (cj (bnot_f h2) (cj (bnot_f h2) (cj h3 (cj (bnot_f h2) (cj (bnot_f h2) (cj (bnot_f h4) (cj (bnot_f h4) (cj (bnot_f h4) (cj (dlt_f h5) (cj (dlt_f h5) (cj (bnot_f h4) (cj (dlt_f h5) (cj (bnot_f h4) (cj (Eq.refl false) (cj h6 (cj (Eq.refl false) (cj (bnot_f h7) (cj h8 (cj h9 (cj h10 (cj (dne_f h11) (cj (dne_f h11) (cj (dne_f h11) (cj (dne_f h11) (cj (dne_f h11) (cj h12 (cj (dne_f h11) (cj (dne_f h11) (cj (bnot_f h13) (cj (dne_t h14) True.intro)))))))))))))))))))))))))))))))) (by kernel_rfl))
theorem e8(p:List ARat)(rV:ARange)(depth:Int)(sho bri awa:Bool)(mak:APosCert)(mak1:Option Int)(mak2:APosCert)(mak3 num:Int)(rat ver:Bool)(mak4:APosCert)(rat1:Bool)(h1:Contract prg 15 [(lpv (lcell ARat.cells) [p])] (vB sho))(h2:sho=true)(h3:Contract prg 16 [rV.pv] (vB bri))(h4:bri=true)(h5:depth≤5)(h6:Contract prg 17 [] (vB awa))(h7:awa=true)(h8:Contract prg 37 [(polyPV p),rV.pv,(vI depth)] (.tup [mak.pv,(errPV mak1)]))(h9:Contract prg 38 [(polyPV p),rV.pv,(vI depth)] (.tup [mak2.pv,(vI mak3)]))(h10:Contract prg 24 [(errPV mak1)] (vI num))(h11:num=mak3)(h12:Contract prg 25 [(polyPV mak.cuts),(polyPV mak2.cuts)] (vB rat))(h13:rat=true)(h14:mak3=0)(h15:Contract prg 35 [(polyPV p),rV.pv,mak.pv] (.tup [(vB ver),.nilI]))(h16:InI64 (depth+1))(h17:Contract prg 37 [(polyPV p),rV.pv,(vI (depth+1))] (.tup [mak4.pv,.nilI]))(h18:ver=true)(h19:Contract prg 25 [(polyPV mak.cuts),(polyPV mak4.cuts)] (vB rat1)):Contract prg 7 [(polyPV p),rV.pv,(vI depth)] (vB rat1) :=
 Contract.ofL Tryz.func7 (by kernel_rfl) (L.done mixed tabOk (n:=141) (ns:=[3,1,1,1,1,1,1,1,1,1,1,1,1,1,1,1,1,1,1,1,1,1,1,1,1,1,1,1,1,1,1,1,1,1,1,1,1,1,1,1,1,1,1,1,1]) (tr:=[.reg [],.reg [.none,(.slc 0 0 (([p]:List (List ARat)).map (lcell ARat.cells))),(.pv (vB sho)),.none,.none,.none,(.pv (vB bri)),.none,(.dec false),.none,.none,.none,.none,.skip,.skip,(.dec false),(.dec false),.none,(.pv (vB awa))],.dec false,.reg [.none,.none,.none,(.pv (.tup [mak.pv,(errPV mak1)]))],.reg [.none,.none,.none,(.pv (.tup [mak2.pv,(vI mak3)]))],.reg [.none,(.pv (vI num)),.none,.none,.none,.none,.none,.none,.none,(.pv (vB rat)),.none,(.dec false)],.dec false,.reg [],.dec false,.reg [.none,.none,.none,(.pv (.tup [(vB ver),.nilI]))],.reg [.none,.none,.none,(iI (depth+1)),(.pv (.tup [mak4.pv,.nilI]))],.reg [.none,.none,.none,.none,.none,.none,.none,.none,.none,.none,.none,.none,.none,.none,(.pv (vB rat1)),(.dec true)]]) (cj (o_bs (sz_l ARat.cells) ([p]:List (List ARat))) (cj h1 (cj (bnot_f h2) (cj (bnot_f h2) (cj h3 (cj (bnot_f h2) (cj (bnot_f h2) (cj (bnot_f h4) (cj (bnot_f h4) (cj (bnot_f h4) (cj (dlt_f h5) (cj (dlt_f h5) (cj (bnot_f h4) (cj (dlt_f h5) (cj (bnot_f h4) (cj (Eq.refl false) (cj h6 (cj (Eq.refl false) (cj (bnot_f h7) (cj h8 (cj h9 (cj h10 (cj (dne_f h11) (cj (dne_f h11) (cj (dne_f h11) (cj (dne_f h11) (cj (dne_f h11) (cj h12 (cj (dne_f h11) (cj (dne_f h11) (cj (bnot_f h13) (cj (dne_f h14) (cj h15 (cj (bs_add h16) (cj h17 (cj (Eq.refl true) (cj (Eq.refl true) (cj (Eq.refl true) (cj h18 (cj h18 (cj h18 (cj h18 (cj h18 (cj h19 (cj h18 True.intro))))))))))))))))))))))))))))))))))))))))))))) (by kernel_rfl))
end linkworklaw31_PositiveMakes
namespace linkworklaw31_short
@[reducible] noncomputable def fn:Func:=Tryz.f15
noncomputable def atK1:List Itm:=focus [0,2,0,0,2,0,0] [.code (bodyOf fn)]
def inv1(l:List (List ARat))(t_9:Nat):St:=⟨[(7,(.pv (lpv (lcell ARat.cells) l))),(8,(eI (l.length:Int))),(9,(eI (t_9:Int)))],[]⟩
@[reducible] noncomputable def Loop1(l:List (List ARat))(t_9:Nat)(r:PV):Prop:=L prg fn atK1 (inv1 l t_9) r
noncomputable def atK2:List Itm:=focus [0,2,0,0,2,0,0,0,0,2,0,0,2,0,0,0,2,0,0,2,1,2,0,2,0,0] [.code (bodyOf fn)]
def inv2(l:List (List ARat))(t_9:Nat)(v:List ARat)(t_18:Nat):St:=⟨[(7,(.pv (lpv (lcell ARat.cells) l))),(8,(eI (l.length:Int))),(9,(eI (t_9:Int))),(16,(.pv (polyPV v))),(17,(eI (v.length:Int))),(18,(eI (t_18:Int)))],[]⟩
@[reducible] noncomputable def Loop2(l:List (List ARat))(t_9:Nat)(v:List ARat)(t_18:Nat)(r:PV):Prop:=L prg fn atK2 (inv2 l t_9 v t_18) r
theorem e0 (l : List (List ARat)) {r : PV}  (hL : Loop1 l 0 r) : Contract prg 15 [(lpv (lcell ARat.cells) l)] r :=
 Contract.ofL Tryz.func15 (by kernel_rfl) (L.go mixed tabOk (n:=81) (ns:=[1]) (tr:=[.reg [],.reg [.none,(iI (l.length:Int))],.keep [7,8,9]]) (cj (o_len (lcell ARat.cells) l) True.intro) (by kernel_rfl) hL)
theorem l10(l:List (List ARat))(t_9:Nat)(v:List ARat)(h1:t_9<l.length)(h2:l[t_9]? = some v)(h3:6<v.length):Loop1 l t_9 (vB false) :=
 L.done mixed tabOk (n:=129) (ns:=[1,3,1,1]) (tr:=[.auto,.reg [],.dec true,.reg [(.row t_9 ((lcell ARat.cells) v))],.reg [.none,(iI (v.length:Int))],.dec true,.reg []]) (cj (dltN_t h1) (cj (o_at (lcell ARat.cells) (Eq.refl (((t_9:Nat):Int):Int)) h2) (cj (o_len ARat.cells v) (cj (dltN_t h3) True.intro)))) (by kernel_rfl)
theorem l11(l:List (List ARat))(t_9:Nat)(v:List ARat){r:PV}(h1:t_9<l.length)(h2:l[t_9]? = some v)(h3:v.length≤6)(hL:Loop2 l t_9 v 0 r):Loop1 l t_9 r :=
 L.go mixed tabOk (n:=138) (ns:=[1,3,1,1,1]) (tr:=[.auto,.reg [],.dec true,.reg [(.row t_9 ((lcell ARat.cells) v))],.reg [.none,(iI (v.length:Int))],.dec false,.reg [.none,(iI (v.length:Int))],.keep [7,8,9,16,17,18]]) (cj (dltN_t h1) (cj (o_at (lcell ARat.cells) (Eq.refl (((t_9:Nat):Int):Int)) h2) (cj (o_len ARat.cells v) (cj (dltN_f h3) (cj (o_len ARat.cells v) True.intro))))) (by kernel_rfl) hL
theorem l12(l:List (List ARat))(t_9:Nat)(h1:l.length≤t_9):Loop1 l t_9 (vB true) :=
 L.done mixed tabOk (n:=114) (ns:=[1]) (tr:=[.auto,.reg [],.dec false,.reg []]) (cj (dltN_f h1) True.intro) (by kernel_rfl)
theorem l20(l:List (List ARat))(t_9:Nat)(v:List ARat)(t_18:Nat)(v1:ARat)(low:Bool)(h1:t_18<v.length)(h2:v[t_18]? = some v1)(h3:Contract prg 69 [v1.pv,(vW (1000:UInt32)),(vW (1000:UInt32))] (vB low))(h4:low=false):Loop2 l t_9 v t_18 (vB false) :=
 L.done mixed tabOk (n:=183) (ns:=[1,3,1,1]) (tr:=[.auto,.reg [],.dec true,.reg [(.row t_18 (ARat.cells v1))],.reg [.none,(.pv (vB low))],.dec true,.reg []]) (cj (dltN_t h1) (cj (o_at ARat.cells (Eq.refl (((t_18:Nat):Int):Int)) h2) (cj h3 (cj (bnot_t h4) True.intro)))) (by kernel_rfl)
theorem l21(l:List (List ARat))(t_9:Nat)(v:List ARat)(t_18:Nat)(v1:ARat)(low:Bool){r:PV}(h1:t_18<v.length)(h2:v[t_18]? = some v1)(h3:Contract prg 69 [v1.pv,(vW (1000:UInt32)),(vW (1000:UInt32))] (vB low))(h4:low=true)(h5:(t_18+1)<9223372036854775808)(hL:Loop2 l t_9 v (t_18+1) r):Loop2 l t_9 v t_18 r :=
 L.go mixed tabOk (n:=186) (ns:=[1,3,1,1,1]) (tr:=[.auto,.reg [],.dec true,.reg [(.row t_18 (ARat.cells v1))],.reg [.none,(.pv (vB low))],.dec false,.reg [(iI (((t_18+1):Nat):Int))],.keep [7,8,9,16,17,18],.drop [6]]) (cj (dltN_t h1) (cj (o_at ARat.cells (Eq.refl (((t_18:Nat):Int):Int)) h2) (cj h3 (cj (bnot_f h4) (cj (bs_addN h5) True.intro))))) (by kernel_rfl) hL
theorem l22(l:List (List ARat))(t_9:Nat)(v:List ARat)(t_18:Nat){r:PV}(h1:v.length≤t_18)(h2:(t_9+1)<9223372036854775808)(hL:Loop1 l (t_9+1) r):Loop2 l t_9 v t_18 r :=
 L.go mixed tabOk (n:=171) (ns:=[1,1]) (tr:=[.auto,.reg [],.dec false,.reg [(iI (((t_9+1):Nat):Int))],.keep [7,8,9]]) (cj (dltN_f h1) (cj (bs_addN h2) True.intro)) (by kernel_rfl) hL
end linkworklaw31_short
namespace linkworklaw31_brief
theorem e0(rV:ARange)(sho:Bool)(h1:Contract prg 15 [(lpv (lcell ARat.cells) [[rV.lo,rV.hi]])] (vB sho)):Contract prg 16 [rV.pv] (vB sho) :=
 Contract.ofL Tryz.func16 (by kernel_rfl) (L.done mixed tabOk (n:=72) (ns:=[3,3,1]) (tr:=[.reg [],.reg [.none,.none,.none,.none,(.slc 0 0 (([rV.lo,rV.hi]:List ARat).map ARat.cells)),(.slc 0 0 (([[rV.lo,rV.hi]]:List (List ARat)).map (lcell ARat.cells))),(.pv (vB sho))]]) (cj (o_bs sz_ARat ([rV.lo,rV.hi]:List ARat)) (cj (o_bs (sz_l ARat.cells) ([[rV.lo,rV.hi]]:List (List ARat))) (cj h1 True.intro))) (by kernel_rfl))
end linkworklaw31_brief
namespace linkworklaw31_awake
theorem e0(of:ARat)(of1 ber of2:List ARat)(of3:ARat)(sca:List ARat)(mak:APosCert)(eve:Bool)(of4:List ARat)(dec:Bool)(of5:List ARat)(sam:Bool)(of6:List ARat)(sam1:Bool)(h1:Contract prg 70 [(vI 2)] of.pv)(h2:Contract prg 71 [(lpv intCell [2,(-2),1])] (polyPV of1))(h3:Contract prg 18 [(polyPV of1),(⟨(⟨false,[],[]⟩:ARat),of⟩:ARange).pv] (.tup [(polyPV ber),.nilI]))(h4:Contract prg 71 [(lpv intCell [5,(-8),4])] (polyPV of2))(h5:Contract prg 73 [(vI 1)] of3.pv)(h6:Contract prg 72 [(polyPV of2),of3.pv] (.tup [(polyPV sca),.nilI]))(h7:Contract prg 37 [(polyPV sca),(⟨(⟨false,[],[]⟩:ARat),of⟩:ARange).pv,(vI 3)] (.tup [mak.pv,.nilI]))(h8:Contract prg 20 [(polyPV sca)] (.tup [(vB eve),.nilI]))(h9:Contract prg 71 [(lpv intCell [(-1),1])] (polyPV of4))(h10:Contract prg 19 [(polyPV of4),(⟨(⟨false,[],[]⟩:ARat),of⟩:ARange).pv] (.tup [(vB dec),.nilI]))(h11:Contract prg 71 [(lpv intCell [2,0,2])] (polyPV of5))(h12:Contract prg 74 [(polyPV ber),(polyPV of5)] (vB sam))(h13:sam=true)(h14:Contract prg 71 [(lpv intCell [1])] (polyPV of6))(h15:Contract prg 74 [(polyPV mak.cuts),(polyPV of6)] (vB sam1))(h16:sam1=true)(h17:eve=true):Contract prg 17 [] (vB (!dec)) :=
 Contract.ofL Tryz.func17 (by kernel_rfl) (L.done mixed tabOk (n:=108) (ns:=[1,3,1,1,3,1,1,1,1,1,3,1,1,1,1,1,1,1,1,1,1,1,1,3,1,1,1,1,1,1,1,3,1,1,1,1,1,1,1,1,1,1]) (tr:=[.reg [],.reg [(.pv of.pv)],dr 8 1 [(.slc 0 0 (([2,(-2),1]:List Int).map intCell)),(.pv (polyPV of1)),.none,(.pv (.tup [(polyPV ber),.nilI]))],.reg [(.slc 0 0 (([5,(-8),4]:List Int).map intCell)),(.pv (polyPV of2)),(.pv of3.pv),(.pv (.tup [(polyPV sca),.nilI]))],.reg [.none,.none,(.pv (.tup [mak.pv,.nilI]))],.reg [.none,(.pv (.tup [(vB eve),.nilI]))],dr 8 1 [(.slc 0 0 (([(-1),1]:List Int).map intCell)),(.pv (polyPV of4)),.none,(.pv (.tup [(vB dec),.nilI]))],dr 38 1 [.none,.none,.none,.none,.none,.none,.none,.none,.none,.none,.none,.none,.none,.none,.none,.none,.none,.none,.none,.none,(.slc 0 0 (([2,0,2]:List Int).map intCell)),(.pv (polyPV of5)),(.pv (vB sam)),.none,.none,.none,.none,(.slc 0 0 (([1]:List Int).map intCell)),(.pv (polyPV of6)),(.pv (vB sam1)),(.dec true),.none,.none,(.dec true),.none,.none,.none,(.dec true)]]) (cj h1 (cj (o_bs sz_int ([2,(-2),1]:List Int)) (cj h2 (cj h3 (cj (o_bs sz_int ([5,(-8),4]:List Int)) (cj h4 (cj h5 (cj h6 (cj h7 (cj h8 (cj (o_bs sz_int ([(-1),1]:List Int)) (cj h9 (cj h10 (cj (Eq.refl true) (cj (Eq.refl true) (cj (Eq.refl true) (cj (Eq.refl true) (cj (Eq.refl true) (cj (Eq.refl true) (cj (Eq.refl true) (cj (Eq.refl true) (cj (Eq.refl true) (cj (Eq.refl true) (cj (o_bs sz_int ([2,0,2]:List Int)) (cj (Eq.refl true) (cj h11 (cj (Eq.refl true) (cj h12 (cj h13 (cj h13 (cj h13 (cj (o_bs sz_int ([1]:List Int)) (cj h13 (cj h14 (cj h13 (cj h15 (cj h13 (cj h16 (cj h16 (cj h17 (cj h17 (cj h17 True.intro)))))))))))))))))))))))))))))))))))))))))) (by kernel_rfl))
end linkworklaw31_awake
namespace linkworklaw31_low
theorem e0(x:ARat)(num den:UInt32)(h1:x.num.length<2)(h2:x.den.length<2)(h3:x.num.length=0)(h4:x.den.length=0):Contract prg 69 [x.pv,(vW num),(vW den)] (vB true) :=
 Contract.ofL Tryz.func69 (by kernel_rfl) (L.done mixed tabOk (n:=72) (ns:=[1,1,1,1,1,1,1,1,1,1,1,1,1,1,1,1,1,1,1,1,1,1,1,1,1,1,1,1,1,1,1,1,1,1,1,1]) (tr:=[.reg [],.reg [.none,.none,(iI (x.num.length:Int)),.none,.none,.none,.none,(iI (x.den.length:Int)),.none,(.dec true),.none,.none,.none,(iI (x.num.length:Int)),.none,.none,.skip,.skip,.skip,.skip,.skip,.skip,(.dec true),(.dec true),.none,.none,.none,(iI (x.den.length:Int)),.none,.none,.skip,.skip,.skip,.skip,.skip,.skip,(.dec true)]]) (cj (o_len wordPV x.num) (cj (dltN_t h1) (cj (dltN_t h1) (cj (dltN_t h1) (cj (o_len wordPV x.den) (cj (dltN_t h1) (cj (dltN_t h1) (cj (dltN_t h2) (cj (dltN_t h2) (cj (dltN_t h2) (cj (o_len wordPV x.num) (cj (dltN_t h2) (cj (dltN_t h2) (cj (deqN_t h3) (cj (deqN_t h3) (cj (deqN_t h3) (cj (deqN_t h3) (cj (deqN_t h3) (cj (deqN_t h3) (cj (dltN_t h2) (cj (deqN_t h3) (cj (dltN_t h2) (cj (Eq.refl true) (cj (Eq.refl true) (cj (Eq.refl true) (cj (o_len wordPV x.den) (cj (Eq.refl true) (cj (Eq.refl true) (cj (deqN_t h4) (cj (deqN_t h4) (cj (deqN_t h4) (cj (deqN_t h4) (cj (deqN_t h4) (cj (deqN_t h4) (cj (Eq.refl true) (cj (deqN_t h4) True.intro)))))))))))))))))))))))))))))))))))) (by kernel_rfl))
theorem e1(x:ARat)(num den v:UInt32)(h1:x.num.length<2)(h2:x.den.length<2)(h3:x.num.length=0)(h4:x.den.length≠0)(h5:x.den[0]? = some v):Contract prg 69 [x.pv,(vW num),(vW den)] (vB (decide ((v.toNat:Int)≤(den.toNat:Int)))) :=
 Contract.ofL Tryz.func69 (by kernel_rfl) (L.done mixed tabOk (n:=72) (ns:=[1,1,1,1,1,1,1,1,1,1,1,1,1,1,1,1,1,1,1,1,1,1,1,1,1,1,1,1,1,1,1,3,1,1,1,1,1]) (tr:=[.reg [],.reg [.none,.none,(iI (x.num.length:Int)),.none,.none,.none,.none,(iI (x.den.length:Int)),.none,(.dec true),.none,.none,.none,(iI (x.num.length:Int)),.none,.none,.skip,.skip,.skip,.skip,.skip,.skip,(.dec true),(.dec true),.none,.none,.none,(iI (x.den.length:Int)),.none,.none,.none,.none,(.row 0 (wordPV v)),.none,.none,.none,(.dec false)]]) (cj (o_len wordPV x.num) (cj (dltN_t h1) (cj (dltN_t h1) (cj (dltN_t h1) (cj (o_len wordPV x.den) (cj (dltN_t h1) (cj (dltN_t h1) (cj (dltN_t h2) (cj (dltN_t h2) (cj (dltN_t h2) (cj (o_len wordPV x.num) (cj (dltN_t h2) (cj (dltN_t h2) (cj (deqN_t h3) (cj (deqN_t h3) (cj (deqN_t h3) (cj (deqN_t h3) (cj (deqN_t h3) (cj (deqN_t h3) (cj (dltN_t h2) (cj (deqN_t h3) (cj (dltN_t h2) (cj (Eq.refl true) (cj (Eq.refl true) (cj (Eq.refl true) (cj (o_len wordPV x.den) (cj (Eq.refl true) (cj (Eq.refl true) (cj (deqN_f h4) (cj (deqN_f h4) (cj (deqN_f h4) (cj (o_at wordPV (Eq.refl (0:Int)) h5) (cj (deqN_f h4) (cj (deqN_f h4) (cj (deqN_f h4) (cj (Eq.refl true) (cj (deqN_f h4) True.intro))))))))))))))))))))))))))))))))))))) (by kernel_rfl))
theorem e2(x:ARat)(num den v:UInt32)(h1:x.num.length<2)(h2:x.den.length<2)(h3:x.num.length≠0)(h4:x.num[0]? = some v)(h5:v.toNat≤num.toNat)(h6:x.den.length=0):Contract prg 69 [x.pv,(vW num),(vW den)] (vB true) :=
 Contract.ofL Tryz.func69 (by kernel_rfl) (L.done mixed tabOk (n:=72) (ns:=[1,1,1,1,1,1,1,1,1,1,1,1,1,1,1,1,3,1,1,1,1,1,1,1,1,1,1,1,1,1,1,1,1,1,1,1,1,1]) (tr:=[.reg [],.reg [.none,.none,(iI (x.num.length:Int)),.none,.none,.none,.none,(iI (x.den.length:Int)),.none,(.dec true),.none,.none,.none,(iI (x.num.length:Int)),.none,.none,.none,.none,(.row 0 (wordPV v)),.none,.none,.none,(.dec false),(.dec true),.none,.none,.none,(iI (x.den.length:Int)),.none,.none,.skip,.skip,.skip,.skip,.skip,.skip,(.dec true),(.dec true)]]) (cj (o_len wordPV x.num) (cj (dltN_t h1) (cj (dltN_t h1) (cj (dltN_t h1) (cj (o_len wordPV x.den) (cj (dltN_t h1) (cj (dltN_t h1) (cj (dltN_t h2) (cj (dltN_t h2) (cj (dltN_t h2) (cj (o_len wordPV x.num) (cj (dltN_t h2) (cj (dltN_t h2) (cj (deqN_f h3) (cj (deqN_f h3) (cj (deqN_f h3) (cj (o_at wordPV (Eq.refl (0:Int)) h4) (cj (deqN_f h3) (cj (deqN_f h3) (cj (deqN_f h3) (cj (dltN_t h2) (cj (deqN_f h3) (cj (dltN_t h2) (cj (dleN_t h5) (cj (dleN_t h5) (cj (dleN_t h5) (cj (o_len wordPV x.den) (cj (dleN_t h5) (cj (dleN_t h5) (cj (deqN_t h6) (cj (deqN_t h6) (cj (deqN_t h6) (cj (deqN_t h6) (cj (deqN_t h6) (cj (deqN_t h6) (cj (dleN_t h5) (cj (deqN_t h6) (cj (dleN_t h5) True.intro)))))))))))))))))))))))))))))))))))))) (by kernel_rfl))
theorem e3(x:ARat)(num den v v1:UInt32)(h1:x.num.length<2)(h2:x.den.length<2)(h3:x.num.length≠0)(h4:x.num[0]? = some v)(h5:v.toNat≤num.toNat)(h6:x.den.length≠0)(h7:x.den[0]? = some v1):Contract prg 69 [x.pv,(vW num),(vW den)] (vB (decide ((v1.toNat:Int)≤(den.toNat:Int)))) :=
 Contract.ofL Tryz.func69 (by kernel_rfl) (L.done mixed tabOk (n:=72) (ns:=[1,1,1,1,1,1,1,1,1,1,1,1,1,1,1,1,3,1,1,1,1,1,1,1,1,1,1,1,1,1,1,1,3,1,1,1,1,1,1]) (tr:=[.reg [],.reg [.none,.none,(iI (x.num.length:Int)),.none,.none,.none,.none,(iI (x.den.length:Int)),.none,(.dec true),.none,.none,.none,(iI (x.num.length:Int)),.none,.none,.none,.none,(.row 0 (wordPV v)),.none,.none,.none,(.dec false),(.dec true),.none,.none,.none,(iI (x.den.length:Int)),.none,.none,.none,.none,(.row 0 (wordPV v1)),.none,.none,.none,(.dec false),(.dec true)]]) (cj (o_len wordPV x.num) (cj (dltN_t h1) (cj (dltN_t h1) (cj (dltN_t h1) (cj (o_len wordPV x.den) (cj (dltN_t h1) (cj (dltN_t h1) (cj (dltN_t h2) (cj (dltN_t h2) (cj (dltN_t h2) (cj (o_len wordPV x.num) (cj (dltN_t h2) (cj (dltN_t h2) (cj (deqN_f h3) (cj (deqN_f h3) (cj (deqN_f h3) (cj (o_at wordPV (Eq.refl (0:Int)) h4) (cj (deqN_f h3) (cj (deqN_f h3) (cj (deqN_f h3) (cj (dltN_t h2) (cj (deqN_f h3) (cj (dltN_t h2) (cj (dleN_t h5) (cj (dleN_t h5) (cj (dleN_t h5) (cj (o_len wordPV x.den) (cj (dleN_t h5) (cj (dleN_t h5) (cj (deqN_f h6) (cj (deqN_f h6) (cj (deqN_f h6) (cj (o_at wordPV (Eq.refl (0:Int)) h7) (cj (deqN_f h6) (cj (deqN_f h6) (cj (deqN_f h6) (cj (dleN_t h5) (cj (deqN_f h6) (cj (dleN_t h5) True.intro))))))))))))))))))))))))))))))))))))))) (by kernel_rfl))
theorem e4(x:ARat)(num den v:UInt32)(h1:x.num.length<2)(h2:x.den.length<2)(h3:x.num.length≠0)(h4:x.num[0]? = some v)(h5:num.toNat<v.toNat):Contract prg 69 [x.pv,(vW num),(vW den)] (vB false) :=
 Contract.ofL Tryz.func69 (by kernel_rfl) (L.done mixed tabOk (n:=72) (ns:=[1,1,1,1,1,1,1,1,1,1,1,1,1,1,1,1,3,1,1,1,1,1,1,1,1,1,1,1,1,1]) (tr:=[.reg [],.reg [.none,.none,(iI (x.num.length:Int)),.none,.none,.none,.none,(iI (x.den.length:Int)),.none,(.dec true),.none,.none,.none,(iI (x.num.length:Int)),.none,.none,.none,.none,(.row 0 (wordPV v)),.none,.none,.none,(.dec false),(.dec true),.none,.skip,.skip,.skip,.skip,.skip,.skip,.skip,.skip,.skip,.skip,.skip,.skip,(.dec false)]]) (cj (o_len wordPV x.num) (cj (dltN_t h1) (cj (dltN_t h1) (cj (dltN_t h1) (cj (o_len wordPV x.den) (cj (dltN_t h1) (cj (dltN_t h1) (cj (dltN_t h2) (cj (dltN_t h2) (cj (dltN_t h2) (cj (o_len wordPV x.num) (cj (dltN_t h2) (cj (dltN_t h2) (cj (deqN_f h3) (cj (deqN_f h3) (cj (deqN_f h3) (cj (o_at wordPV (Eq.refl (0:Int)) h4) (cj (deqN_f h3) (cj (deqN_f h3) (cj (deqN_f h3) (cj (dltN_t h2) (cj (deqN_f h3) (cj (dltN_t h2) (cj (dleN_f h5) (cj (dleN_f h5) (cj (dleN_f h5) (cj (dleN_f h5) (cj (dleN_f h5) (cj (dleN_f h5) (cj (dleN_f h5) True.intro)))))))))))))))))))))))))))))) (by kernel_rfl))
theorem e5(x:ARat)(num den:UInt32)(h1:x.num.length<2)(h2:2≤x.den.length):Contract prg 69 [x.pv,(vW num),(vW den)] (vB false) :=
 Contract.ofL Tryz.func69 (by kernel_rfl) (L.done mixed tabOk (n:=72) (ns:=[1,1,1,1,1,1,1,1,1,1,1,1,1,1,1,1,1,1,1,1]) (tr:=[.reg [],.reg [.none,.none,(iI (x.num.length:Int)),.none,.none,.none,.none,(iI (x.den.length:Int)),.none,(.dec true),.none,.skip,.skip,.skip,.skip,.skip,.skip,.skip,.skip,.skip,.skip,.skip,.skip,(.dec false),.none,.skip,.skip,.skip,.skip,.skip,.skip,.skip,.skip,.skip,.skip,.skip,.skip]]) (cj (o_len wordPV x.num) (cj (dltN_t h1) (cj (dltN_t h1) (cj (dltN_t h1) (cj (o_len wordPV x.den) (cj (dltN_t h1) (cj (dltN_t h1) (cj (dltN_f h2) (cj (dltN_f h2) (cj (dltN_f h2) (cj (dltN_f h2) (cj (dltN_f h2) (cj (dltN_f h2) (cj (dltN_f h2) (cj (Eq.refl false) (cj (Eq.refl false) (cj (Eq.refl false) (cj (Eq.refl false) (cj (Eq.refl false) (cj (Eq.refl false) True.intro)))))))))))))))))))) (by kernel_rfl))
theorem e6(x:ARat)(num den:UInt32)(h1:2≤x.num.length):Contract prg 69 [x.pv,(vW num),(vW den)] (vB false) :=
 Contract.ofL Tryz.func69 (by kernel_rfl) (L.done mixed tabOk (n:=72) (ns:=[1,1,1,1,1,1,1,1,1,1,1,1,1,1,1,1,1,1]) (tr:=[.reg [],.reg [.none,.none,(iI (x.num.length:Int)),.none,.none,.skip,.skip,.skip,.skip,(.dec false),.none,.skip,.skip,.skip,.skip,.skip,.skip,.skip,.skip,.skip,.skip,.skip,.skip,.none,.none,.skip,.skip,.skip,.skip,.skip,.skip,.skip,.skip,.skip,.skip,.skip,.skip]]) (cj (o_len wordPV x.num) (cj (dltN_f h1) (cj (dltN_f h1) (cj (dltN_f h1) (cj (dltN_f h1) (cj (dltN_f h1) (cj (Eq.refl false) (cj (Eq.refl false) (cj (Eq.refl false) (cj (Eq.refl false) (cj (Eq.refl false) (cj (Eq.refl false) (cj (Eq.refl false) (cj (Eq.refl false) (cj (Eq.refl false) (cj (Eq.refl false) (cj (Eq.refl false) (cj (Eq.refl false) True.intro)))))))))))))))))) (by kernel_rfl))
end linkworklaw31_low
namespace linkworklaw31_of
@[reducible] noncomputable def fn:Func:=Tryz.f71
noncomputable def atK1:List Itm:=focus [0,2,0,2,0,0,2,0,0] [.code (bodyOf fn)]
def inv1(site_16:List ARat)(l:List Int)(t_8:Nat):St:=⟨[(3,(.row 16 0 site_16.length 3)),(6,(.pv (lpv intCell l))),(7,(eI (l.length:Int))),(8,(eI (t_8:Int)))],[(16,(.pure ((site_16:List ARat).map ARat.cells).flatten))]⟩
@[reducible] noncomputable def Loop1(site_16:List ARat)(l:List Int)(t_8:Nat)(r:PV):Prop:=L prg fn atK1 (inv1 site_16 l t_8) r
theorem e0 (l : List Int) {r : PV}  (hL : Loop1 [] l 0 r) : Contract prg 71 [(lpv intCell l)] r :=
 Contract.ofL Tryz.func71 (by kernel_rfl) (L.go mixed tabOk (n:=87) (ns:=[1]) (tr:=[.reg [],.reg [.nil],.adopt 3 16 3,.reg [.none,(iI (l.length:Int))],.keep [3,6,7,8]]) (cj (o_len intCell l) True.intro) (by kernel_rfl) hL)
theorem l10(site_16:List ARat)(l:List Int)(t_8:Nat)(v:Int)(of:ARat){r:PV}(h1:t_8<l.length)(h2:l[t_8]? = some v)(h3:Contract prg 70 [(vI v)] of.pv)(h4:((site_16++[of]):List ARat).length*56≤140737488355328)(h5:(t_8+1)<9223372036854775808)(hL:Loop1 (site_16++[of]) l (t_8+1) r):Loop1 site_16 l t_8 r :=
 L.go mixed tabOk (n:=126) (ns:=[1,3,1,6,1]) (tr:=[.auto,.reg [],.dec true,.reg [(.row t_8 (intCell v))],.reg [.none,.none,(.pv of.pv),.none,(.app ((site_16++[of]):List ARat).length (((site_16++[of]):List ARat).map ARat.cells).flatten)],.reg [(iI (((t_8+1):Nat):Int))],.keep [3,6,7,8],.drop [15]]) (cj (dltN_t h1) (cj (o_at intCell (Eq.refl (((t_8:Nat):Int):Int)) h2) (cj h3 (cj (o_appR sz_ARat (site_16:List ARat) ([of]:List ARat) 56 (Eq.refl (site_16:List ARat).length) (Eq.refl ([of]:List ARat).length) h4 rfl) (cj (bs_addN h5) True.intro))))) (by kernel_rfl) hL
theorem l11(site_16:List ARat)(l:List Int)(t_8:Nat)(h1:l.length≤t_8):Loop1 site_16 l t_8 (polyPV site_16) :=
 L.done mixed tabOk (n:=120) (ns:=[1,3]) (tr:=[.auto,.reg [],.dec false,.reg [],.frzT 2 ((site_16:List ARat).map ARat.cells)]) (cj (dltN_f h1) (cj (o_frz sz_ARat (site_16:List ARat) (Eq.refl (site_16:List ARat).length)) True.intro)) (by kernel_rfl)
end linkworklaw31_of
end Go.Proofs.YtbgkjomonebfcaaGreat.Sym.Path
namespace Go.Proofs.YtbgkjomonebfcaaGreat.Sym
open Go Path CInt
set_option linter.unusedVariables false
namespace C31
theorem of(l:List Int)(h:∀n∈l,InI64 n)(hl:l.length≤1000):Contract prg 71 [lpv intCell l] (pq (l.map (fun n=>((n:Int):Rat)))):=by
 have loop:∀d t:Nat,l.length-t=d→t≤l.length→linkworklaw31_of.Loop1 (((l.take t).map (fun n=>((n:Int):Rat))).map mkR) l t (pq (l.map (fun n=>((n:Int):Rat)))):=by
  intro d
  induction d with
  |zero =>
   intro t hd ht
   have:t=l.length:=by omega
   subst this
   rw[List.take_length]
   exact linkworklaw31_of.l11 _ _ _ (Nat.le_refl _)
  |succ d ih =>
   intro t hd ht
   obtain⟨v,hv⟩:∃v,l[t]? = some v:=⟨_,List.getElem?_eq_getElem (by omega)⟩
   have:=ih (t+1) (by omega) (by omega)
   rw[List.take_add_one,hv] at this
   refine linkworklaw31_of.l10 _ l t v (mkR ((v:Int):Rat)) (by omega) hv (CRb.Of v (h v (List.mem_of_getElem? hv))) ?_ (by omega) ?_
   ·rw[List.length_append,List.length_map,List.length_map,List.length_take,List.length_singleton];omega
   ·simpa using this
 exact linkworklaw31_of.e0 l (loop _ 0 rfl (by omega))
theorem low(x:ARat):∃b,Contract prg 69 [x.pv,vW 1000,vW 1000] (vB b)∧(b=true→x.num.length≤1∧x.den.length≤1):=by
 by_cases h1:x.num.length<2
 ·by_cases h2:x.den.length<2
  ·by_cases h3:x.num.length=0
   ·by_cases h4:x.den.length=0
    ·exact⟨_,linkworklaw31_low.e0 x _ _ h1 h2 h3 h4,fun _=>by omega⟩
    ·obtain⟨v,hv⟩:∃v,x.den[0]? = some v:=⟨_,List.getElem?_eq_getElem (by omega)⟩
     exact⟨_,linkworklaw31_low.e1 x _ _ v h1 h2 h3 h4 hv,fun _=>by omega⟩
   ·obtain⟨v,hv⟩:∃v,x.num[0]? = some v:=⟨_,List.getElem?_eq_getElem (by omega)⟩
    by_cases h5:v.toNat≤(1000:UInt32).toNat
    ·by_cases h4:x.den.length=0
     ·exact⟨_,linkworklaw31_low.e2 x _ _ v h1 h2 h3 hv h5 h4,fun _=>by omega⟩
     ·obtain⟨u,hu⟩:∃v,x.den[0]? = some v:=⟨_,List.getElem?_eq_getElem (by omega)⟩
      exact⟨_,linkworklaw31_low.e3 x _ _ v u h1 h2 h3 hv h5 h4 hu,fun _=>by omega⟩
    ·exact⟨_,linkworklaw31_low.e4 x _ _ v h1 h2 h3 hv (by omega),fun h=>by cases h⟩
  ·exact⟨_,linkworklaw31_low.e5 x _ _ h1 (by omega),fun h=>by cases h⟩
 ·exact⟨_,linkworklaw31_low.e6 x _ _ (by omega),fun h=>by cases h⟩
theorem short(l:List (List ARat))(hl:l.length≤1000):∃b,Contract prg 15 [lpv (lcell ARat.cells) l] (vB b)∧(b=true→∀p∈l,p.length≤6∧∀a∈p,a.num.length≤1∧a.den.length≤1):=by
 have inner:∀(t:Nat) (v:List ARat),v.length≤6→t<l.length→(∃b,linkworklaw31_short.Loop1 l (t+1) (vB b)∧(b=true→∀p∈l.drop (t+1),p.length≤6∧∀a∈p,a.num.length≤1∧a.den.length≤1)) →
   ∀d u:Nat,v.length-u=d→∃b,linkworklaw31_short.Loop2 l t v u (vB b)∧(b=true→(∀a∈v.drop u,a.num.length≤1∧a.den.length≤1)∧∀p∈l.drop (t+1),p.length≤6∧∀a∈p,a.num.length≤1∧a.den.length≤1):=by
  intro t v hv6 ht ⟨b0,hL,hB⟩ d
  induction d with
  |zero =>
   intro u hd
   exact⟨b0,linkworklaw31_short.l22 l t v u (by omega) (by omega) hL,fun h=>⟨(by rw[List.drop_of_length_le (by omega)];intro a ha;cases ha),hB h⟩⟩
  |succ d ih =>
   intro u hd
   obtain⟨a,ha⟩:∃a,v[u]? = some a:=⟨_,List.getElem?_eq_getElem (by omega)⟩
   obtain⟨b1,h1,h2⟩:=low a
   cases b1 with
   |false=>exact⟨false,linkworklaw31_short.l20 l t v u a _ (by omega) ha h1 rfl,fun h=>by cases h⟩
   |true =>
    obtain⟨b,g1,g2⟩:=ih (u+1) (by omega)
    refine⟨b,linkworklaw31_short.l21 l t v u a _ (by omega) ha h1 rfl (by omega) g1,fun h=>⟨fun x hx => ?_,(g2 h).2⟩⟩
    rw[drop_cons ha] at hx
    rcases List.mem_cons.1 hx with rfl|hx
    ·exact h2 rfl
    ·exact(g2 h).1 x hx
 have outer:∀d t:Nat,l.length-t=d→∃b,linkworklaw31_short.Loop1 l t (vB b)∧(b=true→∀p∈l.drop t,p.length≤6∧∀a∈p,a.num.length≤1∧a.den.length≤1):=by
  intro d
  induction d with
  |zero =>
   intro t hd
   exact⟨true,linkworklaw31_short.l12 l t (by omega),fun _=>by rw[List.drop_of_length_le (by omega)];intro p hp;cases hp⟩
  |succ d ih =>
   intro t hd
   obtain⟨v,hv⟩:∃v,l[t]? = some v:=⟨_,List.getElem?_eq_getElem (by omega)⟩
   by_cases h6:v.length≤6
   ·obtain⟨b,g1,g2⟩:=inner t v h6 (by omega) (ih (t+1) (by omega)) _ 0 rfl
    refine⟨b,linkworklaw31_short.l11 l t v (by omega) hv h6 g1,fun h p hp => ?_⟩
    rw[drop_cons hv] at hp
    rcases List.mem_cons.1 hp with rfl|hp
    ·have:=(g2 h).1
     rw[List.drop_zero] at this
     exact⟨h6,this⟩
    ·exact(g2 h).2 p hp
   ·exact⟨false,linkworklaw31_short.l10 l t v (by omega) hv (by omega),fun h=>by cases h⟩
 obtain⟨b,h1,h2⟩:=outer _ 0 rfl
 rw[List.drop_zero] at h2
 exact⟨b,linkworklaw31_short.e0 l h1,h2⟩
theorem short1(p:List ARat):∃b,Contract prg 15 [lpv (lcell ARat.cells) [p]] (vB b)∧(b=true→p.length≤6∧∀a∈p,a.num.length≤1∧a.den.length≤1):=by
 obtain⟨b,h1,h2⟩:=short [p] (by simp)
 exact⟨b,h1,fun h=>h2 h p (by simp)⟩
theorem brief(r:ARange):∃b,Contract prg 16 [r.pv] (vB b)∧(b=true→(r.lo.num.length≤1∧r.lo.den.length≤1)∧r.hi.num.length≤1∧r.hi.den.length≤1):=by
 obtain⟨b,h1,h2⟩:=short [[r.lo,r.hi]] (by simp)
 refine⟨b,linkworklaw31_brief.e0 r b h1,fun h => ?_⟩
 obtain⟨_,g⟩:=h2 h [r.lo,r.hi] (by simp)
 exact⟨g r.lo (by simp),g r.hi (by simp)⟩
theorem same(q:List Rat)(hl:q.length≤1000)(hf:Fl 68719476736 q):Contract prg 74 [pq q,pq q] (vB true):=by
 have:=CBa.Rats (q.map mkR) (q.map mkR) (by rw[lenM];omega) (fun a ha=>by
  obtain⟨x,hx,rfl⟩:=List.mem_map.1 ha
  have:=fit_mkRk (hf x hx)
  omega)
 rw[eqRs_self] at this
 exact linkworkref05_Same.e0 _ _ _ this
def exA:List Rat:=[((2:Int):Rat),((-2:Int):Rat),((1:Int):Rat)]
def exP:List Rat:=[((5:Int):Rat),((-8:Int):Rat),((4:Int):Rat)]
def exN:List Rat:=[((-1:Int):Rat),((1:Int):Rat)]
theorem fine_of'{p:List Rat}(hz:lastZ p=false)(h0:p≠[])(hl:p.length≤6)(hf:Fl 1 p):Fine 7 6 p:=by
 have h1:=Ch.of_fl hf
 exact⟨hz,h0,hl,h1.mono (by omega),by omega,by omega,by decide⟩
theorem exA_piece:Piece exA 0 2:=⟨by decide +kernel,by decide,by decide +kernel,by decide,by decide,by decide⟩
theorem exP_base:Base exP 0 2:=⟨by decide +kernel,by decide,by decide +kernel,by decide,by decide,by decide⟩
theorem exP_fine:Fine 7 6 exP:=fine_of' (by decide +kernel) (by decide +kernel) (by decide) (by decide +kernel)
theorem exN_fine:Fine 7 6 exN:=fine_of' (by decide +kernel) (by decide +kernel) (by decide) (by decide +kernel)
theorem exA_bern:bernQ exA 0 (2-0)=[((2:Int):Rat),((0:Int):Rat),((2:Int):Rat)]:=by decide +kernel
theorem exP_cut:cutQ exP 0 2 3 0 0=some [((1:Int):Rat)]:=by decide +kernel
theorem exP_pos:posR exP 0 2=true:=by decide +kernel
theorem exP_every:everyB 1 exP=true:=by decide +kernel
theorem exN_pos:posR exN 0 2=false:=by decide +kernel
theorem err0{p:List Rat}{a b:Rat}(hz:lastZ p=false)(hl:p.length≤65)(h:a≤b):err31 (p.map mkR) (mkG a b)=0:=by
 unfold err31
 rw[chk_map hz hl,if_pos rfl,if_pos (ok_mkG h)]
theorem awake:Contract prg 17 [] (vB true):=by
 have o2:=CRb.Of 2 (by unfold InI64;omega)
 have o1:=CFr.Of 1 (by unfold InI64;omega)
 have a1:=of [2, -2,1] (by unfold InI64;decide) (by decide)
 have a2:=of [5, -8,4] (by unfold InI64;decide) (by decide)
 have a4:=of [-1,1] (by unfold InI64;decide) (by decide)
 have a5:=of [2,0,2] (by unfold InI64;decide) (by decide)
 have a6:=of [1] (by unfold InI64;decide) (by decide)
 have g:(⟨⟨false,[],[]⟩,mkR ((2:Int):Rat)⟩:ARange)=mkG 0 2:=rfl
 have fg:FitG 68719476736 (mkG 0 2):=fit_mkG (by decide) (by decide)
 have chA:=CPs.check (exA.map mkR) (mkG 0 2) (fitQ exA_piece.fl (by omega)) fg
 rw[err0 exA_piece.zp (by decide) (by decide)] at chA
 have bA:=CPs.bernstein exA_piece
 rw[exA_bern] at bA
 have hB:=positive_Bernstein.e0 _ _ _ none chA bA
 have fP:Fl 1 exP:=by decide +kernel
 have hSc:=CCa.ScaleQ (a:=1) (d:=1) exP ((1:Int):Rat) exP_base.zp (by decide) fP (by decide) (by omega) (by omega)
 have eSc:trimL (smulL ((1:Int):Rat) exP)=exP:=by decide +kernel
 rw[eSc] at hSc
 have chP:=CPs.check (exP.map mkR) (mkG 0 2) (fitQ exP_base.fl (by omega)) fg
 rw[err0 exP_base.zp (by decide) (by decide)] at chP
 have dP:=CPs.decide' (Or.inr exP_fine) fP (by omega) (by omega) (lo:=0) (hi:=2) (by decide) (by decide) (by decide)
 rw[exP_pos] at dP
 have cP:=CPc.cutN exP_base 3 0 0 (by omega) (by decide)
 rw[exP_cut] at cP
 have e0:ptQ 0 2 0 0=0:=by decide +kernel
 have e1:ptQ 0 2 0 (0+1)=2:=by decide +kernel
 rw[e0,e1] at cP
 have hM:=positive_Make.e3 _ (mkG 0 2) 3 _ _ chP (by omega) (by omega) dP rfl cP
 have hE:=CPs.Everywhere (k:=1) (Or.inr exP_fine) fP (by omega) (by omega)
 rw[exP_every] at hE
 have fN:Fl 1 exN:=by decide +kernel
 have chN:=CPs.check (exN.map mkR) (mkG 0 2) (fitQ fN (by omega)) fg
 rw[err0 exN_fine.zp (by decide) (by decide)] at chN
 have dN:=CPs.decide' (Or.inr exN_fine) fN (by omega) (by omega) (lo:=0) (hi:=2) (by decide) (by decide) (by decide)
 rw[exN_pos] at dN
 have hN:=positive_Decide.e0 _ _ _ none chN dN
 have s1:=same [((2:Int):Rat),((0:Int):Rat),((2:Int):Rat)] (by decide) (by decide +kernel)
 have s2:=same [((1:Int):Rat)] (by decide) (by decide +kernel)
 exact linkworklaw31_awake.e0 _ _ _ _ _ _ _ _ _ _ _ _ _ _ o2 a1 hB a2 o1 hSc hM hE a4 hN a5 s1 rfl a6 s2 rfl rfl
theorem short_fine{p:List ARat}(h:p.length≤6∧∀a∈p,a.num.length≤1∧a.den.length≤1)(hc:chk p=0):p=(vals p).map mkR∧lastZ (vals p)=false∧(vals p).length≤6∧Fl 1 (vals p)∧(vals p=[]∨Fine 7 6 (vals p)):=by
 have hz:=chk_last hc
 have hl:(vals p).length≤6:=by unfold vals;rw[List.length_map];exact h.1
 have hf:Fl 1 (vals p):=fl_vals (fun a ha=>h.2 a ha) (by omega)
 refine⟨(vals_of (chk_valid hc)).symm,hz,hl,hf,?_⟩
 by_cases h0:vals p=[]
 ·exact Or.inl h0
 ·exact Or.inr (fine_of' hz h0 hl hf)
end C31
end Go.Proofs.YtbgkjomonebfcaaGreat.Sym
namespace Go.Proofs.YtbgkjomonebfcaaGreat.Sym
open Go Path CInt
set_option linter.unusedVariables false
def befB(pr:Option Rat)(x:Rat):Bool:=match pr with
 |some y=>decide (y<x)
 |none=>true
def verC(lo hi:Rat):Option Rat→List ARat→Int
 |_,[]=>0
 |pr,x::r=>bif x.valid then (bif decide (lo<x.val) then (bif decide (x.val<hi) then (bif befB pr x.val then verC lo hi (some x.val) r else 12) else 3) else 3) else 2
def verP(p:List Rat):Rat→List Rat→Bool
 |_,[]=>true
 |a,x::r=>clearB (bernQ p a (x-a))&&verP p x r
def verB(p:List Rat)(lo hi:Rat)(cuts:List ARat):Bool:=decide (verC lo hi none cuts=0)&&verP p lo (vals cuts++[hi])
def Asc:Rat→List Rat→Prop
 |_,[]=>True
 |a,x::r=>a≤x∧ht x≤40∧Asc x r
theorem verC_asc{lo hi:Rat}(hh:ht hi≤40):∀(l:List ARat) (pr:Option Rat) (a:Rat),(∀x∈l,x.num.length≤40∧x.den.length≤40)→verC lo hi pr l=0→(pr=none∧a=lo∨pr=some a)→a≤hi→Asc a (vals l++[hi])
 |[],pr,a,_,_,_,h=>⟨h,hh,trivial⟩
 |x::r,pr,a,hs,hv,ha,h=>by
  rw[verC] at hv
  cases h1:x.valid with
  |false=>rw[h1] at hv;exact absurd (show (2:Int)=0 from hv) (by decide)
  |true =>
   rw[h1,cond_true] at hv
   by_cases h2:lo<x.val
   ·rw[decide_eq_true h2,cond_true] at hv
    by_cases h3:x.val<hi
    ·rw[decide_eq_true h3,cond_true] at hv
     have hx:=hs x (by simp)
     have hx1:ht x.val≤40:=ht_fit hx.1 hx.2 (by omega)
     rcases ha with ⟨e,rfl⟩|e
     ·subst e
      rw[show befB none x.val=true from rfl,cond_true] at hv
      exact⟨Rat.le_of_lt h2,by omega,verC_asc hh r _ _ (fun y hy=>hs y (by simp[hy])) hv (Or.inr rfl) (Rat.le_of_lt h3)⟩
     ·subst e
      rw[show befB (some a) x.val=decide (a<x.val) from rfl] at hv
      by_cases h4:a<x.val
      ·rw[decide_eq_true h4,cond_true] at hv
       exact⟨Rat.le_of_lt h4,by omega,verC_asc hh r _ _ (fun y hy=>hs y (by simp[hy])) hv (Or.inr rfl) (Rat.le_of_lt h3)⟩
      ·rw[decide_eq_false h4,cond_false] at hv;exact absurd hv (by decide)
    ·rw[decide_eq_false h3,cond_false] at hv;exact absurd hv (by decide)
   ·rw[decide_eq_false h2,cond_false] at hv;exact absurd hv (by decide)
theorem verC_valid{lo hi:Rat} : ∀(l:List ARat) (pr:Option Rat),verC lo hi pr l=0→∀x∈l,x.valid=true
 |[],_,_,x,hx=>by cases hx
 |y::r,pr,hv,x,hx=>by
  rw[verC] at hv
  cases h1:y.valid with
  |false=>rw[h1] at hv;exact absurd (show (2:Int)=0 from hv) (by decide)
  |true =>
   rcases List.mem_cons.1 hx with rfl|hx
   ·exact h1
   ·rw[h1,cond_true] at hv
    have go:∀(V:Int) (b1 b2 b3:Bool),(bif b1 then (bif b2 then (bif b3 then V else 12) else 3) else 3)=0→V=0:=by
     intro V b1 b2 b3 h
     cases b1<;>cases b2<;>cases b3<;>first|exact h|exact absurd (show (12:Int)=0 from h) (by decide)|exact absurd (show (3:Int)=0 from h) (by decide)
    exact verC_valid r _ (go _ _ _ _ hv) x hx
def prevO(l:List ARat)(t:Nat):Option Rat:=match t with
 |0=>none
 |t+1=>(l[t]?).map ARat.val
namespace CPs
theorem Verify{p:List Rat}{lo hi:Rat}(pc:Piece p lo hi)(h1:ht lo≤1)(h2:ht hi≤1)(c:APosCert)(hs:∀x∈c.cuts,x.num.length≤40∧x.den.length≤40):Contract prg 35 [pq p,(mkG lo hi).pv,c.pv] (.tup [vB (bif Nat.ble c.cuts.length 255 then verB p lo hi c.cuts else false),errPV (errOf (bif Nat.ble c.cuts.length 255 then verC lo hi none c.cuts else 4))]):=by
 have hck:=CPs.check (p.map mkR) (mkG lo hi) (fitQ pc.fl (by omega)) (fit_mkG (by omega) (by omega))
 rw[C31.err0 pc.zp (by have:=pc.len;omega) pc.le] at hck
 by_cases hl:c.cuts.length≤255
 ·rw[Nat.ble_eq_true_of_le hl,cond_true,cond_true]
  have pieces:verC lo hi none c.cuts=0→positive_Verify.Loop2 (p.map mkR) c (mkG lo hi) 0 (mkR lo) (.tup [vB (verP p lo (vals c.cuts++[hi])),.nilI]):=by
   intro hv
   have hasc:=verC_asc (by omega) c.cuts none lo hs hv (Or.inl ⟨rfl,rfl⟩) pc.le
   have hval:=verC_valid _ _ hv
   have hL:c.cuts++[(mkG lo hi).hi]=(vals c.cuts++[hi]).map mkR:=by
    rw[List.map_append,vals_of (List.all_eq_true.2 hval)];rfl
   have hlen:(vals c.cuts++[hi]).length≤256:=by unfold vals;rw[List.length_append,List.length_map,List.length_singleton];omega
   generalize vals c.cuts++[hi]=Ls at hL hasc hlen ⊢
   have loop:∀d t:Nat,Ls.length-t=d→∀a:Rat,ht a≤40→Asc a (Ls.drop t)→positive_Verify.Loop2 (p.map mkR) c (mkG lo hi) t (mkR a) (.tup [vB (verP p a (Ls.drop t)),.nilI]):=by
    intro d
    induction d with
    |zero =>
     intro t hd a ha has
     rw[List.drop_of_length_le (by omega)]
     exact positive_Verify.l23 _ c _ t _ (by rw[hL,lenM];omega)
    |succ d ih =>
     intro t hd a ha has
     obtain⟨x,hx⟩:∃x,Ls[t]? = some x:=⟨_,List.getElem?_eq_getElem (by omega)⟩
     rw[drop_cons hx] at has ⊢
     obtain⟨g1,g2,g3⟩:=has
     have hcl:=CPs.clear (⟨pc.zp,pc.len,pc.fl,ha,g2,g1⟩:Piece p a x)
     rw[verP]
     cases hb:clearB (bernQ p a (x-a)) with
     |false=>exact positive_Verify.l20 _ c _ t _ (mkR x) _ (by rw[hL,lenM];omega) (by rw[hL];exact getM hx) (by rw[hb] at hcl;exact hcl) rfl
     |true=>exact positive_Verify.l21 _ c _ t _ (mkR x) _ (by rw[hL,lenM];omega) (by rw[hL];exact getM hx) (by rw[hb] at hcl;exact hcl) rfl (by omega) (ih (t+1) (by omega) x g2 g3)
   have:=loop _ 0 rfl lo (by omega) (by rw[List.drop_zero];exact hasc)
   rwa[List.drop_zero] at this
  have R:∀n:Int,n≠0→verC lo hi none c.cuts=n→(.tup [vB false,errPV (some n)]:PV) = .tup [vB (verB p lo hi c.cuts),errPV (errOf (verC lo hi none c.cuts))]:=by
   intro n hn e
   unfold verB
   rw[e,decide_eq_false hn,Bool.false_and]
   rw[errOf_ne hn]
  have loop:∀d t:Nat,c.cuts.length-t=d→t≤c.cuts.length→(∀x∈c.cuts.take t,x.valid=true)→verC lo hi none c.cuts=verC lo hi (prevO c.cuts t) (c.cuts.drop t)→positive_Verify.Loop1 (p.map mkR) c t (mkG lo hi) (.tup [vB (verB p lo hi c.cuts),errPV (errOf (verC lo hi none c.cuts))]):=by
   intro d
   induction d with
   |zero =>
    intro t hd ht hval hv
    rw[List.drop_of_length_le (by omega)] at hv
    have hv:verC lo hi none c.cuts=0:=by rw[hv];cases prevO c.cuts t<;>rfl
    have:=pieces hv
    unfold verB
    rw[hv,decide_eq_true rfl,Bool.true_and]
    exact positive_Verify.l16 _ c t _ (by omega) (by rw[List.nil_append];omega) (by rw[List.length_append,List.length_singleton];omega) this
   |succ d ih =>
    intro t hd ht hval hv
    obtain⟨x,hx⟩:∃x,c.cuts[t]? = some x:=⟨_,List.getElem?_eq_getElem (by omega)⟩
    have hxs:=hs x (List.mem_of_getElem? hx)
    have hvd:=CFr.Valid x ⟨by omega,by omega⟩
    rw[drop_cons hx,verC] at hv
    cases q1:x.valid with
    |false =>
     rw[q1,cond_false] at hv
     rw[←R 2 (by decide) hv]
     rw[q1] at hvd
     exact positive_Verify.l10 _ c t _ x _ (by omega) hx hvd rfl
    |true =>
     rw[q1,cond_true] at hv
     rw[q1] at hvd
     have ex:=mkR_of q1
     have hxt:Sym.ht x.val≤40:=ht_fit hxs.1 hxs.2 (by omega)
     have c1:=QF.Cmp x.val lo (by omega) (by omega)
     have c2:=QF.Cmp x.val hi (by omega) (by omega)
     rw[ex] at c1 c2
     by_cases q2:lo<x.val
     ·rw[decide_eq_true q2,cond_true] at hv
      by_cases q3:x.val<hi
      ·rw[decide_eq_true q3,cond_true] at hv
       have hval':∀y∈c.cuts.take (t+1),y.valid=true:=by
        intro y hy
        rw[List.take_add_one,hx] at hy
        rcases List.mem_append.1 hy with hy|hy
        ·exact hval y hy
        ·have:y=x:=by simpa using hy
         rw[this];exact q1
       have hpo:prevO c.cuts (t+1)=some x.val:=by show(c.cuts[t]?).map _=_;rw[hx];rfl
       cases t with
       |zero =>
        have hv:verC lo hi none c.cuts=verC lo hi (some x.val) (c.cuts.drop (0+1)):=hv
        exact positive_Verify.l15 _ c 0 _ x _ _ _ (by omega) hx hvd rfl c1 (cmpR_gt.2 q2) c2 (cmpR_lt.2 q3) (Nat.le_refl _) (by omega) (ih 1 (by omega) (by omega) hval' (by rw[hpo];exact hv))
       |succ t =>
        obtain⟨y,hy⟩:∃y,c.cuts[t]? = some y:=⟨_,List.getElem?_eq_getElem (by omega)⟩
        have hyv:y.valid=true:=hval y (by rw[List.take_add_one,hy];simp)
        have hys:=hs y (List.mem_of_getElem? hy)
        have ey:=mkR_of hyv
        have hyt:Sym.ht y.val≤40:=ht_fit hys.1 hys.2 (by omega)
        have hp0:prevO c.cuts (t+1)=some y.val:=by show(c.cuts[t]?).map _=_;rw[hy];rfl
        rw[hp0,show befB (some y.val) x.val=decide (y.val<x.val) from rfl] at hv
        have c3:=QF.Cmp x.val y.val (by omega) (by omega)
        rw[ex,ey] at c3
        by_cases q4:y.val<x.val
        ·rw[decide_eq_true q4,cond_true] at hv
         exact positive_Verify.l14 _ c (t+1) _ x _ _ _ t y _ (by omega) hx hvd rfl c1 (cmpR_gt.2 q2) c2 (cmpR_lt.2 q3) (by omega) (by unfold InI64;omega) (by omega) hy c3 (cmpR_gt.2 q4) (by omega) (ih (t+1+1) (by omega) (by omega) hval' (by rw[hpo];exact hv))
        ·rw[decide_eq_false q4,cond_false] at hv
         rw[←R 12 (by decide) hv]
         exact positive_Verify.l13 _ c (t+1) _ x _ _ _ t y _ (by omega) hx hvd rfl c1 (cmpR_gt.2 q2) c2 (cmpR_lt.2 q3) (by omega) (by unfold InI64;omega) (by omega) hy c3 (cmpR_le.2 (by grind))
      ·rw[decide_eq_false q3,cond_false] at hv
       rw[←R 3 (by decide) hv]
       exact positive_Verify.l12 _ c t _ x _ _ _ (by omega) hx hvd rfl c1 (cmpR_gt.2 q2) c2 (cmpR_ge.2 (by grind))
     ·rw[decide_eq_false q2,cond_false] at hv
      rw[←R 3 (by decide) hv]
      exact positive_Verify.l11 _ c t _ x _ _ (by omega) hx hvd rfl c1 (cmpR_le.2 (by grind))
  exact positive_Verify.e1 _ (mkG lo hi) c hck hl (loop _ 0 rfl (by omega) (by intro x hx;cases hx) (by rw[List.drop_zero];rfl))
 ·have:Nat.ble c.cuts.length 255=false:=by
   cases h:Nat.ble c.cuts.length 255 with
   |false=>rfl
   |true=>exact absurd (Nat.le_of_ble_eq_true h) hl
  rw[this,cond_false,cond_false]
  exact positive_Verify.e0 _ (mkG lo hi) c hck (by omega)
end CPs
end Go.Proofs.YtbgkjomonebfcaaGreat.Sym
namespace Go.Proofs.YtbgkjomonebfcaaGreat.Sym
open Go Path CInt
set_option linter.unusedVariables false
theorem choQ_zero(n:Int):choQ n 0=1:=rfl
end Go.Proofs.YtbgkjomonebfcaaGreat.Sym
namespace Go.Proofs.YtbgkjomonebfcaaGreat.Sym
open Go Path CInt
set_option linter.unusedVariables false
namespace C31
structure Sh (p:List ARat) (r:ARange):Prop where
 ep:pq (vals p)=polyPV p
 er:mkG r.lo.val r.hi.val=r
 pl:p.length=(vals p).length
 zp:lastZ (vals p)=false
 len:(vals p).length≤6
 fl:Fl 1 (vals p)
 fine:vals p=[]∨Fine 7 6 (vals p)
 t1:ht r.lo.val≤1
 t2:ht r.hi.val≤1
 le:r.lo.val≤r.hi.val
 ck:Contract prg 75 [polyPV p,r.pv] .nilI
theorem Sh.piece{p:List ARat}{r:ARange}(s:Sh p r):Piece (vals p) r.lo.val r.hi.val :=
 ⟨s.zp,by have:=s.len;omega,fl_mono s.fl (by omega),by have:=s.t1;omega,by have:=s.t2;omega,s.le⟩
end C31
end Go.Proofs.YtbgkjomonebfcaaGreat.Sym
namespace Go.Proofs.YtbgkjomonebfcaaGreat.Sym
open Go Path CInt
set_option linter.unusedVariables false
theorem cutQ_def(p:List Rat)(a w:Rat)(d k j:Nat):cutQ p a w d k j=bif clearB (bernQ p (ptQ a w k j) (ptQ a w k (j+1)-ptQ a w k j)) then some [] else match d with
  |0=>none
  |d+1=>match cutQ p a w d (k+1) (2*j) with
   |none=>none
   |some l=>match cutQ p a w d (k+1) (2*j+1) with
    |none=>none
    |some m=>some (l++ptQ a w (k+1) (2*j+1)::m):=by
 conv=>lhs;unfold cutQ
 all_goals (cases d<;>rfl)
theorem cutQ_some{p:List Rat}{a w:Rat}{d k j:Nat}{l:List Rat}(h:cutQ p a w d k j=some l) :
  (clearB (bernQ p (ptQ a w k j) (ptQ a w k (j+1)-ptQ a w k j))=true∧l=[])∨∃e l1 l2,d=e+1∧clearB (bernQ p (ptQ a w k j) (ptQ a w k (j+1)-ptQ a w k j))=false∧cutQ p a w e (k+1) (2*j)=some l1∧cutQ p a w e (k+1) (2*j+1)=some l2∧l=l1++ptQ a w (k+1) (2*j+1)::l2:=by
 rw[cutQ_def] at h
 cases hc:clearB (bernQ p (ptQ a w k j) (ptQ a w k (j+1)-ptQ a w k j)) with
 |true =>
  rw[hc,cond_true] at h
  injection h with h
  exact Or.inl ⟨rfl,h.symm⟩
 |false =>
  rw[hc,cond_false] at h
  match d,h with
  |e+1,h =>
   simp only at h
   cases h1:cutQ p a w e (k+1) (2*j) with
   |none=>rw[h1] at h;cases h
   |some l1 =>
    cases h2:cutQ p a w e (k+1) (2*j+1) with
    |none=>rw[h1,h2] at h;cases h
    |some l2 =>
     rw[h1,h2] at h
     injection h with h
     exact Or.inr ⟨e,l1,l2,rfl,rfl,h1,h2,h.symm⟩
theorem cutQ_more{p:List Rat}{a w:Rat} : ∀(d k j:Nat) (l:List Rat),cutQ p a w d k j=some l→cutQ p a w (d+1) k j=some l
 |d,k,j,l,h=>by
  rcases cutQ_some h with ⟨h1,rfl⟩|⟨e,l1,l2,rfl,h1,h2,h3,rfl⟩
  ·rw[cutQ_def,h1,cond_true]
  ·have a1:=cutQ_more e _ _ _ h2
   have a2:=cutQ_more e _ _ _ h3
   rw[cutQ_def,h1,cond_false]
   simp only[a1,a2]
def SAsc:Rat→List Rat→Rat→Prop
 |a,[],b=>a<b
 |a,x::r,b=>a<x∧SAsc x r b
theorem sasc_join{m b:Rat} : ∀(l:List Rat) (a:Rat) {l':List Rat},SAsc a l m→SAsc m l' b→SAsc a (l++m::l') b
 |[],a,l',h,h'=>⟨h,h'⟩
 |x::r,a,l',h,h'=>⟨h.1,sasc_join r x h.2 h'⟩
theorem verP_join{p:List Rat}{m b:Rat} : ∀(l:List Rat) (a:Rat) {l':List Rat},verP p a (l++[m])=true→verP p m (l'++[b])=true→verP p a ((l++m::l')++[b])=true
 |[],a,l',h,h'=>by
  rw[List.nil_append,verP,Bool.and_eq_true] at h
  show verP p a (m::(l'++[b]))=true
  rw[verP,Bool.and_eq_true]
  exact⟨h.1,h'⟩
 |x::r,a,l',h,h'=>by
  rw[List.cons_append,verP,Bool.and_eq_true] at h
  show verP p a (x::((r++m::l')++[b]))=true
  rw[verP,Bool.and_eq_true]
  exact⟨h.1,verP_join r x h.2 h'⟩
theorem pt_lt{w:Rat}(a:Rat)(h:0<w)(k j:Nat):ptQ a w k j<ptQ a w k (j+1):=by
 unfold ptQ
 have h2:Rat.divInt (j:Int) ((2^k:Nat):Int)<Rat.divInt ((j+1:Nat):Int) ((2^k:Nat):Int):=by
  rw[Rat.divInt_eq_div,Rat.divInt_eq_div,Rat.div_def,Rat.div_def]
  refine Rat.mul_lt_mul_of_pos_right (Rat.intCast_lt_intCast.2 (by omega)) (Rat.inv_pos.2 ?_)
  have:=Nat.pow_pos (n:=k) (show 0<2 by omega)
  exact Rat.intCast_lt_intCast.2 (show (0:Int)<_ by omega)
 have:=Rat.mul_lt_mul_of_pos_left h2 h
 grind
theorem cutQ_good{p:List Rat}{a w:Rat}(hw:0<w):∀(d k j:Nat) (l:List Rat),cutQ p a w d k j=some l→SAsc (ptQ a w k j) l (ptQ a w k (j+1))∧verP p (ptQ a w k j) (l++[ptQ a w k (j+1)])=true
 |d,k,j,l,h=>by
  rcases cutQ_some h with ⟨h1,rfl⟩|⟨e,l1,l2,rfl,h1,h2,h3,rfl⟩
  ·exact⟨pt_lt a hw k j,by rw[List.nil_append,verP,verP,h1];rfl⟩
  ·obtain⟨a1,b1⟩:=cutQ_good hw e _ _ _ h2
   obtain⟨a2,b2⟩:=cutQ_good hw e _ _ _ h3
   rw[pt_even] at a1 b1
   rw[show 2*j+1+1=2*(j+1) from by omega,pt_even] at a2 b2
   exact⟨sasc_join l1 _ a1 a2,verP_join l1 _ b1 b2⟩
theorem sasc_end{b:Rat} : ∀(l:List Rat) (a:Rat),SAsc a l b→a<b
 |[],a,h=>h
 |x::r,a,h=>by have:=sasc_end r x h.2;have:=h.1;grind
theorem sasc_verC{lo hi:Rat} : ∀(l:List Rat) (a:Rat) (pr:Option Rat),SAsc a l hi→lo≤a→(pr=none∨pr=some a)→verC lo hi pr (l.map mkR)=0
 |[],_,_,_,_,_=>rfl
 |x::r,a,pr,h,hlo,hp=>by
  have h1:=h.1
  have h2:=sasc_end r x h.2
  rw[List.map_cons,verC,mkR_valid,cond_true,mkR_val,decide_eq_true (show lo<x by grind),cond_true,decide_eq_true h2,cond_true]
  have hb:befB pr x=true:=by
   rcases hp with rfl|rfl
   ·rfl
   ·exact decide_eq_true h1
  rw[hb,cond_true]
  exact sasc_verC r x _ h.2 (by grind) (Or.inr rfl)
theorem clear_point{p:List Rat}{a:Rat}(h0:p≠[])(h:0<evalL p a):clearB (bernQ p a 0)=true:=by
 have hp:=List.length_pos_iff.2 h0
 have hq:∀i,coef (subL p a 0) i=coef [evalL p a] i:=fun i=>eval_coef (fun x=>by
  rw[sub_eval]
  show evalL p (a+0*x)=0*x+evalL p a
  rw[show a+0*x=a from by grind];grind) i
 have hs:∀(n:Int) (j t:Nat),berS (subL p a 0) n j (t+1)=evalL p a:=by
  intro n j t
  induction t with
  |zero =>
   show 0+choQ (j:Int) 0/choQ n 0*coef (subL p a 0) 0=_
   rw[hq,choQ_zero,choQ_zero]
   show 0+1/1*evalL p a=_
   rw[show (1:Rat)/1=1 from by decide +kernel];grind
  |succ t ih =>
   show berS (subL p a 0) n j (t+1)+choQ (j:Int) (t+1)/choQ n (t+1)*coef (subL p a 0) (t+1)=_
   rw[ih,hq,show coef [evalL p a] (t+1)=0 from rfl];grind
 have hb:∀j,j<p.length→coef (bernQ p a 0) j=evalL p a:=by
  intro j hj
  have:(bernQ p a 0)[j]? = some (berS (subL p a 0) ((p.length:Int)-1) j (j+1)):=tabL_get _ hj
  rw[coef_of this,hs]
 unfold clearB
 rw[bern_len,hb 0 (by omega),hb (p.length-1) (by omega),decide_eq_true h,Bool.and_true,Bool.and_true]
 rw[List.all_eq_true]
 intro x hx
 obtain⟨j,hj,rfl⟩:=List.mem_iff_getElem.1 hx
 have:=hb j (by rw[bern_len] at hj;exact hj)
 rw[coef_of (List.getElem?_eq_getElem hj)] at this
 rw[this]
 exact decide_eq_true (Rat.le_of_lt h)
namespace CPt
theorem Mid(lo hi:Rat)(h1:ht lo≤1000)(h2:ht hi≤1000)(hle:lo≤hi):Contract prg 184 [(mkG lo hi).pv] (mkR (Rat.divInt 1 2*(lo+hi))).pv:=by
 have hc:=CJv.given (mkG lo hi) (fit_mkG (Nat.le_trans h1 (by omega)) (Nat.le_trans h2 (by omega)))
 rw[loG_mk hle,hiG_mk hle] at hc
 have h3:=ht_add lo hi
 have h4:ht (Rat.divInt 1 2)≤1:=by decide
 exact linkworkref03_Mid.e0 _ (mkG lo hi) _ _ _ _ hc (QR.Make 1 2 (by unfold InI64;omega) (by unfold InI64;omega) (by omega)) (QR.Add lo hi (by omega) (by omega)) (QR.Mul _ _ (by omega) (by omega))
theorem cuts{p:List Rat}{a w:Rat}(b:Base p a w):∀(d k j:Nat),k+d≤9→j<2^k→∃z:List ARat,
  ContractX prg 102 [(.pv (pq p)),(.pv (mkG (ptQ a w k j) (ptQ a w k (j+1))).pv),(eI (d:Int))] [] (.rowT 0 0 z.length 3 [vB (cutQ p a w d k j).isSome]) [(0,(.pure ((z:List ARat).map ARat.cells).flatten))]∧z.length+1≤2^d∧∀l,cutQ p a w d k j=some l→z=l.map mkR
 |d,k,j,hkd,hj=>by
  have pc:=pt_piece b (k:=k) (by omega) hj
  have hcl:=clear pc
  rw[cutQ_def]
  cases hc:clearB (bernQ p (ptQ a w k j) (ptQ a w k (j+1)-ptQ a w k j)) with
  |true =>
   rw[hc] at hcl
   exact⟨[],linkworkref31_cuts.e0 _ (mkG (ptQ a w k j) (ptQ a w k (j+1))) _ _ hcl rfl,Nat.pow_pos (by omega),fun l h=>by injection h with h;subst h;rfl⟩
  |false =>
   rw[hc] at hcl
   rw[cond_false]
   match d with
   |0=>exact⟨[],linkworkref31_cuts.e1 _ (mkG (ptQ a w k j) (ptQ a w k (j+1))) _ _ hcl rfl rfl,Nat.pow_pos (by omega),fun l h=>by cases h⟩
   |d+1 =>
    have hj1:2*j<2^(k+1):=by rw[Nat.pow_succ];omega
    have hj2:2*j+1<2^(k+1):=by rw[Nat.pow_succ];omega
    have hp9:2^d≤2^9:=Nat.pow_le_pow_right (by omega) (by omega)
    have hp2:2^(d+1)=2^d+2^d:=by rw[Nat.pow_succ];omega
    have hpd:=Nat.pow_pos (n:=d) (show 0<2 by omega)
    have hm:=Mid (ptQ a w k j) (ptQ a w k (j+1)) (by have:=pc.hlo;omega) (by have:=pc.hhi;omega) pc.le
    rw[pt_odd] at hm
    obtain⟨z1,i1,n1,s1⟩:=cuts b d (k+1) (2*j) (by omega) hj1
    obtain⟨z2,i2,n2,s2⟩:=cuts b d (k+1) (2*j+1) (by omega) hj2
    rw[pt_even] at i1
    rw[show 2*j+1+1=2*(j+1) from by omega,pt_even] at i2
    have hd:((d+1:Nat):Int)≠0:=by omega
    have hI:InI64 (((d+1:Nat):Int)-1):=by
     have:d≤9:=by omega
     unfold InI64;omega
    have e1:((d+1:Nat):Int)-1=(d:Int):=by omega
    simp only
    cases h1:cutQ p a w d (k+1) (2*j) with
    |none =>
     rw[h1] at i1
     exact⟨[],linkworkref31_cuts.e2 _ (mkG (ptQ a w k j) (ptQ a w k (j+1))) _ _ _ z1 _ hcl rfl hd hm hI (by rw[e1];exact i1) rfl,Nat.pow_pos (by omega),fun l h=>by cases h⟩
    |some l1 =>
     rw[h1] at i1
     have r:=linkworkref31_cuts.e3 _ (mkG (ptQ a w k j) (ptQ a w k (j+1))) _ _ _ z1 _ z2 _ hcl rfl hd hm hI (by rw[e1];exact i1) rfl (by rw[e1];exact i2) (by rw[List.length_append,List.length_singleton];omega) (by rw[List.length_append,List.length_append,List.length_singleton];omega)
     refine⟨z1++[mkR (ptQ a w (k+1) (2*j+1))]++z2,?_,by rw[List.length_append,List.length_append,List.length_singleton];omega,fun l h => ?_⟩
     ·cases h2:cutQ p a w d (k+1) (2*j+1) with
      |none=>rw[h2] at r;exact r
      |some l2=>rw[h2] at r;exact r
     ·cases h2:cutQ p a w d (k+1) (2*j+1) with
      |none=>rw[h2] at h;cases h
      |some l2 =>
       rw[h2] at h
       injection h with h
       subst h
       rw[s1 l1 h1,s2 l2 h2]
       simp
end CPt
end Go.Proofs.YtbgkjomonebfcaaGreat.Sym
namespace Go.Proofs.YtbgkjomonebfcaaGreat.Sym
open Go Path CInt
set_option linter.unusedVariables false
def makeQ(p:List Rat)(lo hi:Rat)(d:Nat):List Rat×Int:=bif posR p lo hi then (match cutQ p lo (hi-lo) d 0 0 with
 |some l=>(l,0)
 |none=>([],15)) else ([],21)
theorem pt0(a w:Rat):ptQ a w 0 0=a∧ptQ a w 0 (0+1)=a+w:=by
 have e0:Rat.divInt ((0:Nat):Int) ((2^0:Nat):Int)=0:=by decide +kernel
 have e1:Rat.divInt ((0+1:Nat):Int) ((2^0:Nat):Int)=1:=by decide +kernel
 unfold ptQ
 rw[e0,e1]
 constructor<;>grind
namespace C31
theorem Sh.base{p:List ARat}{r:ARange}(s:Sh p r):Base (vals p) r.lo.val (r.hi.val-r.lo.val):=by
 have t1:=s.t1
 have t2:=s.t2
 have t3:=ht_sub r.hi.val r.lo.val
 have hle:=s.le
 exact⟨s.zp,by have:=s.len;omega,fl_mono s.fl (by omega),by omega,by omega,by grind⟩
theorem make{p:List ARat}{r:ARange}(s:Sh p r)(d:Nat)(hd:d≤8)(cr:Contract prg 80 [polyPV p,r.pv] (vI 0)) :
  Contract prg 37 [polyPV p,r.pv,vI (d:Int)] (.tup [(⟨(makeQ (vals p) r.lo.val r.hi.val d).1.map mkR⟩:APosCert).pv,errPV (errOf (makeQ (vals p) r.lo.val r.hi.val d).2)]) ∧
  Contract prg 38 [polyPV p,r.pv,vI (d:Int)] (.tup [(⟨(makeQ (vals p) r.lo.val r.hi.val d).1.map mkR⟩:APosCert).pv,vI (makeQ (vals p) r.lo.val r.hi.val d).2]):=by
 have D1:=CPs.decide' s.fine s.fl (by omega) (by omega) s.le s.t1 s.t2
 have D2:=CPt.decide' s.fine s.fl (by omega) (by omega) s.le s.t1 s.t2
 rw[s.ep,s.er] at D1 D2
 have hle:=s.le
 obtain⟨q0,q1⟩:=pt0 r.lo.val (r.hi.val-r.lo.val)
 have q1:ptQ r.lo.val (r.hi.val-r.lo.val) 0 (0+1)=r.hi.val:=by rw[q1];grind
 have c1:=CPc.cutN s.base d 0 0 (by omega) (by decide)
 obtain⟨z,c2,_,hz⟩:=CPt.cuts s.base d 0 0 (by omega) (by decide)
 rw[q0,q1,s.ep,s.er] at c1 c2
 unfold makeQ
 cases hp:posR (vals p) r.lo.val r.hi.val with
 |false =>
  rw[hp] at D1 D2
  rw[cond_false]
  exact⟨positive_Make.e2 p r _ _ s.ck (by omega) (by omega) D1 rfl,linkworkref31_Make.e3 p r _ _ _ cr rfl (by omega) (by omega) D2 rfl⟩
 |true =>
  rw[hp] at D1 D2
  rw[cond_true]
  cases hc:cutQ (vals p) r.lo.val (r.hi.val-r.lo.val) d 0 0 with
  |none =>
   rw[hc] at c1 c2
   exact⟨positive_Make.e4 p r _ _ [] 15 s.ck (by omega) (by omega) D1 rfl c1,linkworkref31_Make.e4 p r _ _ _ z _ cr rfl (by omega) (by omega) D2 rfl c2 rfl⟩
  |some l =>
   rw[hc] at c1 c2
   have:=hz l hc
   subst this
   exact⟨positive_Make.e3 p r _ _ _ s.ck (by omega) (by omega) D1 rfl c1,linkworkref31_Make.e5 p r _ _ _ _ _ cr rfl (by omega) (by omega) D2 rfl c2 rfl⟩
theorem cut_ht{p:List Rat}{a w:Rat}(b:Base p a w):∀(d k j:Nat) (l:List Rat),k+d≤9→j<2^k→cutQ p a w d k j=some l→∀x∈l,ht x≤33
 |d,k,j,l,hkd,hj,h=>by
  rcases cutQ_some h with ⟨h1,rfl⟩|⟨e,l1,l2,rfl,h1,h2,h3,rfl⟩
  ·intro x hx;cases hx
  ·have hj1:2*j<2^(k+1):=by rw[Nat.pow_succ];omega
   have hj2:2*j+1<2^(k+1):=by rw[Nat.pow_succ];omega
   intro x hx
   rcases List.mem_append.1 hx with hx|hx
   ·exact cut_ht b e _ _ _ (by omega) hj1 h2 x hx
   ·rcases List.mem_cons.1 hx with rfl|hx
    ·exact pt_ht b (by omega) (by omega)
    ·exact cut_ht b e _ _ _ (by omega) hj2 h3 x hx
theorem sh_of{p:List ARat}{r:ARange}(g1:p.length≤6∧∀a∈p,a.num.length≤1∧a.den.length≤1)(g2:r.lo.num.length≤1∧r.lo.den.length≤1)(g2':r.hi.num.length≤1∧r.hi.den.length≤1)(he:err31 p r=0)(ck:Contract prg 75 [polyPV p,r.pv] .nilI):Sh p r:=by
 have hc:chk p=0:=by
  unfold err31 at he
  by_cases h:chk p=0
  ·exact h
  ·rw[if_neg h] at he;exact he
 have hr:r.ok=true:=by
  unfold err31 at he
  rw[if_pos hc] at he
  by_cases h:r.ok=true
  ·exact h
  ·rw[if_neg h] at he;exact absurd he (by decide)
 obtain⟨e,hz,hl,hf,hfn⟩:=short_fine g1 hc
 obtain⟨v1,v2,v3⟩:=ok_parts hr
 refine⟨by show polyPV ((vals p).map mkR)=_;rw[←e],?_,by unfold vals;rw[List.length_map],hz,hl,hf,hfn,ht_fit g2.1 g2.2 (by omega),ht_fit g2'.1 g2'.2 (by omega),v3,ck⟩
 unfold mkG
 rw[mkR_of v1,mkR_of v2]
theorem PositiveMakes(p:List ARat)(r:ARange)(depth:Int){A B:Prop}(_:A)(_:B)(hI:InI64 depth):Contract prg 7 [polyPV p,r.pv,vI depth] (vB true):=by
 obtain⟨b1,h1,g1⟩:=short1 p
 cases b1 with
 |false=>exact linkworklaw31_PositiveMakes.e0 p r _ _ _ h1 rfl awake
 |true =>
  obtain⟨b2,h2,g2⟩:=brief r
  cases b2 with
  |false=>exact linkworklaw31_PositiveMakes.e1 p r _ _ _ _ h1 rfl h2 rfl awake
  |true =>
   have hrt:=CBa.Rats [] [] (by simp) (fun a ha=>by cases ha)
   have g1:=g1 rfl
   obtain⟨g2,g2'⟩:=g2 rfl
   have fp:FitP 274877906944 p:=fun a ha=>by have:=g1.2 a ha;omega
   have fr:FitG 68719476736 r:=⟨by omega,by omega⟩
   have ck:=CPs.check p r fp fr
   have cr:=CPt.Error p r fp fr
   have bad:∀n:Int,n≠0→Contract prg 37 [polyPV p,r.pv,vI depth] (.tup [(⟨[]⟩:APosCert).pv,errPV (some n)])→Contract prg 38 [polyPV p,r.pv,vI depth] (.tup [(⟨[]⟩:APosCert).pv,vI n])→Contract prg 7 [polyPV p,r.pv,vI depth] (vB true):=by
    intro n hn m1 m2
    by_cases hd:depth≤5
    ·exact linkworklaw31_PositiveMakes.e7 p r _ _ _ _ _ (some n) _ _ _ _ h1 rfl h2 rfl hd awake rfl m1 m2 (CBa.Num _) rfl hrt rfl hn
    ·by_cases h8:depth≤8
     ·exact linkworklaw31_PositiveMakes.e2 p r _ _ _ _ h1 rfl h2 rfl (by omega) h8 awake
     ·exact linkworklaw31_PositiveMakes.e4 p r depth _ _ _ _ (some n) _ _ _ _ h1 rfl h2 rfl (by omega) (by omega) awake rfl m1 m2 (CBa.Num _) rfl hrt rfl hn
   by_cases he:err31 p r=0
   ·rw[he] at ck cr
    by_cases hneg:depth<0
    ·exact bad 3 (by decide) (positive_Make.e0 p r _ ck hneg) (linkworkref31_Make.e1 p r _ _ cr rfl hneg)
    by_cases h8:8<depth
    ·exact bad 3 (by decide) (positive_Make.e1 p r _ ck (by omega) h8) (linkworkref31_Make.e2 p r _ _ cr rfl (by omega) h8)
    by_cases h5:5<depth
    ·exact linkworklaw31_PositiveMakes.e2 p r _ _ _ _ h1 rfl h2 rfl h5 (by omega) awake
    obtain⟨d,rfl⟩:=Int.eq_ofNat_of_zero_le (show 0≤depth by omega)
    have s:=sh_of g1 g2 g2' he ck
    obtain⟨m1,m2⟩:=make s d (by omega) cr
    obtain⟨m3,_⟩:=make s (d+1) (by omega) cr
    unfold makeQ at m1 m2 m3
    cases hp:posR (vals p) r.lo.val r.hi.val with
    |false =>
     rw[hp,cond_false] at m1 m2
     exact bad 21 (by decide) m1 m2
    |true =>
     rw[hp,cond_true] at m1 m2 m3
     cases hc:cutQ (vals p) r.lo.val (r.hi.val-r.lo.val) d 0 0 with
     |none =>
      rw[hc] at m1 m2
      exact bad 15 (by decide) m1 m2
     |some l =>
      rw[hc] at m1 m2
      rw[cutQ_more _ _ _ _ hc] at m3
      have hht:=cut_ht s.base d 0 0 l (by omega) (by decide) hc
      have hln:=cutQ_len _ _ _ _ hc
      have hp5:2^d≤2^5:=Nat.pow_le_pow_right (by omega) (by omega)
      have hs:∀x∈(⟨l.map mkR⟩:APosCert).cuts,x.num.length≤40∧x.den.length≤40:=by
       intro x hx
       obtain⟨y,hy,rfl⟩:=List.mem_map.1 hx
       have:=fit_mkRk (hht y hy)
       omega
      have V:=CPs.Verify s.piece s.t1 s.t2 ⟨l.map mkR⟩ hs
      rw[s.ep,s.er] at V
      have hl255:Nat.ble (⟨l.map mkR⟩:APosCert).cuts.length 255=true:=Nat.ble_eq_true_of_le (by show(l.map mkR).length≤255;rw[lenM];omega)
      rw[hl255,cond_true,cond_true] at V
      have hle:=s.le
      obtain⟨q0,q1⟩:=pt0 r.lo.val (r.hi.val-r.lo.val)
      have q1:ptQ r.lo.val (r.hi.val-r.lo.val) 0 (0+1)=r.hi.val:=by rw[q1];grind
      have good:verC r.lo.val r.hi.val none (l.map mkR)=0∧verP (vals p) r.lo.val (l++[r.hi.val])=true:=by
       by_cases hw:r.lo.val<r.hi.val
       ·obtain⟨a1,a2⟩:=cutQ_good (show 0<r.hi.val-r.lo.val by grind) d 0 0 l hc
        rw[q0,q1] at a1 a2
        exact⟨sasc_verC l _ _ a1 Rat.le_refl (Or.inl rfl),a2⟩
       ·have e:r.hi.val-r.lo.val=0:=by grind
        have hpp:0<evalL (vals p) r.lo.val:=by
         unfold posR at hp
         rw[Bool.and_eq_true,decide_eq_true_eq] at hp
         exact hp.1
        have hne:vals p≠[]:=by
         intro h0
         rw[h0] at hpp
         exact absurd hpp Rat.lt_irrefl
        have hcl:=clear_point hne hpp
        have hl0:l=[]:=by
         rw[cutQ_def,q0,q1,e,hcl,cond_true] at hc
         injection hc with hc
         exact hc.symm
        subst hl0
        refine⟨rfl,?_⟩
        rw[List.nil_append,verP,verP,e,hcl];rfl
      have hv2:verB (vals p) r.lo.val r.hi.val (⟨l.map mkR⟩:APosCert).cuts=true:=by
       unfold verB
       show(decide (verC r.lo.val r.hi.val none (l.map mkR)=0)&&verP (vals p) r.lo.val (vals (l.map mkR)++[r.hi.val]))=true
       rw[good.1,vals_mkR,good.2];rfl
      have hv3:verC r.lo.val r.hi.val none (⟨l.map mkR⟩:APosCert).cuts=0:=good.1
      rw[hv2,hv3] at V
      have hrt2:=CBa.Rats (l.map mkR) (l.map mkR) (by rw[lenM];omega) (fun a ha=>by have:=hs a ha;omega)
      rw[eqRs_self] at hrt2
      exact linkworklaw31_PositiveMakes.e8 p r _ _ _ _ _ none _ _ _ _ _ _ _ h1 rfl h2 rfl (by omega) awake rfl m1 m2 (CBa.Num none) rfl hrt2 rfl rfl V (by unfold InI64;omega) m3 rfl hrt2
   ·rw[errOf_ne he] at ck
    exact bad _ he (positive_Make.e6 p r _ _ ck) (linkworkref31_Make.e0 p r _ _ cr he)
end C31
end Go.Proofs.YtbgkjomonebfcaaGreat.Sym
namespace Go.Proofs.YtbgkjomonebfcaaGreat.Sym
open Go Go.RowKit Go.ChangeShapes Go.WideShapes Go.ChangeAt
set_option linter.unusedVariables false
namespace RowPositiveMakes
theorem own:ownKnob Tryz.prog.godebug=none:=by kernel_rfl
theorem laid:laidOutB prg=true:=by kernel_rfl
theorem okArg{P:Program}{W:World}{base:Nat}{ps:Array TypeId}{args:Array Value}(hval:∀(j:Nat) t v,ps[j]? = some t→args[j]? = some v→Value.okWide P W .any base t v)(j:Nat){t:TypeId}{v:Value}(h1:ps[j]? = some t)(h2:args[j]? = some v):Value.okWide P W .any base t v:=hval j t v h1 h2
set_option maxRecDepth 100000 in
theorem contract(H:Type)(enc:TypeId×Value→H)(W:World)(base:Nat)(args:Array Value)(ds gs:List (DataW H))(before:List MemPlace)
  (hval:∀(j:Nat) t v,Tryz.f7.params[j]? = some t→args[j]? = some v→Value.okWide Tryz.prog W .any base t v)
  (hW:DataW.Whole enc Tryz.prog Tryz.f7.params.toList Rows.positiveMakesSpec.vars false W args.toList ds gs before)
  (hz:(DataW.weightsEach Tryz.prog (Tryz.f7.params.toList++Rows.positiveMakesSpec.plain.varTypes Tryz.prog) (ds++gs)).all (·≤reachBytes)=true) :
  Calls Tryz.prog 7 args W fun e W'=>∃v,e = .returned v∧Rows.positiveMakesSpec.post enc Tryz.prog Tryz.f7 false true false false W args v W':=by
 have hW':=hW
 obtain⟨p,q,hA,hV,rfl,hfz,hnd⟩:=hW
 have hp:Tryz.f7.params = #[23,28,3]:=by kernel_rfl
 rw[hp] at hA hval hz
 obtain⟨v0,vs0,d0,ds0,p0,q0,hargs,rfl,rfl,h0,r0⟩:=trodAll_cons hA
 obtain⟨v1,vs1,d1,ds1,p1,q1,rfl,rfl,rfl,h1,r1⟩:=trodAll_cons r0
 obtain⟨v2,vs2,d2,ds2,p2,q2,rfl,rfl,rfl,h2,r2⟩:=trodAll_cons r1
 obtain⟨rfl,rfl,rfl⟩:=trodAll_nil r2
 obtain rfl:args = #[v0,v1,v2]:=by cases args;simp_all
 obtain⟨rfl,rfl⟩:=trodVars_none hV
 obtain⟨n0,hn0⟩:=h0
 have hw0:∀k∈d0.weights prg 23,k≤reachBytes:=by
  intro k hk
  have:=List.all_eq_true.1 hz k (DataW.weights_mem_each (j:=0) rfl rfl k hk)
  simpa using this
 obtain⟨x0,hx0,b0⟩:=opens_poly enc W 0 (fun _=>true) true n0 _ _ hn0 hw0
 obtain⟨ra0,rl0,rc0,rfl⟩:=okWide_slice (show Tryz.prog.underlying 23=some (.slice 26) by kernel_rfl) (okArg hval 0 (t:=23) (v:=v0) (by simp) (by simp))
 have hrd0:Rd (Old W) W (polyPV x0) (.slice ra0 rl0 rc0):=(hx0.2 0 _ _ rfl rfl).2
 obtain⟨n1,hn1⟩:=h1
 have hw1:∀k∈d1.weights prg 28,k≤reachBytes:=by
  intro k hk
  have:=List.all_eq_true.1 hz k (DataW.weights_mem_each (j:=1) rfl rfl k hk)
  simpa using this
 obtain⟨x1,hx1,b1⟩:=opens_ARange enc W 0 (fun _=>true) true n1 _ _ hn1 hw1
 obtain⟨fs1,hu1,_⟩:=flds_spec (show fldsOf (prg.underlying 28)=some [(26,0),(26,3)] by kernel_rfl)
 have hv1:Value.okWide Tryz.prog W .any base 28 v1:=okArg hval 1 (by simp) (by simp)
 have hrd1:Rd (Old W) W x1.pv v1:=rd_struct (P:=Tryz.prog) (cs:=x1.cells) hu1 hv1 hx1
 obtain⟨n2,hn2⟩:=h2
 have hw2:∀k∈d2.weights prg 3,k≤reachBytes:=by
  intro k hk
  have:=List.all_eq_true.1 hz k (DataW.weights_mem_each (j:=2) rfl rfl k hk)
  simpa using this
 obtain⟨x2,hx2,b2⟩:=(opens_int (k := .i64) (show prg.underlying 3=some (.int .i64) by kernel_rfl)) enc W 0 (fun _=>true) true n2 _ _ hn2 hw2
 obtain⟨m2,rfl,_,_,_⟩:=open_int (show Tryz.prog.underlying 3=some (.int .i64) by kernel_rfl) (okArg hval 2 (t:=3) (v:=v2) (by simp) (by simp)) (⟨n2,hn2⟩:DataW.Trod enc Tryz.prog W 0 (fun _=>true) true 3 v2 d2 p2)
 have hrd2:Rd (Old W) W (.int .i64 x2) (.int .i64 m2):=by
  have:=(hx2.2 0 _ _ rfl rfl).2
  exact this
 have hc:=C31.PositiveMakes x0 x1 x2 b0 b1 (i64_val b2)
 refine(hc.2 (Old W) W (fun _=>none) #[.slice ra0 rl0 rc0,v1,.int .i64 m2] (fun b hb=>hb) ⟨(fun r sc h=>by cases h),(fun r r' b h=>by obtain⟨_,h⟩:=h)⟩ rfl ?_).mono ?_
 ·intro j e v he hv
  cases j with
  |zero=>simp at he hv;subst he hv;exact hrd0
  |succ j =>
   cases j with
   |zero=>simp at he hv;subst he hv;exact hrd1
   |succ j =>
    cases j with
    |zero=>simp at he hv;subst he hv;exact hrd2
    |succ j=>simp at he
 ·intro e W' ⟨v,β',he,_,hk,_,hv,_⟩
  subst he
  have hv:Rd _ W' (vB true) v:=hv
  cases hv
  have hk':Keeps (fun _=>False) W W':=⟨hk.os,hk.tape,hk.output,hk.size,fun k h1 _=>hk.block k h1 (fun ⟨y,hy,_⟩=>by obtain⟨_,hy⟩:=hy),hk.shape⟩
  refine⟨_,rfl,post_true (tb:=4) hW' hk' rfl (by kernel_rfl) (by kernel_rfl) rfl rfl rfl laid ?_⟩
  rw[hp]
  intro t ht
  have:t=23∨t=28∨t=3:=by simpa using ht
  rcases this with rfl|rfl|rfl
  all_goals exact⟨by kernel_rfl,of_decide_eq_true (by kernel_rfl)⟩
set_option maxRecDepth 100000 in
theorem lifted(os:Os)(started:os.Started)(H:Type)(enc:TypeId×Value→H) :
  ReturnsInHanded {} Tryz.checked os 7 .any (Rows.positiveMakesSpec.pre6 enc Tryz.prog Tryz.f7 Rows.positiveMakesRow.domain false) (Rows.positiveMakesSpec.post enc Tryz.prog Tryz.f7 false true false false):=by
 refine returnsInHanded_of_change_sized (C:=Tryz.checked) own started (by kernel_rfl) Tryz.func7
  (ChangeSpec.witness6 (enc:=enc) (C:=Tryz.checked) false ⟨#[],#[.slice none 0 0,.agg #[.bool false,.slice none 0 0,.slice none 0 0,.bool false,.slice none 0 0,.slice none 0 0],.int .i64 0],[]⟩ 8 (by kernel_rfl) (by kernel_rfl) (by kernel_rfl) (by kernel_rfl)) ?_
 intro W base args ds gs before hval hW _ hz _
 exact contract H enc W base args ds gs before hval hW hz
theorem j1:(Rows.positiveMakesRow.inPlace==Tryz.prog.inPlace 7)=true:=by kernel_rfl
theorem j2:(Rows.positiveMakesRow.unfollowed==Tryz.prog.unfollowed 7)=true:=by kernel_rfl
theorem j3:(Rows.positiveMakesRow.recurses==Tryz.prog.recurses 7)=true:=by kernel_rfl
theorem j4:(Rows.positiveMakesRow.named==Tryz.prog.varsNamed 7)=true:=by kernel_rfl
theorem closed:joinedFacts Tryz.prog 7 Tryz.f7 Rows.positiveMakesSpec Rows.positiveMakesRow=true:=by
 unfold joinedFacts
 rw[j1,j2,j3,j4]
 kernel_rfl
theorem proved:Rows.PositiveMakesSaid :=
 OpenClaim.holds_of_wide 7 Tryz.f7 rfl rfl rfl rfl rfl rfl rfl ⟨rfl,rfl,rfl,rfl,rfl⟩ rfl rfl rfl rfl rfl (by kernel_rfl) Tryz.func7 closed
  (of_decide_eq_true (by kernel_rfl)) (by unfold Func.isWrapper;first|(rw [if_pos (by decide +kernel)];kernel_rfl)|(rw [if_neg (by decide +kernel)];exact⟨rfl,rfl⟩))
  (fun os started H enc _=>lifted os started H enc)
end RowPositiveMakes
end Go.Proofs.YtbgkjomonebfcaaGreat.Sym
