/- The comparison of algebraic numbers is a total order that agrees with the comparison with fractions. The law AlgebraicOrder returns true for every input, with the tables of numerals of the Go library that the row lists as they are laid. -/
import Derived.Test.YtllmkadmohkbfaaGreatDoorM2
import Derived.Test.YtllmkadmohkbfaaGreatDoorM1
import Derived.Test.YtllmkadmohkbfaaGreatDoorM0
import Derived.Test.YtllmkadmohkbfaaGreatDoorChecked
import Derived.Shelf.Strings.BuilderX
import Derived.Shelf.Lays
import Derived.KernelRfl
import Derived.Test.YtllmkadmohkbfaaGreatDoorYObs
import Derived.Shelf.Strconv.Itoa3
import Derived.Shelf.Strings.OnBuilder
namespace Go.Proofs.YtllmkadmohkbfaaGreatDoor.Sym
open Go Path bN
set_option linter.unusedVariables false
namespace HZ
theorem check(p:List af)(hp:kr 274877906944 p):Cp 165 [ae p] (bc (ET (if oJ p=0 then (if p.length=0 then 8 else 0) else oJ p))):=by
 have hk:=FF.Check p hp
 by_cases h:oJ p=0
 ·rw[if_pos h]
  rw[h] at hk
  by_cases h0:p.length=0
  ·rw[if_pos h0];exact oR.e0 p hk h0
  ·rw[if_neg h0];exact oR.e1 p hk h0
 ·rw[if_neg h]
  rw[rQ h] at hk ⊢
  exact oR.e2 p _ hk
theorem chain{h L:Nat}{p:List Rat}(f:dz h L p):Cp 151 [pq p] (.aE [Mc (bL p),.az]):=by
 have hL:=f.hL
 have LY:=f.fb
 obtain⟨f1,f2,_⟩:=free_spec f.zp f.ne
 have DM:=f.nR
 have hl:=f.len
 have I7:=f.vF.fl LY.2.2.1
 have hd:=FF.qD ((bx p).map aN) (eK f1 (by omega)) (fW (fg I7 (by omega)))
 rw[dN] at hd
 have loop:∀(n i j:Nat) (pre:List (List Rat)) (q d:List Rat),d.length<n→pre.length+n≤20→vz (fB h L) (fB h L+1) L i j q d→mA.ah (d.map aN) ((pre++[q]).map (fun g=>g.map aN)) (.aE [Mc (pre++chainF n q d),.az]):=by
  intro n
  induction n with
  |zero=>intro i j pre q d hn;omega
  |succ n ih =>
   intro i j pre q d hn GY e
   by_cases h0:d=[]
   ·subst h0
    rw[hX]
    exact mA.ta _ _ (by simp)
   ·rw[fk h0]
    obtain⟨c1,c2⟩:=yz.next LY.2.2.1 (Nat.le_succ _) (by omega) f.HY e h0
    obtain⟨r1,r2⟩:=e.rest (Nat.le_succ _) h0
    have hc:Ch (xB (fB h L) (fB h L+1) (j+(q.length-d.length))) (aJ (a6 (-1) (bm q d))):=by
     refine Ch.trim ?_
     obtain⟨D,d1,d2,d3⟩:=r1
     refine⟨D,d1,d2,fun i => ?_⟩
     obtain⟨m,m1,m2⟩:=d3 i
     refine⟨-m,?_,by rw[gF];exact m2⟩
     rw[ck,Rat.intCast_neg,←m1];grind
    have next:=ih _ _ (pre++[q]) d _ (by have:=fZ (p:=q) e.zq h0;omega) (by rw[List.length_append,List.length_singleton];omega) (e.next (Nat.le_succ _) h0 hc (fZ e.zq h0) (bg _))
    have es:(pre++[q]).map (fun g=>g.map aN)++[d.map aN]=(pre++[q]++[d]).map (fun g=>g.map aN):=by rw[List.map_append (l₁:=pre++[q])];rfl
    have hlen:((pre++[q]++[d]).map (fun g=>g.map aN)).length=pre.length+2:=by simp
    have vD:=rO.Of (-1) (by unfold ax;omega)
    have:=List.length_pos_iff.2 h0
    refine mA.l10 _ _ pre.length (q.map aN) _ _ _ _ (by rw[bF];omega) (by rw[es,hlen];omega) (by rw[es,hlen];unfold ax;omega) (by rw[es,hlen];omega) (by rw[es,hlen];omega) (by rw[es];simp) c1 vD c2 ?_
    rw[es]
    have e2:pre++[q]++chainF n d (aJ (a6 (-1) (bm q d)))=pre++q::chainF n d (aJ (a6 (-1) (bm q d))):=by simp
    rwa[e2] at next
 have:=loop (bx p).length 0 1 [] (bx p) (ak (bx p)) (ja f2) (by simp;omega) f.vG
 exact mA.e0 _ _ _ (yz.GN f) hd this
theorem changes(G:List (List Rat))(x:Rat)(hG:∀g∈G,aK g=false∧Fl 1073741824 g∧g.length≤10)(hl:G.length≤1000)(hx:ht x≤1073741824):Cp 238 [Mc G,(aN x).pv] (vI (fK G x)):=by
 have loop:∀(j t n:Nat) (l:Int),G.length-t=j→t≤G.length→n≤t → -1≤l→l≤1→gj.ah n l (G.map (fun g=>g.map aN)) t (aN x) (vI ((n:Int)+varS l ((G.drop t).map (fun g=>sg (evalL g x))))):=by
  intro j
  induction j with
  |zero =>
   intro t n l hj ht hn _ _
   rw[List.drop_of_length_le (by omega),List.map_nil,varS,Int.add_zero]
   exact gj.ta n l _ t _ (by rw[List.length_map];omega)
  |succ j ih =>
   intro t n l hj WO hn xe Nc
   obtain⟨g,hg⟩:∃g,G[t]? = some g:=⟨_,List.getElem?_eq_getElem (by omega)⟩
   obtain⟨z,fl,ln⟩:=hG g (List.mem_of_getElem? hg)
   have hm:(G.map (fun g=>g.map aN))[t]? = some (g.map aN):=by rw[List.getElem?_map,hg];rfl
   have qZ:=FF.Eval (g.map aN) (aN x) (eK z (by omega)) (fW fl) (bk hx)
   rw[dN,bB] at qZ
   have h3:=mY g x 1073741824 fl hx
   have h4:g.length*(2*1073741824+1)≤10*(2*1073741824+1):=Nat.mul_le_mul_right _ ln
   have hs:=QF.Sign (evalL g x) (by omega)
   have hv:=se.e0 _ _ _ none _ qZ hs
   have Nf:fJ (evalL g x) 0=sg (evalL g x):=rfl
   have Vm:=jW (evalL g x)
   rw[Nf] at hv
   have bh:t<(G.map (fun g=>g.map aN)).length:=by rw[List.length_map];omega
   rw[drop_cons hg,List.map_cons,varS]
   generalize sg (evalL g x)=s at hv Vm
   by_cases h0:s=0
   ·rw[if_pos h0]
    exact gj.kI n l _ t _ _ _ bh hm hv h0 (by omega) (ih (t+1) n l (by omega) (by omega) (by omega) xe Nc)
   ·rw[if_neg h0]
    by_cases h1:s = -l
    ·rw[if_pos h1]
     have:=ih (t+1) (n+1) s (by omega) (by omega) (by omega) (by omega) (by omega)
     rw[show (((n+1:Nat):Int))+varS s ((G.drop (t+1)).map (fun g=>sg (evalL g x)))=(n:Int)+(1+varS s ((G.drop (t+1)).map (fun g=>sg (evalL g x)))) from by omega] at this
     exact gj.l10 n l _ t _ _ _ bh hm hv h0 (by unfold ax;omega) h1 (by omega) (by omega) this
    ·rw[if_neg h1,Int.zero_add]
     exact gj.cV n l _ t _ _ _ bh hm hv h0 (by unfold ax;omega) h1 (by omega) (ih (t+1) n s (by omega) (by omega) (by omega) (by omega) (by omega))
 have:=loop _ 0 0 0 rfl (by omega) (by omega) (by omega) (by omega)
 rw[List.drop_zero,show(((0:Nat):Int))=0 from rfl,Int.zero_add] at this
 exact gj.e0 _ _ this
theorem ni{h L:Nat}{p:List Rat}(f:dz h L p):∀g∈bL p,aK g=false∧Fl 1073741824 g∧g.length≤10:=by
 intro g hg
 refine⟨?_,f.chain g hg⟩
 have key:∀(n:Nat) (p d:List Rat),aK p=false→aK d=false→∀g∈chainF n p d,aK g=false:=by
  intro n
  induction n with
  |zero=>intro p d hp _ g hg;rw[chainF,List.mem_singleton] at hg;rw[hg];exact hp
  |succ n ih =>
   intro p d hp hd g hg
   by_cases h:d=[]
   ·rw[h,hX,List.mem_singleton] at hg;rw[hg];exact hp
   ·rw[fk h] at hg
    rcases List.mem_cons.1 hg with hg|hg
    ·rw[hg];exact hp
    ·exact ih d _ hd (bg _) g hg
 exact key _ _ _ (free_spec f.zp f.ne).1 (ba _) g hg
theorem Count{h L:Nat}{p:List Rat}(f:dz h L p)(lo hi:Rat)(Yl:lo≤hi)(h1:ht lo≤1073741824)(h2:ht hi≤1073741824):Cp 246 [pq p,(aN lo).pv,(aN hi).pv] (.aE [vI (fK (bL p) lo-fK (bL p) hi),.az]):=by
 have hc:=f.oQ
 have tF:=check (p.map aN) (r7 (f.ch.fl f.h1) (by have:=f.fb;omega))
 have hp:=List.length_pos_iff.2 f.ne
 rw[f.oJ,if_pos rfl,if_neg (by rw[bF];omega)] at tF
 obtain⟨a1,a2⟩:=kC (bL p) lo
 obtain⟨b1,b2⟩:=kC (bL p) hi
 exact xI.e3 _ _ _ _ _ _ _ _ _ tF (QF.Valid lo (by omega)) rfl (QF.Valid hi (by omega)) rfl (QF.rb lo hi (by omega) (by omega)) (vp.2 Yl) (chain f) (changes _ lo (ni f) (by omega) h1) (changes _ hi (ni f) (by omega) h2) (by unfold ax;omega)
end HZ
namespace Si
theorem Error(p:List af)(hp:kr 274877906944 p):Cp 83 [ae p] (vI (if oJ p=0 then (if p.length=0 then 8 else 0) else oJ p)):=by
 have hk:=Jm.Check p hp
 by_cases h:oJ p=0
 ·rw[if_pos h]
  by_cases h0:p.length=0
  ·rw[if_pos h0];exact gx.e1 p _ hk h h0
  ·rw[if_neg h0];exact gx.e2 p _ hk h h0
 ·rw[if_neg h];exact gx.e0 p _ hk h
theorem chain{h L:Nat}{p:List Rat}(f:dz h L p):Cp 159 [pq p] (Mc (bL p)):=by
 have hL:=f.hL
 have LY:=f.fb
 obtain⟨f1,f2,_⟩:=free_spec f.zp f.ne
 have DM:=f.nR
 have hl:=f.len
 have I7:=f.vF.fl LY.2.2.1
 have hd:=Jm.qD ((bx p).map aN) (eK f1 (by omega)) (fW (fg I7 (by omega)))
 rw[dN] at hd
 have loop:∀(n i j:Nat) (pre:List (List Rat)) (q d:List Rat),d.length<n→pre.length+n≤20→vz (fB h L) (fB h L+1) L i j q d→fa.ah (d.map aN) ((pre++[q]).map (fun g=>g.map aN)) (Mc (pre++chainF n q d)):=by
  intro n
  induction n with
  |zero=>intro i j pre q d hn;omega
  |succ n ih =>
   intro i j pre q d hn GY e
   by_cases h0:d=[]
   ·subst h0
    rw[hX]
    exact fa.cV _ _ (by simp)
   ·rw[fk h0]
    obtain⟨c1,c2⟩:=Bl.next LY.2.2.1 (Nat.le_succ _) (by omega) f.HY e h0
    obtain⟨r1,r2⟩:=e.rest (Nat.le_succ _) h0
    have hc:Ch (xB (fB h L) (fB h L+1) (j+(q.length-d.length))) (aJ (a6 (-1) (bm q d))):=by
     refine Ch.trim ?_
     obtain⟨D,d1,d2,d3⟩:=r1
     refine⟨D,d1,d2,fun i => ?_⟩
     obtain⟨m,m1,m2⟩:=d3 i
     refine⟨-m,?_,by rw[gF];exact m2⟩
     rw[ck,Rat.intCast_neg,←m1];grind
    have next:=ih _ _ (pre++[q]) d _ (by have:=fZ (p:=q) e.zq h0;omega) (by rw[List.length_append,List.length_singleton];omega) (e.next (Nat.le_succ _) h0 hc (fZ e.zq h0) (bg _))
    have es:(pre++[q]).map (fun g=>g.map aN)++[d.map aN]=(pre++[q]++[d]).map (fun g=>g.map aN):=by rw[List.map_append (l₁:=pre++[q])];rfl
    have hlen:((pre++[q]++[d]).map (fun g=>g.map aN)).length=pre.length+2:=by simp
    have vD:=Ad.Of (-1) (by unfold ax;omega)
    have:=List.length_pos_iff.2 h0
    refine fa.l10 _ _ pre.length (q.map aN) _ _ _ _ _ _ (by rw[bF];omega) (by rw[es,hlen];omega) (by rw[es,hlen];unfold ax;omega) (by rw[es,hlen];omega) (by rw[es,hlen];omega) (by rw[es];simp) c1 vD c2 ?_
    rw[es]
    have e2:pre++[q]++chainF n d (aJ (a6 (-1) (bm q d)))=pre++q::chainF n d (aJ (a6 (-1) (bm q d))):=by simp
    rwa[e2] at next
 have:=loop (bx p).length 0 1 [] (bx p) (ak (bx p)) (ja f2) (by simp;omega) f.vG
 exact fa.e0 _ _ _ _ _ (Bl.GN f) hd this
theorem changes(G:List (List Rat))(x:Rat)(hG:∀g∈G,aK g=false∧Fl 1073741824 g∧g.length≤10)(hl:G.length≤1000)(hx:ht x≤1073741824):Cp 241 [Mc G,(aN x).pv] (vI (fK G x)):=by
 have loop:∀(j t n:Nat) (l:Int),G.length-t=j→t≤G.length→n≤t → -1≤l→l≤1→cR.ah n l (G.map (fun g=>g.map aN)) t (aN x) (vI ((n:Int)+varS l ((G.drop t).map (fun g=>sg (evalL g x))))):=by
  intro j
  induction j with
  |zero =>
   intro t n l hj ht hn _ _
   rw[List.drop_of_length_le (by omega),List.map_nil,varS,Int.add_zero]
   exact cR.ta n l _ t _ (by rw[List.length_map];omega)
  |succ j ih =>
   intro t n l hj WO hn xe Nc
   obtain⟨g,hg⟩:∃g,G[t]? = some g:=⟨_,List.getElem?_eq_getElem (by omega)⟩
   obtain⟨z,fl,ln⟩:=hG g (List.mem_of_getElem? hg)
   have hm:(G.map (fun g=>g.map aN))[t]? = some (g.map aN):=by rw[List.getElem?_map,hg];rfl
   have qZ:=Jm.At (g.map aN) (aN x) (by rw[bF];omega) (fW fl) (bk hx)
   rw[dN,bB] at qZ
   have h3:=mY g x 1073741824 fl hx
   have h4:g.length*(2*1073741824+1)≤10*(2*1073741824+1):=Nat.mul_le_mul_right _ ln
   have hv:=QR.Sign (evalL g x) (by omega)
   have Nf:fJ (evalL g x) 0=sg (evalL g x):=rfl
   have Vm:=jW (evalL g x)
   rw[Nf] at hv
   have bh:t<(G.map (fun g=>g.map aN)).length:=by rw[List.length_map];omega
   rw[drop_cons hg,List.map_cons,varS]
   generalize sg (evalL g x)=s at hv Vm
   by_cases h0:s=0
   ·rw[if_pos h0]
    exact cR.l10 n l _ t _ _ _ _ bh hm qZ hv h0 (by omega) (ih (t+1) n l (by omega) (by omega) (by omega) xe Nc)
   ·rw[if_neg h0]
    by_cases h1:s = -l
    ·rw[if_pos h1]
     have:=ih (t+1) (n+1) s (by omega) (by omega) (by omega) (by omega) (by omega)
     rw[show (((n+1:Nat):Int))+varS s ((G.drop (t+1)).map (fun g=>sg (evalL g x)))=(n:Int)+(1+varS s ((G.drop (t+1)).map (fun g=>sg (evalL g x)))) from by omega] at this
     exact cR.cV n l _ t _ _ _ _ bh hm qZ hv h0 (by unfold ax;omega) h1 (by omega) (by omega) this
    ·rw[if_neg h1,Int.zero_add]
     exact cR.kI n l _ t _ _ _ _ bh hm qZ hv h0 (by unfold ax;omega) h1 (by omega) (ih (t+1) n s (by omega) (by omega) (by omega) (by omega) (by omega))
 have:=loop _ 0 0 0 rfl (by omega) (by omega) (by omega) (by omega)
 rw[List.drop_zero,show(((0:Nat):Int))=0 from rfl,Int.zero_add] at this
 exact cR.e0 _ _ this
theorem count{h L:Nat}{p:List Rat}(f:dz h L p)(lo hi:Rat)(h1:ht lo≤1073741824)(h2:ht hi≤1073741824):Cp 249 [pq p,(aN lo).pv,(aN hi).pv] (vI (fK (bL p) lo-fK (bL p) hi)):=by
 have hc:=f.oQ
 obtain⟨a1,a2⟩:=kC (bL p) lo
 obtain⟨b1,b2⟩:=kC (bL p) hi
 exact mQ.e0 _ _ _ _ _ _ (chain f) (changes _ lo (HZ.ni f) (by omega) h1) (changes _ hi (HZ.ni f) (by omega) h2) (by unfold ax;omega)
end Si
end Go.Proofs.YtllmkadmohkbfaaGreatDoor.Sym
namespace Go.Proofs.YtllmkadmohkbfaaGreatDoor.Sym
open Go Path bN
set_option linter.unusedVariables false
def pf(a b:Rat):aj:=⟨aN a,aN b⟩
def aj.ok(r:aj):Bool:=r.lo.valid&&(r.hi.valid&&decide (r.lo.val≤r.hi.val))
def jX(r:aj):Rat:=bif r.ok then r.lo.val else 0
def l9(r:aj):Rat:=bif r.ok then r.hi.val else 0
theorem vH{r:aj}(h:r.ok=true):r.lo.valid=true∧r.hi.valid=true∧r.lo.val≤r.hi.val:=by
 unfold aj.ok at h
 simp only[Bool.and_eq_true,decide_eq_true_eq] at h
 exact h
theorem Ll(r:aj):jX r≤l9 r:=by
 unfold jX l9
 cases h:r.ok with
 |true=>exact(vH h).2.2
 |false=>exact Rat.le_refl
theorem AB{a b:Rat}(h:a≤b):(pf a b).ok=true:=by
 unfold aj.ok pf
 simp only[sH,bB,decide_eq_true h,Bool.and_self]
theorem sf{a b:Rat}(h:a≤b):jX (pf a b)=a:=by unfold jX;rw[AB h,cond_true];exact bB a
theorem si{a b:Rat}(h:a≤b):l9 (pf a b)=b:=by unfold l9;rw[AB h,cond_true];exact bB b
theorem Dw{r:aj}(h:r.ok=true):pf (jX r) (l9 r)=r:=by
 obtain⟨h1,h2,h3⟩:=vH h
 unfold pf jX l9
 rw[h,cond_true,cond_true,wI h1,wI h2]
theorem Np{r:aj}(h:r.ok=false):pf (jX r) (l9 r)=⟨⟨false,[],[]⟩,⟨false,[],[]⟩⟩:=by
 unfold pf jX l9
 rw[h];rfl
abbrev wU(k:Nat)(r:aj):Prop:=(r.lo.num.length≤k∧r.lo.den.length≤k)∧(r.hi.num.length≤k∧r.hi.den.length≤k)
theorem H0{a b:Rat}{k:Nat}(ha:ht a≤k)(hb:ht b≤k):wU k (pf a b):=⟨bk ha,bk hb⟩
theorem Lm{r:aj}{k:Nat}(h:wU k r)(hk:1≤k):ht (jX r)≤k:=by
 unfold jX
 cases r.ok with
 |true=>exact dD h.1.1 h.1.2 hk
 |false=>exact Nat.le_trans (Nat.le_of_eq jo) hk
theorem Ln{r:aj}{k:Nat}(h:wU k r)(hk:1≤k):ht (l9 r)≤k:=by
 unfold l9
 cases r.ok with
 |true=>exact dD h.2.1 h.2.2 hk
 |false=>exact Nat.le_trans (Nat.le_of_eq jo) hk
namespace Oo
theorem Valid(r:aj)(h:wU 68719476736 r):Cp 213 [r.pv] (vB r.ok):=by
 have h1:=rO.Valid r.lo ⟨by omega,by omega⟩
 have h2:=rO.Valid r.hi ⟨by omega,by omega⟩
 have h3:=rO.rb r.lo r.hi ⟨by omega,by omega⟩ ⟨by omega,by omega⟩
 unfold aj.ok
 cases hv:r.lo.valid with
 |false=>exact lx.e2 r _ h1 hv
 |true =>
  cases hw:r.hi.valid with
  |false=>exact lx.e1 r _ _ h1 hv h2 hw
  |true =>
   have:=lx.e0 r _ _ _ h1 hv h2 hw h3
   rwa[show decide (fJ r.lo.val r.hi.val≤0)=decide (r.lo.val≤r.hi.val) from decide_eq_decide.2 vp] at this
theorem clean(r:aj)(h:wU 68719476736 r):Cp 128 [r.pv] (pf (jX r) (l9 r)).pv:=by
 have hv:=Valid r h
 cases hk:r.ok with
 |false=>rw[Np hk];exact nN.e0 r _ hv hk
 |true =>
  obtain⟨h1,h2,h3⟩:=vH hk
  have:=nN.e1 r _ _ _ hv hk (FF.x7 r.lo ⟨by omega,by omega⟩) (FF.x7 r.hi ⟨by omega,by omega⟩)
  rw[wI h1,wI h2] at this
  rw[Dw hk];exact this
theorem H2(x:Rat)(hx:ht x≤68719476736):Cp 65 [(aN x).pv] (pf x x).pv:=rR.e0 _ _ _ (QF.x7 x hx) (QF.x7 x hx)
end Oo
namespace WQ
theorem Valid(r:aj)(h:wU 68719476736 r):Cp 247 [r.pv] (vB r.ok):=by
 have h1:=Ad.Valid r.lo ⟨by omega,by omega⟩
 have h2:=Ad.Valid r.hi ⟨by omega,by omega⟩
 have h3:=Ad.rb r.lo r.hi ⟨by omega,by omega⟩ ⟨by omega,by omega⟩
 unfold aj.ok
 cases hv:r.lo.valid with
 |false=>exact gw.e2 r _ h1 hv
 |true =>
  cases hw:r.hi.valid with
  |false=>exact gw.e1 r _ _ h1 hv h2 hw
  |true =>
   have:=gw.e0 r _ _ _ h1 hv h2 hw h3
   rwa[show decide (fJ r.lo.val r.hi.val≤0)=decide (r.lo.val≤r.hi.val) from decide_eq_decide.2 vp] at this
end WQ
end Go.Proofs.YtllmkadmohkbfaaGreatDoor.Sym
namespace Go.Proofs.YtllmkadmohkbfaaGreatDoor.Sym
open Go Path bN
set_option linter.unusedVariables false
def ptQ(a w:Rat)(k j:Nat):Rat:=a+w*Rat.divInt (j:Int) ((2^k:Nat):Int)
theorem AD(k:Nat):(((2^k:Nat):Int):Rat)≠0:=fun e=>by
 have:=Rat.intCast_inj.1 (show (((2^k:Nat):Int):Rat)=((0:Int):Rat) from e)
 have:=Nat.pow_pos (n:=k) (show 0<2 by omega)
 omega
theorem ma(a w:Rat)(k j:Nat):ptQ a w (k+1) (2*j)=ptQ a w k j:=by
 unfold ptQ
 congr 2
 have h:=AD k
 have h2:=AD (k+1)
 rw[Rat.divInt_eq_div,Rat.divInt_eq_div,Rat.div_def,Rat.div_def]
 have e:(((2^(k+1):Nat):Int):Rat)=(((2^k:Nat):Int):Rat)*2:=by
  rw[show (2:Rat)=((2:Int):Rat) from rfl,←Rat.intCast_mul];congr 1
 have e2:((2*j:Nat):Int)=(j:Int)*2:=by omega
 rw[e,e2,Rat.intCast_mul,show(((2:Int)):Rat)=2 from rfl,Rat.inv_mul_rev]
 have i2:(2:Rat)*2⁻¹=1:=by decide +kernel
 generalize ((((2^k:Nat):Int):Rat))⁻¹=u
 generalize ((j:Int):Rat)=v
 have:v*2*(2⁻¹*u)=v*(2*2⁻¹)*u:=by grind
 rw[this,i2];grind
theorem GO(a w:Rat)(k j:Nat):Rat.divInt 1 2*(ptQ a w k j+ptQ a w k (j+1))=ptQ a w (k+1) (2*j+1):=by
 rw[←ma a w k j,←ma a w k (j+1)]
 unfold ptQ
 rw[Rat.divInt_eq_div,Rat.divInt_eq_div,Rat.divInt_eq_div,Rat.divInt_eq_div,Rat.div_def,Rat.div_def,Rat.div_def,Rat.div_def]
 generalize ((((2^(k+1):Nat):Int):Rat))⁻¹=u
 have e1:((2*j:Nat):Int)=2*(j:Int):=by omega
 have e2:((2*(j+1):Nat):Int)=2*(j:Int)+2:=by omega
 have e3:((2*j+1:Nat):Int)=2*(j:Int)+1:=by omega
 rw[e1,e2,e3,Rat.intCast_add,Rat.intCast_add,Rat.intCast_mul]
 generalize ((j:Int):Rat)=v
 have i2:((1:Int):Rat)*(((2:Int):Rat))⁻¹=1/2:=by decide +kernel
 rw[i2,show((2:Int):Rat)=2 from rfl,show((1:Int):Rat)=1 from rfl]
 grind
theorem H3{w:Rat}(a:Rat)(h:0≤w)(k j:Nat):ptQ a w k j≤ptQ a w k (j+1):=by
 unfold ptQ
 have h2:Rat.divInt (j:Int) ((2^k:Nat):Int)≤Rat.divInt ((j+1:Nat):Int) ((2^k:Nat):Int):=by
  rw[Rat.divInt_eq_div,Rat.divInt_eq_div,Rat.div_def,Rat.div_def]
  refine Rat.mul_le_mul_of_nonneg_right (Rat.intCast_le_intCast.2 (by omega)) (Rat.le_of_lt (Rat.inv_pos.2 ?_))
  have:=Nat.pow_pos (n:=k) (show 0<2 by omega)
  exact Rat.intCast_lt_intCast.2 (show (0:Int)<_ by omega)
 have:=Rat.mul_le_mul_of_nonneg_left h2 h
 grind
theorem Lp(k:Nat){j:Nat}(hj:j≤2^k):wl (j:Int)≤k/32+1:=by
 refine pF ?_
 have h1:2^k<2^(32*(k/32+1)):=Nat.pow_lt_pow_right (by omega) (by omega)
 rw[Nat.pow_mul] at h1
 have h2:(2:Nat)^32=4294967296:=by decide
 rw[h2] at h1
 generalize 4294967296^(k/32+1)=P at h1 ⊢
 omega
theorem uy(a w:Rat){k j:Nat}(hj:j≤2^k):ht (ptQ a w k j)≤ht a+ht w+k/32+4:=by
 have h3:=sK (j:Int) ((2^k:Nat):Int)
 have h6:=Lp k hj
 have h7:=Lp k (Nat.le_refl (2^k))
 have h8:=ll w (Rat.divInt (j:Int) ((2^k:Nat):Int))
 have h9:=rM a (w*Rat.divInt (j:Int) ((2^k:Nat):Int))
 unfold ptQ
 omega
theorem Lq(a w:Rat)(k j:Nat):ptQ a w k (j+1)-ptQ a w k j=w*Rat.divInt 1 ((2^k:Nat):Int):=by
 unfold ptQ
 rw[Rat.divInt_eq_div,Rat.divInt_eq_div,Rat.divInt_eq_div,Rat.div_def,Rat.div_def,Rat.div_def]
 have e:(((j+1:Nat):Int):Rat)=((j:Int):Rat)+1:=by
  rw[show ((j+1:Nat):Int)=(j:Int)+1 from by omega,Rat.intCast_add];rfl
 have e1:((1:Int):Rat)=1:=rfl
 rw[e,e1]
 generalize ((((2^k:Nat):Int):Rat))⁻¹=u
 grind
theorem sV(a w:Rat):ptQ a w 0 0=a∧ptQ a w 0 1=a+w:=by
 have e0:Rat.divInt ((0:Nat):Int) ((2^0:Nat):Int)=0:=by decide +kernel
 have e1:Rat.divInt ((1:Nat):Int) ((2^0:Nat):Int)=1:=by decide +kernel
 unfold ptQ
 rw[e0,e1]
 constructor<;>grind
end Go.Proofs.YtllmkadmohkbfaaGreatDoor.Sym
namespace Go.Proofs.YtllmkadmohkbfaaGreatDoor.Sym
open Go Path bN
set_option linter.unusedVariables false
def jY(G:List (List Rat))(f:List Rat)(a w:Rat):Nat→Nat→Nat→Option (List (Rat×Rat))
 |0,_,_=>none
 |n+1,k,j=>if fK G (ptQ a w k j)-fK G (ptQ a w k (j+1))=0 then some [] else
  if fK G (ptQ a w k j)-fK G (ptQ a w k (j+1))=1∧evalL f (ptQ a w k j)≠0 then
   (if evalL f (ptQ a w k (j+1))=0 then some [(ptQ a w k (j+1),ptQ a w k (j+1))] else some [(ptQ a w k j,ptQ a w k (j+1))])
  else match jY G f a w n (k+1) (2*j),jY G f a w n (k+1) (2*j+1) with
   |some x,some y=>some (x++y)
   |_,_=>none
theorem AE{G:List (List Rat)}{f:List Rat}{a w:Rat} : ∀(n k j:Nat) (l:List (Rat×Rat)),jY G f a w n k j=some l→(l.length:Int)=fK G (ptQ a w k j)-fK G (ptQ a w k (j+1))
 |0,_,_,_,h=>by cases h
 |n+1,k,j,l,h=>by
  rw[jY] at h
  by_cases h0:fK G (ptQ a w k j)-fK G (ptQ a w k (j+1))=0
  ·rw[if_pos h0] at h;injection h with h;subst h;exact h0.symm
  ·rw[if_neg h0] at h
   by_cases h1:fK G (ptQ a w k j)-fK G (ptQ a w k (j+1))=1∧evalL f (ptQ a w k j)≠0
   ·rw[if_pos h1] at h
    split at h<;>(injection h with h;subst h;exact h1.1.symm)
   ·rw[if_neg h1] at h
    cases hx:jY G f a w n (k+1) (2*j) with
    |none=>rw[hx] at h;cases h
    |some x =>
     cases hy:jY G f a w n (k+1) (2*j+1) with
     |none=>rw[hx,hy] at h;cases h
     |some y =>
      rw[hx,hy] at h
      injection h with h;subst h
      have i1:=AE n _ _ _ hx
      have i2:=AE n _ _ _ hy
      rw[ma] at i1
      rw[show 2*j+1+1=2*(j+1) from by omega,ma] at i2
      rw[List.length_append]
      omega
theorem Sj{a w:Rat}(hw:0≤w){k j:Nat} : a≤ptQ a w k j:=by
 unfold ptQ
 have h2:0≤Rat.divInt (j:Int) ((2^k:Nat):Int):=by
  rw[Rat.divInt_eq_div,Rat.div_def]
  refine Rat.mul_nonneg (Rat.intCast_le_intCast.2 (show (0:Int)≤_ by omega)) (Rat.le_of_lt (Rat.inv_pos.2 ?_))
  have:=Nat.pow_pos (n:=k) (show 0<2 by omega)
  exact Rat.intCast_lt_intCast.2 (show (0:Int)<_ by omega)
 have:=Rat.mul_nonneg hw h2
 grind
theorem P2(a w:Rat)(k:Nat):ptQ a w k (2^k)=a+w:=by
 unfold ptQ
 rw[Rat.divInt_eq_div,Rat.div_def,Rat.mul_inv_cancel _ (AD k)]
 grind
theorem Nq{a w:Rat}(hw:0≤w){k i j:Nat}(h:i≤j):ptQ a w k i≤ptQ a w k j:=by
 induction h with
 |refl=>exact Rat.le_refl
 |step _ ih=>exact Rat.le_trans ih (H3 a hw k _)
theorem wV{f:List Rat}{a w:Rat}{K:Nat}(hw:0≤w)(hz:aK f=false)(hf:f≠[])(hc:n8 f (ak f))
  (hs:∀j,j<2^K→fK (chainF f.length f (ak f)) (ptQ a w K j)-fK (chainF f.length f (ak f)) (ptQ a w K (j+1))≤1∧(evalL f (ptQ a w K j)=0→fK (chainF f.length f (ak f)) (ptQ a w K j)-fK (chainF f.length f (ak f)) (ptQ a w K (j+1))≤0)) :
  ∀(n k j:Nat),n+k=K+1→k≤K→j<2^k→∃l,jY (chainF f.length f (ak f)) f a w n k j=some l
 |0,k,j,hn,hk,hj=>by omega
 |n+1,k,j,hn,hk,hj=>by
  have ha:=mz hz hf hc (H3 a hw k j)
  rw[jY]
  by_cases h0:fK (chainF f.length f (ak f)) (ptQ a w k j)-fK (chainF f.length f (ak f)) (ptQ a w k (j+1))=0
  ·exact⟨_,if_pos h0⟩
  ·rw[if_neg h0]
   by_cases h1:fK (chainF f.length f (ak f)) (ptQ a w k j)-fK (chainF f.length f (ak f)) (ptQ a w k (j+1))=1∧evalL f (ptQ a w k j)≠0
   ·rw[if_pos h1]
    split
    ·exact⟨_,rfl⟩
    ·exact⟨_,rfl⟩
   ·rw[if_neg h1]
    by_cases WR:k=K
    ·subst WR
     obtain⟨s1,s2⟩:=hs j hj
     exact absurd ⟨by omega,fun e=>by have:=s2 e;omega⟩ h1
    ·have hp:2^(k+1)=2*2^k:=by rw[Nat.pow_succ];omega
     obtain⟨x,hx⟩:=wV hw hz hf hc hs n (k+1) (2*j) (by omega) (by omega) (by omega)
     obtain⟨y,hy⟩:=wV hw hz hf hc hs n (k+1) (2*j+1) (by omega) (by omega) (by omega)
     rw[hx,hy]
     exact⟨_,rfl⟩
end Go.Proofs.YtllmkadmohkbfaaGreatDoor.Sym
namespace Go.Proofs.YtllmkadmohkbfaaGreatDoor.Sym
open Go Path bN
set_option linter.unusedVariables false
def Fb(m:Rat):Nat→Nat→Nat
 |0,j=>j
 |n+1,j=>if twP j<m then Fb m n (j+1) else j
def Dx(t:Rat):List Rat→Nat→Nat
 |[],j=>j
 |c::r,j=>Dx t r (Fb (1+ab (c/t)) (66-j) j)
def bndP(p:List Rat):Rat:=twP (Dx (bS p) p 0)
theorem Cd{m:Rat}(hm:m≤twP 65):∀n j,n+j=66→j≤65→j≤Fb m n j∧Fb m n j≤65∧m≤twP (Fb m n j)
 |0,j,h,hj=>by omega
 |n+1,j,h,hj=>by
  rw[Fb]
  by_cases bh:twP j<m
  ·rw[if_pos bh]
   have:j<65:=by
    refine Nat.lt_of_not_le fun hh => ?_
    have:=bV hh
    grind
   obtain⟨a,b,c⟩:=Cd hm n (j+1) (by omega) (by omega)
   exact⟨by omega,b,c⟩
  ·rw[if_neg bh]
   exact⟨Nat.le_refl _,hj,by grind⟩
theorem P4{c t:Rat}(hc:ht c≤1)(MH:ht t≤1):1+ab (c/t)≤twP 65:=by
 have h1:=B9 (c/t)
 have h2:=pc c t
 have h3:=bV (show 32*ht (c/t)≤64 by omega)
 have h4:=Lb 64
 have h5:twP 65=twP 64+twP 64:=fH 64
 grind
theorem sW{t:Rat} : ∀(p:List Rat) (j:Nat),(∀c∈p,1+ab (c/t)≤twP 65)→j≤65→j≤Dx t p j∧Dx t p j≤65∧∀c∈p,1+ab (c/t)≤twP (Dx t p j)
 |[],j,_,hj=>⟨Nat.le_refl _,hj,fun c h=>by cases h⟩
 |c::r,j,h,hj=>by
  obtain⟨a1,a2,a3⟩:=Cd (h c (List.mem_cons_self ..)) (66-j) j (by omega) hj
  obtain⟨b1,b2,b3⟩:=sW r _ (fun x hx=>h x (List.mem_cons_of_mem _ hx)) a2
  rw[Dx]
  refine⟨by omega,b2,fun x hx => ?_⟩
  rcases List.mem_cons.1 hx with rfl|hx
  ·exact Rat.le_trans a3 (bV b1)
  ·exact b3 x hx
theorem wW{j:Nat}(h:j≤66):ht (twP j)≤3:=by
 unfold twP
 rw[wJ]
 refine Nat.max_le.2 ⟨pF ?_,by omega⟩
 have h1:2^j<2^96:=Nat.pow_lt_pow_right (by omega) (by omega)
 have h2:(2:Nat)^96=4294967296^3:=by decide
 rw[h2] at h1
 generalize 2^j=x at h1 ⊢
 generalize 4294967296^3=y at h1 ⊢
 omega
def Bd(p:List Rat):Prop:=Fl 4 p∧∀c∈p,1+ab (c/bS p)≤twP 65
theorem Nr{p:List Rat}(hp:Fl 1 p):ht (bS p)≤1:=by
 unfold bS
 exact sM hp (by omega) _
theorem Fl.bd{p:List Rat}(hp:Fl 1 p):Bd p:=⟨fg hp (by omega),fun c hc=>P4 (hp c hc) (Nr hp)⟩
theorem P5{p:List Rat}(hp:Bd p):ht (bS p)≤4:=by
 unfold bS
 exact sM hp.1 (by omega) _
theorem Lr{p:List Rat}(hp:Bd p):ht (bndP p)≤3:=wW (by have:=(sW p 0 hp.2 (by omega)).2.1;omega)
theorem H4(p:List Rat):0<bndP p:=dX _
theorem P6(p:List Rat)(hp:Bd p):bndP p≤twP 65:=bV (sW p 0 hp.2 (by omega)).2.1
theorem Oq(q:Rat):(if q<0 then -q else q)=ab q:=by
 rcases a7 q with ⟨h1,h2⟩|⟨h1,h2⟩
 ·rw[if_neg (by grind),h2]
 ·rw[if_pos h1,h2]
theorem Ns{p:List Rat}(h0:p≠[]):(p.map aN)[p.length-1]? = some (aN (bS p)):=by
 have:=List.length_pos_iff.2 h0
 have e:p[p.length-1]? = some (bS p):=by
  unfold bS
  rw[nO (show p.length-1<p.length by omega)]
 rw[List.getElem?_map,e];rfl
def uz(p:List af):Int:=if oJ p=0 then (if p.length=0 then 8 else 0) else oJ p
theorem wX{p:List Rat}(hz:aK p=false)(h0:p≠[])(x:Rat):evalL p x=0↔evalL (bx p) x=0:=by
 obtain⟨f1,f2,f3,⟨u,hu⟩,k,hk,v,hv⟩:=free_spec hz h0
 constructor
 ·intro h
  have h1:=hv x
  rw[h,Rat.mul_zero,Al] at h1
  refine Classical.byContradiction fun df => ?_
  have:∀n:Nat,evalL (bx p) x^n≠0:=fun n=>by
   induction n with
   |zero=>rw[Rat.pow_zero];decide
   |succ n ih=>rw[Rat.pow_succ];intro e;rcases Rat.mul_eq_zero.1 e with e|e;exact ih e;exact df e
  exact this k h1
 ·intro h;rw[hu,h,Rat.mul_zero]
def Dz(p:List Rat)(lo hi:Rat):Bool:=bif decide (lo=hi) then decide (evalL (bx p) lo=0) else (decide (sg (evalL (bx p) lo)*sg (evalL (bx p) hi) = -1)&&decide (fK (bL p) lo-fK (bL p) hi=1))
def nT(p:List Rat)(r:aj):Bool:=r.ok&&Dz p (jX r) (l9 r)
theorem qK{x:Rat} : sg x=0↔x=0:=by rcases bI x with ⟨h1,h2⟩|⟨h1,h2⟩|⟨h1,h2⟩<;>constructor<;>intro h<;>first|exact h1|exact h2|(exfalso;rw[h2] at h;exact absurd h (by decide))|(exfalso;grind)
theorem vJ{p q:Rat} : fJ p q=0↔p=q:=by
 unfold fJ
 by_cases h1:p<q
 ·rw[if_pos h1];constructor
  ·intro h;exact absurd h (by decide)
  ·intro h;subst h;exact absurd h1 Rat.lt_irrefl
 ·rw[if_neg h1]
  by_cases h2:p=q
  ·rw[if_pos h2];exact⟨fun _=>h2,fun _=>rfl⟩
  ·rw[if_neg h2];exact⟨fun h=>absurd h (by decide),fun h=>absurd h h2⟩
theorem vK{a b:Int}{q:Prop}[Decidable q](h:a=b↔q):(a==b)=decide q:=by
 by_cases hq:q
 ·rw[decide_eq_true hq,h.2 hq];simp
 ·rw[decide_eq_false hq]
  have:a≠b:=fun e=>hq (h.1 e)
  simpa using this
theorem nU(x y:Rat):ax (sg x*sg y):=by
 unfold ax
 rcases jW x with h|h|h<;>rcases jW y with k|k|k<;>rw[h,k]<;>decide
theorem dz.DA{h L:Nat}{p:List Rat}(f:dz h L p):Fl 1073741824 (bx p):=fg (f.vF.fl f.fb.2.2.1) f.fb.2.2.2.1
theorem dz.uA{h L:Nat}{p:List Rat}(f:dz h L p):(bx p).length≤10:=by have:=f.nR;have:=f.len;have:=f.hL;omega
theorem dz.Nt{h L:Nat}{p:List Rat}(f:dz h L p):Fl 1073741824 p:=fg (f.ch.fl f.h1) (by have:=f.fb;omega)
theorem dz.yB{h L:Nat}{p:List Rat}(f:dz h L p):p.length≤10:=by have:=f.len;have:=f.hL;omega
namespace HZ
theorem Nu{h L:Nat}{p:List Rat}(f:dz h L p):Cp 165 [pq p] .az:=by
 have tF:=check (p.map aN) (r7 (f.ch.fl f.h1) (by have:=f.fb;omega))
 have hp:=List.length_pos_iff.2 f.ne
 rw[f.oJ,if_pos rfl,if_neg (by rw[bF];omega)] at tF
 exact tF
theorem value(q:List Rat)(x:Rat)(z:aK q=false)(fl:Fl 1073741824 q)(ln:q.length≤10)(hx:ht x≤1073741824):Cp 239 [pq q,(aN x).pv] (vI (sg (evalL q x))):=by
 have qZ:=FF.Eval (q.map aN) (aN x) (eK z (by omega)) (fW fl) (bk hx)
 rw[dN,bB] at qZ
 have h3:=mY q x 1073741824 fl hx
 have h4:q.length*(2*1073741824+1)≤10*(2*1073741824+1):=Nat.mul_le_mul_right _ ln
 exact se.e0 _ _ _ none _ qZ (QF.Sign (evalL q x) (by omega))
theorem Sk{h L:Nat}{p:List Rat}(f:dz h L p)(h1:Bd p):Cp 150 [pq p] (.aE [(aN (bndP p)).pv,.az]):=by
 have vD:=rO.Of 1 (by unfold ax;omega)
 have e1:((1:Int):Rat)=1:=rfl
 rw[e1] at vD
 have hlen:=f.yB
 have Sa:=List.length_pos_iff.2 f.ne
 have x9:=P5 h1
 have Ym:=cz f.zp f.ne
 have loop:∀d t j:Nat,p.length-t=d→t≤p.length→j≤65→gN.ah (p.map aN) t (aN (twP j)) (.aE [(aN (twP (Dx (bS p) (p.drop t) j))).pv,.az]):=by
  intro d
  induction d with
  |zero =>
   intro t j hd ht hj
   rw[List.drop_of_length_le (by omega)]
   exact gN.kI _ t _ (by rw[bF];omega)
  |succ d ih =>
   intro t j hd WO hj
   obtain⟨c,hc⟩:∃c,p[t]? = some c:=⟨_,List.getElem?_eq_getElem (by omega)⟩
   have Yn:(p.map aN)[t]? = some (aN c):=by rw[List.getElem?_map,hc];rfl
   have Ac:=h1.1 c (List.mem_of_getElem? hc)
   have K0:=QF.Div c (bS p) (by omega) (by omega) Ym
   have hq:=pc c (bS p)
   have dm:=QF.Yc (c/bS p) (by omega)
   rw[Oq] at dm
   have WL:=h1.2 c (List.mem_of_getElem? hc)
   have Y9:ht (ab (c/bS p))≤8:=by
    rw[←Oq];split
    ·rw[uk];omega
    ·omega
   have Mm:=QF.Add 1 (ab (c/bS p)) (by decide) (by omega)
   have Za:=rM 1 (ab (c/bS p))
   have il:ht (1:Rat)=1:=by decide
   rw[drop_cons hc,Dx]
   have inner:∀n j,n+j=66→j≤65→gN.bA (p.map aN) t (aN (twP j)) (aN (c/bS p)) (.aE [(aN (twP (Dx (bS p) (p.drop (t+1)) (Fb (1+ab (c/bS p)) n j)))).pv,.az]):=by
    intro n
    induction n with
    |zero=>intro j h hj;omega
    |succ n ihn =>
     intro j hn hj
     have V5:=wW (j:=j) (by omega)
     have z6:=QF.rb (twP j) (1+ab (c/bS p)) (by omega) (by omega)
     rw[Fb]
     by_cases bh:twP j<1+ab (c/bS p)
     ·rw[if_pos bh]
      have Yo:j<65:=by
       refine Nat.lt_of_not_le fun hh => ?_
       have:=bV hh
       grind
      have Fz:=QF.Add (twP j) (twP j) (by omega) (by omega)
      rw[←fH] at Fz
      refine gN.yj _ t _ _ _ _ _ _ _ vD dm Mm z6 ?_ Fz (ihn (j+1) (by omega) (by omega))
      refine Int.lt_of_not_ge fun hh => ?_
      have:=Dh.1 hh
      grind
     ·rw[if_neg bh]
      exact gN.Be _ t _ _ _ _ _ _ vD dm Mm z6 (Dh.2 (by grind)) (by omega) (ih (t+1) j (by omega) (by omega) hj)
   refine gN.l10 _ t _ _ (p.length-1) _ _ (by rw[bF];omega) Yn (by rw[bF];unfold ax;omega) (by rw[bF];omega) (Ns f.ne) K0 (inner (66-j) j (by omega) hj)
 have:=loop _ 0 0 rfl (by omega) (by omega)
 rw[List.drop_zero,rY] at this
 exact gN.e0 _ _ (Nu f) vD this
theorem wY{h L:Nat}{p:List Rat}(f:dz h L p)(r:aj)(hr:wU 1073741824 r):Cp 166 [pq p,r.pv] (.aE [vB (nT p r),.az]):=by
 have hv:=Oo.Valid r ⟨⟨by omega,by omega⟩,⟨by omega,by omega⟩⟩
 obtain⟨f1,f2,_⟩:=free_spec f.zp f.ne
 cases ho:r.ok with
 |false =>
  rw[ho] at hv
  have:nT p r=false:=by unfold nT;rw[ho,Bool.false_and]
  rw[this]
  exact iv.e0 _ r _ hv rfl
 |true =>
  rw[ho] at hv
  have hm:=Dw ho
  have h1:=Lm hr (by omega)
  have h2:=Ln hr (by omega)
  have hle:=Ll r
  have e0:nT p r=Dz p (jX r) (l9 r):=by unfold nT;rw[ho,Bool.true_and]
  rw[e0]
  generalize jX r=lo at hm h1 hle ⊢
  generalize l9 r=hi at hm h2 hle ⊢
  subst hm
  have hc:=QF.rb lo hi (by omega) (by omega)
  unfold Dz
  by_cases he:lo=hi
  ·rw[decide_eq_true he,cond_true]
   have Bm:=value p lo f.zp f.Nt f.yB h1
   have:=iv.e1 _ (pf lo hi) _ _ _ hv rfl hc (by rw[he];exact vJ.2 rfl) Bm
   rw[vK (q:=evalL (bx p) lo=0) (by rw[qK];exact wX f.zp f.ne lo)] at this
   exact this
  ·rw[decide_eq_false he,cond_false]
   have df:fJ lo hi≠0:=fun e=>he (vJ.1 e)
   have v1:=value (bx p) lo f1 f.DA f.uA h1
   have v2:=value (bx p) hi f1 f.DA f.uA h2
   by_cases hs:sg (evalL (bx p) lo)*sg (evalL (bx p) hi) = -1
   ·rw[decide_eq_true hs,Bool.true_and]
    have:=iv.e3 _ (pf lo hi) _ _ _ _ _ _ none hv rfl hc df (yz.GN f) v1 v2 (nU _ _) hs (Count f lo hi hle h1 h2)
    rw[vK (q:=fK (bL p) lo-fK (bL p) hi=1) Iff.rfl] at this
    exact this
   ·rw[decide_eq_false hs,Bool.false_and]
    exact iv.e2 _ (pf lo hi) _ _ _ _ _ hv rfl hc df (yz.GN f) v1 v2 (nU _ _) hs
theorem wZ{h L:Nat}{p:List Rat}(f:dz h L p)(r:aj)(hr:wU 1073741824 r):Cp 82 [pq p,r.pv] (.aE [vB (nT p r),.az]):=qX.e0 _ r _ none (Nu f) (wY f r hr)
end HZ
namespace Si
theorem Nu{h L:Nat}{p:List Rat}(f:dz h L p):Cp 83 [pq p] (vI 0):=by
 have tF:=Error (p.map aN) (r7 (f.ch.fl f.h1) (by have:=f.fb;omega))
 have hp:=List.length_pos_iff.2 f.ne
 rw[f.oJ,if_pos rfl,if_neg (by rw[bF];omega)] at tF
 exact tF
theorem bad{p:List af}(hp:kr 274877906944 p):Cp 83 [ae p] (vI (uz p)):=Error p hp
theorem Yp(q:List Rat)(x:Rat)(fl:Fl 1073741824 q)(ln:q.length≤10)(hx:ht x≤1073741824):Cp 208 [pq q,(aN x).pv] (aN (evalL q x)).pv∧Cp 124 [(aN (evalL q x)).pv] (vI (sg (evalL q x))):=by
 have qZ:=Jm.At (q.map aN) (aN x) (by rw[bF];omega) (fW fl) (bk hx)
 rw[dN,bB] at qZ
 have h3:=mY q x 1073741824 fl hx
 have h4:q.length*(2*1073741824+1)≤10*(2*1073741824+1):=Nat.mul_le_mul_right _ ln
 exact⟨qZ,QR.Sign (evalL q x) (by omega)⟩
theorem sign{h L:Nat}{p:List Rat}(f:dz h L p)(x:Rat)(hx:ht x≤1073741824):Cp 248 [pq p,(aN x).pv] (vI (sg (evalL (bx p) x))):=by
 obtain⟨a,b⟩:=Yp (bx p) x f.DA f.uA hx
 exact nS.e0 _ _ _ _ _ _ (Bl.GN f) a b
theorem wY{h L:Nat}{p:List Rat}(f:dz h L p)(r:aj)(hr:wU 1073741824 r):Cp 168 [pq p,r.pv] (vB (nT p r)):=by
 have hv:=WQ.Valid r ⟨⟨by omega,by omega⟩,⟨by omega,by omega⟩⟩
 cases ho:r.ok with
 |false =>
  rw[ho] at hv
  have:nT p r=false:=by unfold nT;rw[ho,Bool.false_and]
  rw[this]
  exact dP.e0 _ r _ hv rfl
 |true =>
  rw[ho] at hv
  have hm:=Dw ho
  have h1:=Lm hr (by omega)
  have h2:=Ln hr (by omega)
  have hle:=Ll r
  have e0:nT p r=Dz p (jX r) (l9 r):=by unfold nT;rw[ho,Bool.true_and]
  rw[e0]
  generalize jX r=lo at hm h1 hle ⊢
  generalize l9 r=hi at hm h2 hle ⊢
  subst hm
  have hc:=QR.rb lo hi (by omega) (by omega)
  unfold Dz
  have v1:=sign f lo h1
  have v2:=sign f hi h2
  by_cases he:lo=hi
  ·rw[decide_eq_true he,cond_true]
   have:=dP.e1 _ (pf lo hi) _ _ _ hv rfl hc (by rw[he];exact vJ.2 rfl) v1
   rw[vK (q:=evalL (bx p) lo=0) qK] at this
   exact this
  ·rw[decide_eq_false he,cond_false]
   have df:fJ lo hi≠0:=fun e=>he (vJ.1 e)
   by_cases hs:sg (evalL (bx p) lo)*sg (evalL (bx p) hi) = -1
   ·rw[decide_eq_true hs,Bool.true_and]
    have:=dP.e2 _ (pf lo hi) _ _ _ _ _ hv rfl hc df v1 v2 (nU _ _) hs (count f lo hi h1 h2)
    rw[vK (q:=fK (bL p) lo-fK (bL p) hi=1) Iff.rfl] at this
    exact this
   ·rw[decide_eq_false hs,Bool.false_and]
    exact dP.e3 _ (pf lo hi) _ _ _ _ hv rfl hc df v1 v2 (nU _ _) hs
theorem wZ{h L:Nat}{p:List Rat}(f:dz h L p)(r:aj)(hr:wU 1073741824 r):Cp 86 [pq p,r.pv] (.aE [vB (nT p r),vI 0]):=kD.e1 _ r _ _ (Nu f) rfl (wY f r hr)
end Si
end Go.Proofs.YtllmkadmohkbfaaGreatDoor.Sym
namespace Go.Proofs.YtllmkadmohkbfaaGreatDoor.Sym
open Go Path bN
set_option linter.unusedVariables false
def mkGs(l:List (Rat×Rat)):List aj:=l.map (fun r=>pf r.1 r.2)
theorem AF(l:List (Rat×Rat)):(mkGs l).length=l.length:=List.length_map ..
theorem Fc(l m:List (Rat×Rat)):mkGs (l++m)=mkGs l++mkGs m:=List.map_append ..
def isoK(h L:Nat):Nat:=32*(4*xB (fB h L) (fB h L+1) (L-1))+32*(fB h L+1)+67*L+3+67
def vL(h L:Nat):Prop:=66*(L+2)+1≤64*fB h L∧isoK h L/32+20≤1073741824
instance (h L:Nat):Decidable (vL h L):=by unfold vL;infer_instance
def qL(h L:Nat)(p:List Rat):List (Rat×Rat):=(jY (bL p) (bx p) (-bndP p) (bndP p+bndP p) (isoK h L+1) 0 0).getD []
theorem H5{p:List Rat}(hp:Bd p):bndP p+bndP p≤twP 66∧ht (bndP p+bndP p)≤3:=by
 have h:=(sW p 0 hp.2 (by omega)).2.1
 unfold bndP
 rw[←fH]
 exact⟨bV (by omega),wW (by omega)⟩
theorem P7(k:Nat):Rat.divInt 1 ((2^k:Nat):Int)*twP k=1:=by
 rw[Rat.divInt_eq_div]
 exact Rat.div_mul_cancel (AD k)
theorem Fe{h L:Nat}{p:List Rat}(f:dz h L p)(h1:Bd p)(ok:vL h L):jY (bL p) (bx p) (-bndP p) (bndP p+bndP p) (isoK h L+1) 0 0=some (qL h L p):=by
 obtain⟨f1,f2,f3,_⟩:=free_spec f.zp f.ne
 have hb:=H4 p
 have hw:0≤bndP p+bndP p:=by grind
 obtain⟨l,hl⟩:=wV (K:=isoK h L) (a := -bndP p) hw f1 f2 f3 (by
  intro j hj
  have w:=Lq (-bndP p) (bndP p+bndP p) (isoK h L) j
  have k1:=Sj (a := -bndP p) hw (k:=isoK h L) (j:=j)
  have k2:=Nq (a := -bndP p) hw (k:=isoK h L) (show j+1≤2^isoK h L by omega)
  rw[P2] at k2
  have k3:=H3 (-bndP p) hw (isoK h L) j
  have u1:ab (ptQ (-bndP p) (bndP p+bndP p) (isoK h L) j)≤bndP p:=E3 (by grind) (by grind)
  have u2:ab (ptQ (-bndP p) (bndP p+bndP p) (isoK h L) (j+1))≤bndP p:=E3 (by grind) (by grind)
  refine Cb (r:=65) (m:=isoK h L-67) f.fb.2.2.1 f.vG f2 f3 (Rat.le_of_lt hb) (P6 p h1) ok.1 u1 u2 k3 ?_ ?_
  ·have hl:=f.nR
   have Nc:=f.len
   have:(65+2)*(bx p).length≤67*L:=Nat.mul_le_mul_left _ (by omega)
   unfold isoK
   omega
  ·rw[w]
   have e1:isoK h L=(isoK h L-67)+67:=by unfold isoK;omega
   have e2:=P7 (isoK h L)
   have e3:twP (isoK h L)=twP (isoK h L-67)*twP 67:=by rw[←jv,←e1]
   have b2:=(H5 h1).1
   have e4:=bV (show 66≤67 by omega)
   generalize Rat.divInt 1 ((2^isoK h L:Nat):Int)=δ at e2 ⊢
   rw[e3] at e2
   have hp:=dX (isoK h L-67)
   generalize twP (isoK h L-67)=T at e2 hp ⊢
   have hδ:0≤δ:=by
    refine Rat.not_lt.1 fun bh => ?_
    have:=Rat.mul_pos hp (dX 67)
    have:=Rat.mul_pos (show 0 < -δ by grind) this
    grind
   have:=Rat.mul_le_mul_of_nonneg_right (Rat.le_trans b2 e4) (Rat.mul_nonneg hδ (Rat.le_of_lt hp))
   grind) (isoK h L+1) 0 0 (by omega) (by omega) (by omega)
 have hl:jY (bL p) (bx p) (-bndP p) (bndP p+bndP p) (isoK h L+1) 0 0=some l:=hl
 unfold qL
 rw[hl];rfl
namespace HZ
theorem Td(lo hi:Rat)(h1:ht lo≤1073741824)(h2:ht hi≤1073741824)(hle:lo≤hi):Cp 176 [(pf lo hi).pv] (aN (Rat.divInt 1 2*(lo+hi))).pv:=by
 have hc:=Oo.clean (pf lo hi) (H0 (Nat.le_trans h1 (by omega)) (Nat.le_trans h2 (by omega)))
 rw[sf hle,si hle] at hc
 have hh:=tC.e0 _ none (QF.Make 1 2 (by unfold ax;omega) (by unfold ax;omega) (by omega))
 have h3:=rM lo hi
 have h4:ht (Rat.divInt 1 2)≤1:=by decide
 exact vq.e0 _ (pf lo hi) _ _ _ hc hh (QF.Add lo hi (by omega) (by omega)) (QF.Mul _ _ (by omega) (by omega))
theorem C6{p:List Rat}{x:Rat} : sg (evalL p x)≠0↔evalL p x≠0:=not_congr qK
theorem DB{h L:Nat}{p:List Rat}(f:dz h L p){a w:Rat}{K:Nat}(hw:0≤w)(hh:ht a+ht w+K/32+4≤1073741824):∀(n k j:Nat) (l:List (Rat×Rat)) (out z:List aj),n+k=K+1→j<2^k→jY (bL p) (bx p) a w n k j=some l→z=out++mkGs l→z.length≤1000000 →
  av bp 152 [(.row 200000 0 out.length 6),(.pv (pq p)),(.pv (Mc (bL p))),(.pv (aN (ptQ a w k j)).pv),(.pv (aN (ptQ a w k (j+1))).pv)] [(200000,(.pure ((out:List aj).map aj.cells).flatten))] (.row 0 0 z.length 6) [(0,(.pure ((z:List aj).map aj.cells).flatten))] ∧
  (out=[]→av bp 152 [(.pv .dF),(.pv (pq p)),(.pv (Mc (bL p))),(.pv (aN (ptQ a w k j)).pv),(.pv (aN (ptQ a w k (j+1))).pv)] [] (.row 0 0 z.length 6) [(0,(.pure ((z:List aj).map aj.cells).flatten))])
 |0,k,j,l,out,z,hn,hj,hl,hz,hlen=>by cases hl
 |n+1,k,j,l,out,z,hn,hj,hl,hz,hlen=>by
  have p1:=uy a w (k:=k) (j:=j) (by omega)
  have p2:=uy a w (k:=k) (j:=j+1) (by omega)
  have WR:k/32≤K/32:=Nat.div_le_div_right (by omega)
  have PU:=f.oQ
  have c1:=changes (bL p) (ptQ a w k j) (ni f) (by omega) (by omega)
  have c2:=changes (bL p) (ptQ a w k (j+1)) (ni f) (by omega) (by omega)
  obtain⟨a1,a2⟩:=kC (bL p) (ptQ a w k j)
  obtain⟨b1,b2⟩:=kC (bL p) (ptQ a w k (j+1))
  have hI:ax (fK (bL p) (ptQ a w k j)-fK (bL p) (ptQ a w k (j+1))):=by unfold ax;omega
  have v1:=value p (ptQ a w k j) f.zp f.Nt f.yB (by omega)
  have v2:=value p (ptQ a w k (j+1)) f.zp f.Nt f.yB (by omega)
  have r1:=wX f.zp f.ne (ptQ a w k j)
  have r2:=wX f.zp f.ne (ptQ a w k (j+1))
  have hle:=H3 a hw k j
  have Ls:=Td (ptQ a w k j) (ptQ a w k (j+1)) (by omega) (by omega) hle
  rw[GO] at Ls
  have NP:=Oo.H2 (ptQ a w k (j+1)) (by omega)
  have z1:=QF.x7 (ptQ a w k j) (by omega)
  have z2:=QF.x7 (ptQ a w k (j+1)) (by omega)
  have Yq:2*j<2^(k+1):=by rw[Nat.pow_succ];omega
  have Ec:2*j+1<2^(k+1):=by rw[Nat.pow_succ];omega
  rw[jY] at hl
  by_cases h0:fK (bL p) (ptQ a w k j)-fK (bL p) (ptQ a w k (j+1))=0
  ·rw[if_pos h0] at hl
   injection hl with hl;subst hl
   have:z=out:=by rw[hz];exact List.append_nil _
   subst this
   refine⟨iB.e0 z _ _ _ _ _ _ c1 c2 hI h0,fun e => ?_⟩
   subst e
   exact iA.e0 _ _ _ _ _ _ c1 c2 hI h0
  ·rw[if_neg h0] at hl
   have Sl:∀l1 l2:List (Rat×Rat),jY (bL p) (bx p) a w n (k+1) (2*j)=some l1→jY (bL p) (bx p) a w n (k+1) (2*j+1)=some l2→z=(out++mkGs l1)++mkGs l2 →
     av bp 152 [(.row 200000 0 out.length 6),(.pv (pq p)),(.pv (Mc (bL p))),(.pv (aN (ptQ a w k j)).pv),(.pv (aN (ptQ a w (k+1) (2*j+1))).pv)] [(200000,(.pure ((out:List aj).map aj.cells).flatten))] (.row 0 0 (out++mkGs l1).length 6) [(0,(.pure (((out++mkGs l1):List aj).map aj.cells).flatten))] ∧
     av bp 152 [(.row 200000 0 (out++mkGs l1).length 6),(.pv (pq p)),(.pv (Mc (bL p))),(.pv (aN (ptQ a w (k+1) (2*j+1))).pv),(.pv (aN (ptQ a w k (j+1))).pv)] [(200000,(.pure (((out++mkGs l1):List aj).map aj.cells).flatten))] (.row 0 0 z.length 6) [(0,(.pure ((z:List aj).map aj.cells).flatten))]:=by
    intro l1 l2 e1 e2 ez
    have ED:(out++mkGs l1).length≤1000000:=by
     rw[ez,List.length_append] at hlen;omega
    have i1:=(DB f hw hh n (k+1) (2*j) l1 out (out++mkGs l1) (by omega) Yq e1 rfl ED).1
    have i2:=(DB f hw hh n (k+1) (2*j+1) l2 (out++mkGs l1) z (by omega) Ec e2 ez hlen).1
    rw[ma] at i1
    rw[show 2*j+1+1=2*(j+1) from by omega,ma] at i2
    exact⟨i1,i2⟩
   have split:∀l',(match jY (bL p) (bx p) a w n (k+1) (2*j),jY (bL p) (bx p) a w n (k+1) (2*j+1) with
     |some x,some y=>some (x++y)
     |_,_=>none)=some l'→∃l1 l2,jY (bL p) (bx p) a w n (k+1) (2*j)=some l1∧jY (bL p) (bx p) a w n (k+1) (2*j+1)=some l2∧l'=l1++l2:=by
    intro l' h
    cases hx:jY (bL p) (bx p) a w n (k+1) (2*j) with
    |none=>rw[hx] at h;cases h
    |some x =>
     cases hy:jY (bL p) (bx p) a w n (k+1) (2*j+1) with
     |none=>rw[hx,hy] at h;cases h
     |some y=>rw[hx,hy] at h;injection h with h;exact⟨x,y,rfl,rfl,h.symm⟩
   by_cases h1:fK (bL p) (ptQ a w k j)-fK (bL p) (ptQ a w k (j+1))=1
   ·by_cases h2:evalL (bx p) (ptQ a w k j)=0
    ·rw[if_neg (fun e=>e.2 h2)] at hl
     obtain⟨l1,l2,e1,e2,e3⟩:=split _ hl
     have ez:z=(out++mkGs l1)++mkGs l2:=by rw[hz,e3,Fc,List.append_assoc]
     obtain⟨i1,i2⟩:=Sl l1 l2 e1 e2 ez
     refine⟨iB.e3 out _ _ _ _ _ _ _ _ (out++mkGs l1) z c1 c2 hI h0 h1 v1 (qK.2 (r1.2 h2)) Ls i1 i2,fun e => ?_⟩
     subst e
     exact iA.e3 _ _ _ _ _ _ _ _ ([]++mkGs l1) z c1 c2 hI h0 h1 v1 (qK.2 (r1.2 h2)) Ls i1 i2
    ·rw[if_pos ⟨h1,h2⟩] at hl
     have n1:sg (evalL p (ptQ a w k j))≠0:=C6.2 (fun e=>h2 (r1.1 e))
     by_cases h3:evalL (bx p) (ptQ a w k (j+1))=0
     ·rw[if_pos h3] at hl
      injection hl with hl;subst hl
      have ez:z=out++[pf (ptQ a w k (j+1)) (ptQ a w k (j+1))]:=hz
      subst ez
      refine⟨iB.e1 out _ _ _ _ _ _ _ _ _ c1 c2 hI h0 h1 v1 n1 v2 (qK.2 (r2.2 h3)) NP (by omega),fun e => ?_⟩
      subst e
      exact iA.e1 _ _ _ _ _ _ _ _ _ c1 c2 hI h0 h1 v1 n1 v2 (qK.2 (r2.2 h3)) NP (by omega)
     ·rw[if_neg h3] at hl
      injection hl with hl;subst hl
      have n2:sg (evalL p (ptQ a w k (j+1)))≠0:=C6.2 (fun e=>h3 (r2.1 e))
      have ez:z=out++[pf (ptQ a w k j) (ptQ a w k (j+1))]:=hz
      subst ez
      refine⟨iB.e2 out _ _ _ _ _ _ _ _ _ _ c1 c2 hI h0 h1 v1 n1 v2 n2 z1 z2 (by rw[show (⟨aN (ptQ a w k j),aN (ptQ a w k (j+1))⟩:aj)=pf (ptQ a w k j) (ptQ a w k (j+1)) from rfl];omega),fun e => ?_⟩
      subst e
      exact iA.e2 _ _ _ _ _ _ _ _ _ _ c1 c2 hI h0 h1 v1 n1 v2 n2 z1 z2 (by rw[show (⟨aN (ptQ a w k j),aN (ptQ a w k (j+1))⟩:aj)=pf (ptQ a w k j) (ptQ a w k (j+1)) from rfl];omega)
   ·rw[if_neg (fun e=>h1 e.1)] at hl
    obtain⟨l1,l2,e1,e2,e3⟩:=split _ hl
    have ez:z=(out++mkGs l1)++mkGs l2:=by rw[hz,e3,Fc,List.append_assoc]
    obtain⟨i1,i2⟩:=Sl l1 l2 e1 e2 ez
    refine⟨iB.e4 out _ _ _ _ _ _ _ (out++mkGs l1) z c1 c2 hI h0 h1 Ls i1 i2,fun e => ?_⟩
    subst e
    exact iA.e4 _ _ _ _ _ _ _ ([]++mkGs l1) z c1 c2 hI h0 h1 Ls i1 i2
theorem P8{h L:Nat}{p:List Rat}(h1:Bd p)(ok:vL h L):ht (-bndP p)+ht (bndP p+bndP p)+isoK h L/32+4≤1073741824:=by
 have a:=Lr h1
 have b:=(H5 h1).2
 have c:=ok.2
 rw[uk]
 omega
theorem Nv{h L:Nat}{p:List Rat}(f:dz h L p)(h1:Bd p)(ok:vL h L):((qL h L p).length:Int)=fK (bL p) (-bndP p)-fK (bL p) (bndP p):=by
 have:=AE _ _ _ _ (Fe f h1 ok)
 rwa[(sV _ _).1,(sV _ _).2,show -bndP p+(bndP p+bndP p)=bndP p from by grind] at this
theorem Ff{h L:Nat}{p:List Rat}(f:dz h L p)(h1:Bd p)(ok:vL h L):(qL h L p).length≤1000:=by
 have e:=Nv f h1 ok
 have PU:=f.oQ
 obtain⟨a1,a2⟩:=kC (bL p) (-bndP p)
 obtain⟨b1,b2⟩:=kC (bL p) (bndP p)
 omega
theorem Nx{h L:Nat}{p:List Rat}(f:dz h L p)(h1:Bd p)(ok:vL h L):Cp 75 [pq p] (.aE [cT aj.cells (mkGs (qL h L p)),.az]):=by
 have hb:=H4 p
 have hn:=Lr h1
 have hs:=(DB f (show 0≤bndP p+bndP p by grind) (P8 h1 ok) (isoK h L+1) 0 0 (qL h L p) [] (mkGs (qL h L p)) (by omega) (by omega) (Fe f h1 ok) rfl (by rw[AF];have:=Ff f h1 ok;omega)).2 rfl
 rw[(sV _ _).1,(sV _ _).2,show -bndP p+(bndP p+bndP p)=bndP p from by grind] at hs
 exact tG.e0 _ _ _ _ _ (Sk f h1) (chain f) (QF.Neg _ (by omega)) hs
end HZ
end Go.Proofs.YtllmkadmohkbfaaGreatDoor.Sym

namespace Go.Proofs.YtllmkadmohkbfaaGreatDoor.Sym
open Go Path bN
set_option linter.unusedVariables false
theorem IY{p:List Rat}{u:Rat}(h:evalL (bx p) u=0):Dz p u u=true:=by
 unfold Dz
 rw[decide_eq_true rfl,cond_true,decide_eq_true h]
end Go.Proofs.YtllmkadmohkbfaaGreatDoor.Sym

namespace Go.Proofs.YtllmkadmohkbfaaGreatDoor.Sym
open Go Path bN
set_option linter.unusedVariables false
namespace PQ
theorem qD{k:Nat}(p:List Rat)(zp:aK p=false)(lp:p.length≤65)(hp:Fl k p)(hk:k≤68719476736):Cp 80 [pq p] (.aE [pq (ak p),.az]):=by
 have:=FF.qD (p.map aN) (eK zp lp) (fW (fg hp (by omega)))
 rwa[dN] at this
theorem Eval{k:Nat}(p:List Rat)(x:Rat)(zp:aK p=false)(lp:p.length≤65)(hp:Fl k p)(hx:ht x≤k)(hk:k≤1073741824):Cp 133 [pq p,(aN x).pv] (.aE [(aN (evalL p x)).pv,.az]):=by
 have:=FF.Eval (p.map aN) (aN x) (eK zp lp) (fW (fg hp (by omega))) (bk (Nat.le_trans hx hk))
 rwa[dN,bB] at this
theorem AG{a b N:Nat}(ha:1≤a)(dm:a≤b)(hN:N≤1000)(hk:4*xB a b (N+2)+10≤68719476736):∀(n i j:Nat) (p q:List Rat),q.length<n→vz a b N i j p q→p.length≤10000→iq.ah (p.map aN) (q.map aN) (pq (bP (gp n p q))):=by
 have hx:xB a b (N+2)=xB a b N+2*(xB a b (N+1)+1):=rfl
 have x1:∀j,1≤xB a b j:=fun j=>Nat.le_trans ha (cu a b dm (i:=0) (Nat.zero_le _))
 intro n
 induction n with
 |zero=>intro i j p q hn;omega
 |succ n ih =>
  intro i j p q hn e hl
  have hi:=e.idx
  have wq:=e.lt
  rw[gp]
  by_cases h:q.length=0
  ·rw[beq_iff.2 h,cond_true]
   have:=cu a b dm (i:=i) (j:=N+1) (by omega)
   exact iq.cV _ _ _ (by rw[bF];omega) (yz.e9 p e.zp e.hp (x1 i) hl (by omega))
  ·have df:q≠[]:=fun e=>h (by rw[e];rfl)
   rw[eR.2 h,cond_false]
   obtain⟨r1,r2⟩:=e.rest dm df
   have hz:=cQ p q
   have hlen:=e.len
   have QU:=e.bound
   have b1:=cu a b dm (i:=j+(p.length-q.length)) (j:=N+1) (by omega)
   have hd:=yz.jH p q e.zq df e.hp e.hq (x1 i) (x1 j) hl (by omega) (by
    obtain⟨j',rfl⟩:∃j',j=j'+1:=⟨j-1,by omega⟩
    obtain⟨d,hd⟩:∃d,p.length-q.length=d+1:=⟨p.length-q.length-1,by omega⟩
    have h2:=cu a b dm (i:=i) (j:=j') (by omega)
    have h3:=qI a b dm j' d
    have h4:=cu a b dm (i:=j'+1+(d+1)) (j:=N+1) (by omega)
    have h5:=cu a b dm (i:=j'+1) (j:=N) (by omega)
    rw[show p.length+1-q.length=d+2 from by omega]
    omega)
   have hm:=yz.e9 (bm p q) hz r1 (x1 _) (by omega) (by omega)
   exact iq.l10 _ _ _ _ _ (by rw[bF];omega) hd hm (ih _ _ q _ (by rw[bJ hz];omega) (e.next dm df (r1.e9 (x1 _) hz) (by rw[bJ hz];exact r2) (bT _)) (by omega))
theorem DC{h b c L:Nat}(h1:1≤h)(pj:1≤b)(Lt:b≤c)(hL:L≤65)(hc:h+(L+1)*(b+1)≤c)(hk:4*xB b c (L+2)+10≤68719476736)(p q:List Rat)(zp:aK p=false)(zq:aK q=false)(lp:p.length≤L)(lq:q.length≤L)(hp:Ch h p)(hq:Ch b q) :
  iq.ah (p.map aN) (q.map aN) (pq (bP (gp (q.length+1) p q))):=by
 have e2:xB b c (L+2)=xB b c L+2*(xB b c (L+1)+1):=rfl
 have e1:=cu b c Lt (i:=1) (j:=L+1) (by omega)
 have e0:xB b c 1=c:=rfl
 have hm:(p.length+1-q.length)*(b+1)≤(L+1)*(b+1):=Nat.mul_le_mul_right _ (by omega)
 rw[gp]
 by_cases h0:q.length=0
 ·rw[beq_iff.2 h0,cond_true]
  exact iq.cV _ _ _ (by rw[bF];omega) (yz.e9 p zp hp h1 (by omega) (by omega))
 ·have df:q≠[]:=fun e=>h0 (by rw[e];rfl)
  rw[eR.2 h0,cond_false]
  have hr:=hp.rest hq zq df
  have Jn:(bm p q).length<q.length:=(fN p zq df).1
  have hz:=cQ p q
  have vN:Ch c (bm p q):=hr.mono (by omega)
  have hd:=yz.jH p q zq df hp hq h1 pj (by omega) (by omega) (by omega)
  have hm:=yz.e9 (bm p q) hz vN (by omega) (by omega) (by omega)
  have hE:vz b c L 0 1 q (bP (bm p q)):=⟨hq,vN.e9 (by omega) hz,by omega,by rw[bJ hz];exact Jn,by omega,zq,bT _⟩
  exact iq.l10 _ _ _ _ _ (by rw[bF];omega) hd hm (AG pj Lt (by omega) hk q.length 0 1 q _ (by rw[bJ hz];exact Jn) hE (by omega))
theorem Gcd{h b c L:Nat}(h1:1≤h)(pj:1≤b)(Lt:b≤c)(hL:L≤65)(hc:h+(L+1)*(b+1)≤c)(hk:4*xB b c (L+2)+10≤68719476736)(p q:List Rat)(zp:aK p=false)(zq:aK q=false)(lp:p.length≤L)(lq:q.length≤L)(hp:Ch h p)(hq:Ch b q):Cp 81 [pq p,pq q] (.aE [pq (bX p q),.az]):=by
 have e2:xB b c (L+2)=xB b c L+2*(xB b c (L+1)+1):=rfl
 have e1:=cu b c Lt (i:=1) (j:=L+1) (by omega)
 have e0:xB b c 1=c:=rfl
 have tF:=yz.sR (p.map aN) (q.map aN) (r7 (hp.fl h1) (by omega)) (r7 (hq.fl pj) (by omega))
 rw[sS (eK zp (by omega)) (eK zq (by omega))] at tF
 exact EU.e0 _ _ _ tF (iq.e0 _ _ (DC h1 pj Lt hL hc hk p q zp zq lp lq hp hq))
end PQ
namespace RQ
theorem qD{k:Nat}(p:List Rat)(zp:aK p=false)(lp:p.length≤65)(hp:Fl k p)(hk:k≤68719476736):Cp 84 [pq p] (.aE [pq (ak p),vI 0]):=by
 have:=Jm.qD (p.map aN) (eK zp lp) (fW (fg hp (by omega)))
 rwa[dN] at this
theorem AG{a b N:Nat}(ha:1≤a)(dm:a≤b)(hN:N≤1000)(hk:4*xB a b (N+2)+10≤68719476736):∀(n i j:Nat) (p q:List Rat),q.length<n→vz a b N i j p q→p.length≤10000→b7.ah (p.map aN) (q.map aN) (pq (gp n p q)):=by
 have hx:xB a b (N+2)=xB a b N+2*(xB a b (N+1)+1):=rfl
 have x1:∀j,1≤xB a b j:=fun j=>Nat.le_trans ha (cu a b dm (i:=0) (Nat.zero_le _))
 intro n
 induction n with
 |zero=>intro i j p q hn;omega
 |succ n ih =>
  intro i j p q hn e hl
  have hi:=e.idx
  have wq:=e.lt
  rw[gp]
  by_cases h:q.length=0
  ·rw[beq_iff.2 h,cond_true]
   have:=cu a b dm (i:=i) (j:=N+1) (by omega)
   exact b7.cV _ _ (by rw[bF];omega)
  ·have df:q≠[]:=fun e=>h (by rw[e];rfl)
   rw[eR.2 h,cond_false]
   obtain⟨r1,r2⟩:=e.rest dm df
   have hz:=cQ p q
   have hlen:=e.len
   have QU:=e.bound
   have b1:=cu a b dm (i:=j+(p.length-q.length)) (j:=N+1) (by omega)
   have hd:=Bl.jH p q e.zq df e.hp e.hq (x1 i) (x1 j) hl (by omega) (by
    obtain⟨j',rfl⟩:∃j',j=j'+1:=⟨j-1,by omega⟩
    obtain⟨d,hd⟩:∃d,p.length-q.length=d+1:=⟨p.length-q.length-1,by omega⟩
    have h2:=cu a b dm (i:=i) (j:=j') (by omega)
    have h3:=qI a b dm j' d
    have h4:=cu a b dm (i:=j'+1+(d+1)) (j:=N+1) (by omega)
    have h5:=cu a b dm (i:=j'+1) (j:=N) (by omega)
    rw[show p.length+1-q.length=d+2 from by omega]
    omega)
   have hm:=Bl.e9 (bm p q) hz r1 (x1 _) (by omega) (by omega)
   exact b7.l10 _ _ _ _ _ (by rw[bF];omega) hd hm (ih _ _ q _ (by rw[bJ hz];omega) (e.next dm df (r1.e9 (x1 _) hz) (by rw[bJ hz];exact r2) (bT _)) (by omega))
theorem DC{h b c L:Nat}(h1:1≤h)(pj:1≤b)(Lt:b≤c)(hL:L≤65)(hc:h+(L+1)*(b+1)≤c)(hk:4*xB b c (L+2)+10≤68719476736)(p q:List Rat)(zp:aK p=false)(zq:aK q=false)(lp:p.length≤L)(lq:q.length≤L)(hp:Ch h p)(hq:Ch b q) :
  b7.ah (p.map aN) (q.map aN) (pq (gp (q.length+1) p q)):=by
 have e2:xB b c (L+2)=xB b c L+2*(xB b c (L+1)+1):=rfl
 have e1:=cu b c Lt (i:=1) (j:=L+1) (by omega)
 have e0:xB b c 1=c:=rfl
 have hm:(p.length+1-q.length)*(b+1)≤(L+1)*(b+1):=Nat.mul_le_mul_right _ (by omega)
 rw[gp]
 by_cases h0:q.length=0
 ·rw[beq_iff.2 h0,cond_true]
  exact b7.cV _ _ (by rw[bF];omega)
 ·have df:q≠[]:=fun e=>h0 (by rw[e];rfl)
  rw[eR.2 h0,cond_false]
  have hr:=hp.rest hq zq df
  have Jn:(bm p q).length<q.length:=(fN p zq df).1
  have hz:=cQ p q
  have vN:Ch c (bm p q):=hr.mono (by omega)
  have hd:=Bl.jH p q zq df hp hq h1 pj (by omega) (by omega) (by omega)
  have hm:=Bl.e9 (bm p q) hz vN (by omega) (by omega) (by omega)
  have hE:vz b c L 0 1 q (bP (bm p q)):=⟨hq,vN.e9 (by omega) hz,by omega,by rw[bJ hz];exact Jn,by omega,zq,bT _⟩
  exact b7.l10 _ _ _ _ _ (by rw[bF];omega) hd hm (AG pj Lt (by omega) hk q.length 0 1 q _ (by rw[bJ hz];exact Jn) hE (by omega))
theorem Gcd{h b c L:Nat}(h1:1≤h)(pj:1≤b)(Lt:b≤c)(hL:L≤65)(hc:h+(L+1)*(b+1)≤c)(hk:4*xB b c (L+2)+10≤68719476736)(p q:List Rat)(zp:aK p=false)(zq:aK q=false)(lp:p.length≤L)(lq:q.length≤L)(hp:Ch h p)(hq:Ch b q):Cp 85 [pq p,pq q] (.aE [pq (bX p q),vI 0]):=by
 have e2:xB b c (L+2)=xB b c L+2*(xB b c (L+1)+1):=rfl
 have e1:=cu b c Lt (i:=1) (j:=L+1) (by omega)
 have e0:xB b c 1=c:=rfl
 have tF:=Bl.both (p.map aN) (q.map aN) (r7 (hp.fl h1) (by omega)) (r7 (hq.fl pj) (by omega))
 rw[sS (eK zp (by omega)) (eK zq (by omega))] at tF
 have m1:=Bl.e9 p zp hp h1 (by omega) (by omega)
 have m2:=Bl.e9 q zq hq pj (by omega) (by omega)
 have:=DC h1 pj Lt hL hc hk (bP p) (bP q) (bT _) (bT _) (by rw[bJ zp];exact lp) (by rw[bJ zq];exact lq) (hp.e9 h1 zp) (hq.e9 pj zq)
 rw[bJ zq,HG p q zp zq] at this
 exact oK.e1 _ _ _ _ tF rfl (b7.e0 _ _ _ _ m1 m2 this)
end RQ
end Go.Proofs.YtllmkadmohkbfaaGreatDoor.Sym
namespace Go.Proofs.YtllmkadmohkbfaaGreatDoor.Sym.Path
open Go
set_option maxRecDepth 20000
set_option linter.unusedVariables false
namespace fO
theorem e0(a:aQ)(h1:Cp 79 [ae a.p] .az)(h2:a.p.length=0):Cp 23 [a.pv] (.iface 67 (vI 8)) :=
 eD Tryz.func23 105 [1,1,1] [.q,.h 2 (.pv .az),.q,.a,.h 2 (iI (a.p.length:Int)),.t,.q] (y3 h1 (an af.cells a.p) (aM h2))
theorem e1(a:aQ)(b c:Rs)(h1:Cp 79 [ae a.p] .az)(h2:a.p.length≠0)(h3:Cp 80 [ae a.p] (.aE [ae b,.az]))(h4:Cp 81 [ae a.p,ae b] (.aE [ae c,.az]))(h5:c.length≠1):Cp 23 [a.pv] (.iface 67 (vI 2)) :=
 eD Tryz.func23 162 [1,1,1,1,1,1,1] [.q,.h 2 (.pv .az),.q,.a,.h 2 (iI (a.p.length:Int)),.f,.h 2 (.pv (.aE [ae b,.az])),.q,.a,.h 3 (.pv (.aE [ae c,.az])),.q,.a,.h 1 (iI (c.length:Int)),.t,.q] (y7 h1 (an af.cells a.p) (aB h2) h3 h4 (an af.cells c) (jF h5))
theorem e2(a:aQ)(b c:Rs)(d:Bool)(h1:Cp 79 [ae a.p] .az)(h2:a.p.length≠0)(h3:Cp 80 [ae a.p] (.aE [ae b,.az]))(h4:Cp 81 [ae a.p,ae b] (.aE [ae c,.az]))(h5:c.length=1)(h6:Cp 82 [ae a.p,a.rV.pv] (.aE [vB d,.az]))(h7:d=false):Cp 23 [a.pv] (.iface 67 (vI 14)) :=
 eD Tryz.func23 183 [1,1,1,1,1,1,1,1,1,1,1] [.q,.h 2 (.pv .az),.q,.a,.h 2 (iI (a.p.length:Int)),.f,.h 2 (.pv (.aE [ae b,.az])),.q,.a,.h 3 (.pv (.aE [ae c,.az])),.q,.a,.h 1 (iI (c.length:Int)),.f,.h 4 (.pv (.aE [vB d,.az])),.q,.t,.q] (BL h1 (an af.cells a.p) (aB h2) h3 h4 (an af.cells c) (gQ h5) h6 (Eq.refl true) (Eq.refl true) (cf h7))
theorem e3(a:aQ)(b c:Rs)(d:Bool)(h1:Cp 79 [ae a.p] .az)(h2:a.p.length≠0)(h3:Cp 80 [ae a.p] (.aE [ae b,.az]))(h4:Cp 81 [ae a.p,ae b] (.aE [ae c,.az]))(h5:c.length=1)(h6:Cp 82 [ae a.p,a.rV.pv] (.aE [vB d,.az]))(h7:d=true):Cp 23 [a.pv] .az :=
 eD Tryz.func23 186 [1,1,1,1,1,1,1,1,1,1,1] [.q,.h 2 (.pv .az),.q,.a,.h 2 (iI (a.p.length:Int)),.f,.h 2 (.pv (.aE [ae b,.az])),.q,.a,.h 3 (.pv (.aE [ae c,.az])),.q,.a,.h 1 (iI (c.length:Int)),.f,.h 4 (.pv (.aE [vB d,.az])),.q,.f,.q] (BL h1 (an af.cells a.p) (aB h2) h3 h4 (an af.cells c) (gQ h5) h6 (Eq.refl true) (Eq.refl true) (aU h7))
theorem e7(a:aQ)(b:Int)(h1:Cp 79 [ae a.p] (.iface 67 (vI b))):Cp 23 [a.pv] (.iface 67 (vI b)) :=
 eD Tryz.func23 90 [1] [.q,.h 2 (.pv (.iface 67 (vI b))),.q,.a,.q] (y1 h1)
end fO
namespace vM
theorem e0(x a of:af)(b:aj)(h1:Cp 87 [x.pv] a.pv)(h2:Cp 46 [vI 1] of.pv)(h3:Cp 65 [x.pv] b.pv):Cp 26 [x.pv] ((⟨[a,of],b⟩:aQ).pv) :=
 eD Tryz.func26 72 [1,1,3,1] [.q,dr 7 1 [.none,(.pv a.pv),(.pv of.pv),(.iL 0 0 (([a,of]:Rs).map af.cells)),.none,(.pv b.pv)]] (y4 h1 h2 (ki aZ ([a,of]:Rs)) h3)
end vM
namespace iw
@[reducible] noncomputable def fn:Func:=Tryz.f21
noncomputable def bf:List eg:=focus [0,2,0,2,0,0,2,1,2,0,2,0,0,2,0,0] [.code (ay fn)]
def inv1(p:List af)(yC:List aQ)(Jo:List aj)(P9:Nat):St:=⟨[(0,(.pv (ae p))),(6,(.row 38 0 yC.length 7)),(19,(.pv (cT aj.cells Jo))),(20,(eI (Jo.length:Int))),(21,(eI (P9:Int)))],[(38,(.pure ((yC:List aQ).map aQ.cells).flatten))]⟩
@[reducible] noncomputable def ah(p:List af)(yC:List aQ)(Jo:List aj)(P9:Nat)(r:PV):Prop:=L bp fn bf (inv1 p yC Jo P9) r
theorem e0(p:Rs)(b:List aj){r:PV}(h1:Cp 75 [ae p] (.aE [cT aj.cells b,.az]))(hL:ah p [] b 0 r):Cp 21 [ae p] r :=
 eG Tryz.func21 108 [1,1] [.q,.h 1 (.pv (.aE [cT aj.cells b,.az])),.q,.a,.h 0 .nil,.jM 6 38 7,.h 1 (iI (b.length:Int)),.aH [0,6,19,20,21]] (y2 h1 (an aj.cells b)) hL
theorem l10(p:Rs)(b:List aQ)(c:List aj)(d:Nat)(v:aj)(g:Rs){r:PV}(h1:d<c.length)(h2:c[d]? = some v)(h3:Cp 76 [ae p] (.aE [ae g,.az]))(h4:((b++[(⟨g,v⟩:aQ)]):List aQ).length*136≤140737488355328)(h5:(d+1)<9223372036854775808)(hL:ah p (b++[(⟨g,v⟩:aQ)]) c (d+1) r):ah p b c d r :=
 lG 168 [1,3,1,6,1] [.a,.q,.t,.h 0 (.row d (aj.cells v)),.h 1 (.pv (.aE [ae g,.az])),.q,.a,.h 5 (.app ((b++[(⟨g,v⟩:aQ)]):List aQ).length (((b++[(⟨g,v⟩:aQ)]):List aQ).map aQ.cells).flatten),.h 0 (iI (((d+1):Nat):Int)),.aH [0,6,19,20,21],.drop [37,8]] (y5 (ai h1) (bO aj.cells (Eq.refl (((d:Nat):Int):Int)) h2) h3 (gR oo (b:List aQ) ([(⟨g,v⟩:aQ)]:List aQ) 136 (Eq.refl (b:List aQ).length) (Eq.refl ([(⟨g,v⟩:aQ)]:List aQ).length) h4 rfl) (aL h5)) hL
theorem kI(p:Rs)(b:List aQ)(c:List aj)(d:Nat)(h1:c.length≤d):ah p b c d (.aE [cT aQ.cells b,.az]) :=
 lD 141 [1,3] [.a,.q,.f,.q,.fo 2 ((b:List aQ).map aQ.cells)] (y2 (ar h1) (cU oo (b:List aQ) (Eq.refl (b:List aQ).length)))
end iw
namespace gb
theorem e0(a:aQ)(x:af)(b c:Int)(h1:Cp 34 [a.rV.lo.pv,a.rV.hi.pv] (vI b))(h2:b=0)(h3:Cp 34 [a.rV.lo.pv,x.pv] (vI c)):Cp 64 [a.pv,x.pv] (.aE [vI c,.az]) :=
 eD Tryz.func64 87 [1,1,1] [.q,.h 6 (.pv (vI b)),.t,.h 4 (.pv (vI c))] (y3 h1 (aP h2) h3)
theorem e1(a:aQ)(x:af)(b c:Int)(h1:Cp 34 [a.rV.lo.pv,a.rV.hi.pv] (vI b))(h2:b≠0)(h3:Cp 34 [x.pv,a.rV.lo.pv] (vI c))(h4:c≤0):Cp 64 [a.pv,x.pv] (.aE [vI 1,.az]) :=
 eD Tryz.func64 96 [1,1,1,1] [.q,.h 6 (.pv (vI b)),.f,.h 4 (.pv (vI c)),.t,.q] (y4 h1 (bW h2) h3 (eH h4))
theorem e2(a:aQ)(x:af)(b c d:Int)(h1:Cp 34 [a.rV.lo.pv,a.rV.hi.pv] (vI b))(h2:b≠0)(h3:Cp 34 [x.pv,a.rV.lo.pv] (vI c))(h4:0<c)(h5:Cp 34 [x.pv,a.rV.hi.pv] (vI d))(h6:0≤d):Cp 64 [a.pv,x.pv] (.aE [(vI (-1)),.az]) :=
 eD Tryz.func64 105 [1,1,1,1,1,1] [.q,.h 6 (.pv (vI b)),.f,.h 4 (.pv (vI c)),.f,.h 4 (.pv (vI d)),.t,.q] (y6 h1 (bW h2) h3 (jO h4) h5 (eH h6))
theorem e3(a:aQ)(x:af)(b c d:Int)(g i:af)(j k:Int)(h1:Cp 34 [a.rV.lo.pv,a.rV.hi.pv] (vI b))(h2:b≠0)(h3:Cp 34 [x.pv,a.rV.lo.pv] (vI c))(h4:0<c)(h5:Cp 34 [x.pv,a.rV.hi.pv] (vI d))(h6:d<0)(h7:Cp 133 [ae a.p,x.pv] (.aE [g.pv,.az]))(h8:Cp 133 [ae a.p,a.rV.lo.pv] (.aE [i.pv,.az]))(h9:Cp 33 [g.pv] (vI j))(ec:Cp 33 [i.pv] (vI k))(il:ax (j*k)):Cp 64 [a.pv,x.pv] (.aE [(vI (j*k)),.az]) :=
 eD Tryz.func64 153 [1,1,1,1,1,1,1,1,1,1,1] [.q,.h 6 (.pv (vI b)),.f,.h 4 (.pv (vI c)),.f,.h 4 (.pv (vI d)),.f,.h 3 (.pv (.aE [g.pv,.az])),.q,.a,.h 5 (.pv (.aE [i.pv,.az])),.q,.a,dr 5 2 [.none,(.pv (vI j)),.none,(.pv (vI k)),(iI (j*k))]] (BL h1 (bW h2) h3 (jO h4) h5 (jO h6) h7 h8 h9 ec (tV il))
end gb
namespace pP
theorem e0(a:aQ)(x:af)(b:Int)(c:Option Int)(h1:Cp 23 [a.pv] .az)(h2:Cp 64 [a.pv,x.pv] (.aE [vI b,bc c])):Cp 30 [a.pv,x.pv] (.aE [vI b,bc c]) :=
 eD Tryz.func30 93 [1,1] [.q,.h 1 (.pv .az),.q,.a,.h 2 (.pv (.aE [vI b,bc c]))] (y2 h1 h2)
end pP
namespace fP
theorem e0(a:aQ)(b:Int)(h1:Cp 34 [a.rV.lo.pv,a.rV.hi.pv] (vI b))(h2:b=0):Cp 204 [a.pv] (.aE [a.pv,.az]) :=
 eD Tryz.func204 84 [1,1] [.q,.h 6 (.pv (vI b)),.t,.q] (y2 h1 (aP h2))
theorem e1(a:aQ)(b:Int)(c:af)(d:Int)(g:aj)(h1:Cp 34 [a.rV.lo.pv,a.rV.hi.pv] (vI b))(h2:b≠0)(h3:Cp 176 [a.rV.pv] c.pv)(h4:Cp 64 [a.pv,c.pv] (.aE [vI d,.az]))(h5:d=0)(h6:Cp 65 [c.pv] g.pv):Cp 204 [a.pv] (.aE [(⟨a.p,g⟩:aQ).pv,.az]) :=
 eD Tryz.func204 135 [1,1,1,1,1,1] [.q,.h 6 (.pv (vI b)),.f,.h 2 (.pv c.pv),.h 2 (.pv (.aE [vI d,.az])),.q,.a,.q,.q,.t,dr 5 2 [.none,.none,.none,(.pv g.pv)]] (y6 h1 (bW h2) h3 h4 (aP h5) h6)
theorem e2(a:aQ)(b:Int)(c:af)(d:Int)(h1:Cp 34 [a.rV.lo.pv,a.rV.hi.pv] (vI b))(h2:b≠0)(h3:Cp 176 [a.rV.pv] c.pv)(h4:Cp 64 [a.pv,c.pv] (.aE [vI d,.az]))(h5:d≠0)(h6:d=1):Cp 204 [a.pv] (.aE [(⟨a.p,(⟨c,a.rV.hi⟩:aj)⟩:aQ).pv,.az]) :=
 eD Tryz.func204 144 [1,1,1,1,1,1] [.q,.h 6 (.pv (vI b)),.f,.h 2 (.pv c.pv),.h 2 (.pv (.aE [vI d,.az])),.q,.a,.q,.q,.f,.q,.t,.q] (y6 h1 (bW h2) h3 h4 (bW h5) (aP h6))
theorem e3(a:aQ)(b:Int)(c:af)(d:Int)(h1:Cp 34 [a.rV.lo.pv,a.rV.hi.pv] (vI b))(h2:b≠0)(h3:Cp 176 [a.rV.pv] c.pv)(h4:Cp 64 [a.pv,c.pv] (.aE [vI d,.az]))(h5:d≠0)(h6:d≠1):Cp 204 [a.pv] (.aE [(⟨a.p,(⟨a.rV.lo,c⟩:aj)⟩:aQ).pv,.az]) :=
 eD Tryz.func204 150 [1,1,1,1,1,1] [.q,.h 6 (.pv (vI b)),.f,.h 2 (.pv c.pv),.h 2 (.pv (.aE [vI d,.az])),.q,.a,.q,.q,.f,.q,.f,.q] (y6 h1 (bW h2) h3 h4 (bW h5) (bW h6))
end fP
namespace fI
theorem e0(p:Rs)(a:aQ)(h1:p.length=0):Cp 201 [ae p,a.pv] (.aE [vB true,.az]) :=
 eD Tryz.func201 84 [1,1] [.q,.h 1 (iI (p.length:Int)),.t,.q] (y2 (an af.cells p) (aM h1))
theorem e1(p:Rs)(a:aQ)(b:Rs)(h1:p.length≠0)(h2:Cp 81 [ae p,ae a.p] (.aE [ae b,.az]))(h3:b.length<2):Cp 201 [ae p,a.pv] (.aE [vB false,.az]) :=
 eD Tryz.func201 120 [1,1,1,1,1] [.q,.h 1 (iI (p.length:Int)),.f,.h 3 (.pv (.aE [ae b,.az])),.q,.a,.h 1 (iI (b.length:Int)),.t,.q] (y5 (an af.cells p) (aB h1) h2 (an af.cells b) (ai h3))
theorem e2(p:Rs)(a:aQ)(b:Rs)(c:Int)(d:af)(g:Option Int)(i:Int)(h1:p.length≠0)(h2:Cp 81 [ae p,ae a.p] (.aE [ae b,.az]))(h3:2≤b.length)(h4:Cp 34 [a.rV.lo.pv,a.rV.hi.pv] (vI c))(h5:c=0)(h6:Cp 133 [ae b,a.rV.lo.pv] (.aE [d.pv,bc g]))(h7:Cp 33 [d.pv] (vI i)):Cp 201 [ae p,a.pv] (.aE [(vB (i==0)),bc g]) :=
 eD Tryz.func201 141 [1,1,1,1,1,1,1,1,1] [.q,.h 1 (iI (p.length:Int)),.f,.h 3 (.pv (.aE [ae b,.az])),.q,.a,.h 1 (iI (b.length:Int)),.f,.h 6 (.pv (vI c)),.t,.h 4 (.pv (.aE [d.pv,bc g])),.h 1 (.pv (vI i))] (y9 (an af.cells p) (aB h1) h2 (an af.cells b) (ar h3) h4 (aP h5) h6 h7)
theorem e3(p:Rs)(a:aQ)(b:Rs)(c d:Int)(g:Option Int)(h1:p.length≠0)(h2:Cp 81 [ae p,ae a.p] (.aE [ae b,.az]))(h3:2≤b.length)(h4:Cp 34 [a.rV.lo.pv,a.rV.hi.pv] (vI c))(h5:c≠0)(h6:Cp 246 [ae b,a.rV.lo.pv,a.rV.hi.pv] (.aE [vI d,bc g])):Cp 201 [ae p,a.pv] (.aE [(vB (decide (d>0))),bc g]) :=
 eD Tryz.func201 144 [1,1,1,1,1,1,1,1] [.q,.h 1 (iI (p.length:Int)),.f,.h 3 (.pv (.aE [ae b,.az])),.q,.a,.h 1 (iI (b.length:Int)),.f,.h 6 (.pv (vI c)),.f,.h 7 (.pv (.aE [vI d,bc g])),.q] (y8 (an af.cells p) (aB h1) h2 (an af.cells b) (ar h3) h4 (bW h5) h6)
end fI
namespace j9
theorem e0(a b:aQ)(c:Bool)(h1:Cp 201 [ae b.p,a.pv] (.aE [vB c,.az]))(h2:c=false):Cp 174 [a.pv,b.pv] (.aE [vB false,.az]) :=
 eD Tryz.func174 90 [1,1,1,1] [.q,.h 3 (.pv (.aE [vB c,.az])),.q,.t,.q] (y4 h1 (Eq.refl false) (Eq.refl false) (cf h2))
theorem e1(a b:aQ)(c:Bool)(d g:Int)(i:Option Int)(h1:Cp 201 [ae b.p,a.pv] (.aE [vB c,.az]))(h2:c=true)(h3:Cp 64 [a.pv,b.rV.lo.pv] (.aE [vI d,.az]))(h4:Cp 64 [a.pv,b.rV.hi.pv] (.aE [vI g,bc i]))(h5:0≤d):Cp 174 [a.pv,b.pv] (.aE [(vB (decide (g≤0))),bc i]) :=
 eD Tryz.func174 120 [1,1,1,1,1,1,1,1,1] [.q,.h 3 (.pv (.aE [vB c,.az])),.q,.f,.h 4 (.pv (.aE [vI d,.az])),.q,.a,.h 4 (.pv (.aE [vI g,bc i])),.h 5 (.dec true)] (y9 h1 (Eq.refl false) (Eq.refl false) (aU h2) h3 h4 (eH h5) (eH h5) (eH h5))
theorem e2(a b:aQ)(c:Bool)(d g:Int)(i:Option Int)(h1:Cp 201 [ae b.p,a.pv] (.aE [vB c,.az]))(h2:c=true)(h3:Cp 64 [a.pv,b.rV.lo.pv] (.aE [vI d,.az]))(h4:Cp 64 [a.pv,b.rV.hi.pv] (.aE [vI g,bc i]))(h5:d<0):Cp 174 [a.pv,b.pv] (.aE [vB false,bc i]) :=
 eD Tryz.func174 120 [1,1,1,1,1,1,1,1,1] [.q,.h 3 (.pv (.aE [vB c,.az])),.q,.f,.h 4 (.pv (.aE [vI d,.az])),.q,.a,.h 4 (.pv (.aE [vI g,bc i])),.aV [.o,.o,.o,.skip,.skip,(.dec false)]] (y9 h1 (Eq.refl false) (Eq.refl false) (aU h2) h3 h4 (jO h5) (jO h5) (jO h5))
end j9
namespace fQ
@[reducible] noncomputable def fn:Func:=Tryz.f175
noncomputable def bf:List eg:=focus [0,2,0,0,0] [.code (ay fn)]
def inv1(ku qM:aQ):St:=⟨[(2,(.ptr 2 0)),(3,(.ptr 3 0)),(4,(.ptr 4 0)),(5,(.ptr 5 0))],[(2,(.lit [(.pv (ae ku.p)),(eB ku.rV.lo.neg),(.pv (aa ku.rV.lo.num)),(.pv (aa ku.rV.lo.den)),(eB ku.rV.hi.neg),(.pv (aa ku.rV.hi.num)),(.pv (aa ku.rV.hi.den))])),(3,(.lit [(.pv (ae qM.p)),(eB qM.rV.lo.neg),(.pv (aa qM.rV.lo.num)),(.pv (aa qM.rV.lo.den)),(eB qM.rV.hi.neg),(.pv (aa qM.rV.hi.num)),(.pv (aa qM.rV.hi.den))])),(4,(.lit [(.pv (.list [])),(eB false),(.pv (.list [])),(.pv (.list [])),(eB false),(.pv (.list [])),(.pv (.list []))])),(5,(.lit [(.pv (.list [])),(eB false),(.pv (.list [])),(.pv (.list [])),(eB false),(.pv (.list [])),(.pv (.list []))]))]⟩
@[reducible] noncomputable def ah(ku qM:aQ)(r:PV):Prop:=L bp fn bf (inv1 ku qM) r
theorem e0 (a b : aQ) {r : PV}  (hL : ah a b r) : Cp 175 [a.pv, b.pv] r :=
 eG Tryz.func175 75 [] [.q,.aH [2,3,4,5],.ord [2,3,4,5]] True.intro hL
theorem l10(b c:aQ)(d g:Int)(i j:aQ){r:PV}(h1:Cp 34 [b.rV.hi.pv,c.rV.lo.pv] (vI d))(h2:0<d)(h3:Cp 34 [c.rV.hi.pv,b.rV.lo.pv] (vI g))(h4:0<g)(h5:Cp 204 [b.pv] (.aE [i.pv,.az]))(h6:Cp 204 [c.pv] (.aE [j.pv,.az]))(hL:ah i j r):ah b c r :=
 lG 144 [1,1,1,1,1,1,1,1,1,1,1,1,1,1] [.a,.aV [.o,.o,.o,.o,.o,.o,(.pv (vI d)),.o,.o,.o,.o,.o,.o,.o,.o,(.pv (vI g)),.o,(.dec true)],.t,.q,.h 1 (.pv (.aE [i.pv,.az])),.q,.a,.h 1 (.pv (.aE [j.pv,.az])),.q,.a,.aH [2,3,4,5]] (Km h1 (bY h2) (bY h2) (bY h2) (bY h2) (bY h2) (bY h2) (bY h2) h3 (bY h2) (bY h2) (bY h4) h5 h6) hL
theorem ta(b c:aQ)(d g:Int)(h1:Cp 34 [b.rV.hi.pv,c.rV.lo.pv] (vI d))(h2:0<d)(h3:Cp 34 [c.rV.hi.pv,b.rV.lo.pv] (vI g))(h4:g≤0):ah b c (.aE [b.pv,c.pv,.az]) :=
 lD 108 [1,1,1,1,1,1,1,1,1,1,1,1] [.a,.aV [.o,.o,.o,.o,.o,.o,(.pv (vI d)),.o,.o,.o,.o,.o,.o,.o,.o,(.pv (vI g)),.o,(.dec true)],.f,dr 3 2 []] (Jj h1 (bY h2) (bY h2) (bY h2) (bY h2) (bY h2) (bY h2) (bY h2) h3 (bY h2) (bY h2) (bD h4))
theorem GB(b c:aQ)(d:Int)(h1:Cp 34 [b.rV.hi.pv,c.rV.lo.pv] (vI d))(h2:d≤0):ah b c (.aE [b.pv,c.pv,.az]) :=
 lD 108 [1,1,1,1,1,1,1,1,1,1] [.a,.aV [.o,.o,.o,.o,.o,.o,(.pv (vI d)),.o,.o,.skip,.skip,.skip,.skip,.skip,.skip,.skip,.skip,(.dec false)],.a,dr 3 2 []] (FA h1 (bD h2) (bD h2) (bD h2) (bD h2) (bD h2) (bD h2) (bD h2) (bD h2) (bD h2))
end fQ
namespace mb
theorem e0(a b:aQ)(c:Bool)(h1:Cp 174 [a.pv,b.pv] (.aE [vB c,.az]))(h2:c=true):Cp 96 [a.pv,b.pv] (.aE [vI 0,.az]) :=
 eD Tryz.func96 90 [1,1,1] [.q,.h 2 (.pv (.aE [vB c,.az])),.q,.t,.q] (y3 h1 (Eq.refl false) h2)
theorem e1(a b:aQ)(c:Bool)(d g:aQ)(i j:af)(k:Int)(h1:Cp 174 [a.pv,b.pv] (.aE [vB c,.az]))(h2:c=false)(h3:Cp 175 [a.pv,b.pv] (.aE [d.pv,g.pv,.az]))(h4:Cp 176 [d.rV.pv] i.pv)(h5:Cp 176 [g.rV.pv] j.pv)(h6:Cp 34 [i.pv,j.pv] (vI k))(h7:k<0):Cp 96 [a.pv,b.pv] (.aE [(vI (-1)),.az]) :=
 eD Tryz.func96 126 [1,1,1,1,1,1,1,1] [.q,.h 2 (.pv (.aE [vB c,.az])),.q,.f,.h 2 (.pv (.aE [d.pv,g.pv,.az])),.q,.a,dr 8 0 [.none,.none,(.pv i.pv),.none,.none,(.pv j.pv),(.pv (vI k))],.t,.q] (y8 h1 (Eq.refl false) h2 h3 h4 h5 h6 (bY h7))
theorem e2(a b:aQ)(c:Bool)(d g:aQ)(i j:af)(k:Int)(h1:Cp 174 [a.pv,b.pv] (.aE [vB c,.az]))(h2:c=false)(h3:Cp 175 [a.pv,b.pv] (.aE [d.pv,g.pv,.az]))(h4:Cp 176 [d.rV.pv] i.pv)(h5:Cp 176 [g.rV.pv] j.pv)(h6:Cp 34 [i.pv,j.pv] (vI k))(h7:0≤k):Cp 96 [a.pv,b.pv] (.aE [vI 1,.az]) :=
 eD Tryz.func96 129 [1,1,1,1,1,1,1,1] [.q,.h 2 (.pv (.aE [vB c,.az])),.q,.f,.h 2 (.pv (.aE [d.pv,g.pv,.az])),.q,.a,dr 8 0 [.none,.none,(.pv i.pv),.none,.none,(.pv j.pv),(.pv (vI k))],.f,.q] (y8 h1 (Eq.refl false) h2 h3 h4 h5 h6 (bD h7))
end mb
namespace jZ
@[reducible] noncomputable def fn:Func:=Tryz.f35
noncomputable def bf:List eg:=focus [0,2,0,0,2,0,0] [.code (ay fn)]
def inv1(Gv:Nat)(a b:aQ):St:=⟨[(2,(.ptr 2 0)),(3,(.ptr 3 0)),(11,(.row 11 0 2 7)),(12,(eI 2)),(13,(eI (Gv:Int)))],[(2,(.lit [(.pv (ae a.p)),(eB a.rV.lo.neg),(.pv (aa a.rV.lo.num)),(.pv (aa a.rV.lo.den)),(eB a.rV.hi.neg),(.pv (aa a.rV.hi.num)),(.pv (aa a.rV.hi.den))])),(3,(.lit [(.pv (ae b.p)),(eB b.rV.lo.neg),(.pv (aa b.rV.lo.num)),(.pv (aa b.rV.lo.den)),(eB b.rV.hi.neg),(.pv (aa b.rV.hi.num)),(.pv (aa b.rV.hi.den))])),(11,(.pure (([a,b]:List aQ).map aQ.cells).flatten))]⟩
@[reducible] noncomputable def ah(Gv:Nat)(a b:aQ)(r:PV):Prop:=L bp fn bf (inv1 Gv a b) r
theorem e0 (a b : aQ) {r : PV}  (hL : ah 0 a b r) : Cp 35 [a.pv, b.pv] r :=
 eG Tryz.func35 81 [] [.q,.q,.aH [2,3,11,12,13],.ord [2,3,11]] True.intro hL
theorem l10(c:Nat)(a b v:aQ){r:PV}(h1:c<2)(h2:[a,b][c]? = some v)(h3:Cp 23 [v.pv] .az)(h4:(c+1)<9223372036854775808)(hL:ah (c+1) a b r):ah c a b r :=
 lG 135 [1,2,2,1,1] [.a,.q,.t,.aV [(.nat c),(.GW [ae v.p,vB v.rV.lo.neg,aa v.rV.lo.num,aa v.rV.lo.den,vB v.rV.hi.neg,aa v.rV.hi.num,aa v.rV.hi.den])],.h 1 (.pv .az),.q,.a,.h 0 (iI (((c+1):Nat):Int)),.aH [2,3,11,12,13],.drop [7]] (y5 (ai h1) (cj (Eq.refl (((c:Nat):Int):Int)) h1) (rB oo h2) h3 (aL h4)) hL
theorem kI(c:Nat)(a b:aQ)(d:Int)(g:Option Int)(h1:2≤c)(h2:Cp 96 [a.pv,b.pv] (.aE [vI d,bc g])):ah c a b (.aE [vI d,bc g]) :=
 lD 114 [1,1] [.a,.q,.f,.h 2 (.pv (.aE [vI d,bc g]))] (y2 (ar h1) h2)
end jZ
namespace gI
@[reducible] noncomputable def fn:Func:=Tryz.f63
noncomputable def bf:List eg:=focus [0,2,0,2,0,0,2,0,0] [.code (ay fn)]
def inv1(bits:Int)(KG:Nat)(n gX:au):St:=⟨[(2,(.ptr 2 0)),(4,(.ptr 4 0)),(6,(.ptr 6 0)),(8,(eI bits)),(9,(eI (KG:Int)))],[(2,(.lit [(eB n.neg),(.pv (aa n.ct))])),(4,(.lit [(eB false),(.pv (.list [])),(.pv (.list []))])),(6,(.lit [(eB gX.neg),(.pv (aa gX.ct))]))]⟩
@[reducible] noncomputable def ah(bits:Int)(KG:Nat)(n gX:au)(r:PV):Prop:=L bp fn bf (inv1 bits KG n gX) r
theorem e0(n:au)(a:Int)(of:au){r:PV}(h1:Cp 67 [vI 1] of.pv)(hL:ah a 0 n of r):Cp 63 [n.pv,vI a] r :=
 eG Tryz.func63 87 [1] [.q,.h 0 (.pv of.pv),.q,.aH [2,4,6,8,9],.ord [2,4,6]] (y1 h1) hL
theorem l10(b:Int)(c:Nat)(n d g:au){r:PV}(h1:(c:Int)<b)(h2:Cp 66 [d.pv,d.pv] g.pv)(h3:(c+1)<9223372036854775808)(hL:ah b (c+1) n g r):ah b c n d r :=
 lG 120 [1,1,1] [.a,.q,.t,.h 2 (.pv g.pv),.h 0 (iI (((c+1):Nat):Int)),.aH [2,4,6,8,9]] (y3 (bY h1) h2 (aL h3)) hL
theorem cV(b:Int)(c:Nat)(n d:au)(g:af)(i:Option Int)(h1:b≤(c:Int))(h2:Cp 90 [n.pv,d.pv] (.aE [g.pv,bc i])):ah b c n d (.aE [g.pv,bc i]) :=
 lD 120 [1,1] [.a,.q,.f,.h 2 (.pv (.aE [g.pv,bc i]))] (y2 (bD h1) h2)
end gI
namespace jd
@[reducible] noncomputable def fn:Func:=Tryz.f130
noncomputable def bf:List eg:=focus [0,2,0,0,2,0,0] [.code (ay fn)]
def inv1(bits:Int)(Px:Nat)(ku:af):St:=⟨[(2,(.ptr 2 0)),(4,(.ptr 4 0)),(5,(eI bits)),(6,(eI (Px:Int)))],[(2,(.lit [(eB ku.neg),(.pv (aa ku.num)),(.pv (aa ku.den))])),(4,(.lit [(eB false),(.pv (.list []))]))]⟩
@[reducible] noncomputable def ah(bits:Int)(Px:Nat)(ku:af)(r:PV):Prop:=L bp fn bf (inv1 bits Px ku) r
theorem e0 (x : af) (a : Int) {r : PV}  (hL : ah a 0 x r) : Cp 130 [x.pv, vI a] r :=
 eG Tryz.func130 81 [] [.q,.q,.aH [2,4,5,6],.ord [2,4]] True.intro hL
theorem l10(b:Int)(c:Nat)(d g:af){r:PV}(h1:(c:Int)<b)(h2:Cp 91 [d.pv,d.pv] g.pv)(h3:(c+1)<9223372036854775808)(hL:ah b (c+1) g r):ah b c d r :=
 lG 114 [1,1,1] [.a,.q,.t,.h 2 (.pv g.pv),.h 0 (iI (((c+1):Nat):Int)),.aH [2,4,5,6]] (y3 (bY h1) h2 (aL h3)) hL
theorem cV(b:Int)(c:Nat)(d:af)(g:au)(h1:b≤(c:Int))(h2:Cp 218 [d.pv] g.pv):ah b c d g.pv :=
 lD 114 [1,1] [.a,.q,.f,.h 1 (.pv g.pv)] (y2 (bD h1) h2)
end jd
namespace fR
@[reducible] noncomputable def fn:Func:=Tryz.f62
noncomputable def bf:List eg:=focus [0,2,0,2,0,0,0] [.code (ay fn)]
def inv1(bits:Int)(a:aQ)(gX dS:au):St:=⟨[(1,(eI bits)),(2,(.ptr 2 0)),(4,(.ptr 4 0)),(6,(.ptr 6 0)),(7,(.ptr 7 0))],[(2,(.lit [(.pv (ae a.p)),(eB a.rV.lo.neg),(.pv (aa a.rV.lo.num)),(.pv (aa a.rV.lo.den)),(eB a.rV.hi.neg),(.pv (aa a.rV.hi.num)),(.pv (aa a.rV.hi.den))])),(4,(.lit [(eB false),(.pv (.list []))])),(6,(.lit [(eB gX.neg),(.pv (aa gX.ct))])),(7,(.lit [(eB dS.neg),(.pv (aa dS.ct))]))]⟩
@[reducible] noncomputable def ah(bits:Int)(a:aQ)(gX dS:au)(r:PV):Prop:=L bp fn bf (inv1 bits a gX dS) r
theorem e0(a:aQ)(b:Int)(c d of g:au){r:PV}(h1:Cp 130 [a.rV.lo.pv,vI b] c.pv)(h2:Cp 130 [a.rV.hi.pv,vI b] d.pv)(h3:Cp 67 [vI 1] of.pv)(h4:Cp 66 [d.pv,of.pv] g.pv)(hL:ah b a c g r):Cp 62 [a.pv,vI b] r :=
 eG Tryz.func62 81 [1,1,1,1] [.q,dr 14 2 [.none,.none,.none,.none,(.pv c.pv),.none,.none,.none,.none,(.pv d.pv),(.pv of.pv),(.pv g.pv)],.aH [1,2,4,6,7],.ord [2,4,6,7]] (y4 h1 h2 h3 h4) hL
theorem l10(b:Int)(a:aQ)(c d g of:au)(i:Int)(j k l m:au)(n:Option Int)(p:af)(s:Int){r:PV}(h1:Cp 131 [d.pv,c.pv] g.pv)(h2:Cp 67 [vI 1] of.pv)(h3:Cp 94 [g.pv,of.pv] (vI i))(h4:0<i)(h5:Cp 66 [c.pv,d.pv] j.pv)(h6:Cp 67 [vI 2] k.pv)(h7:Cp 132 [j.pv,k.pv] (.aE [l.pv,m.pv,bc n]))(h8:Cp 63 [l.pv,vI b] (.aE [p.pv,.az]))(h9:Cp 64 [a.pv,p.pv] (.aE [vI s,.az]))(ec:0≤s)(hL:ah b a l d r):ah b a c d r :=
 lG 165 [1,1,1,1,1,1,1,1,1,1] [.a,.aV [.o,.o,(.pv g.pv),(.pv of.pv),(.pv (vI i))],.t,.aV [.o,.o,(.pv j.pv),(.pv k.pv),(.pv (.aE [l.pv,m.pv,bc n]))],.h 2 (.pv (.aE [p.pv,.az])),.q,.a,.h 2 (.pv (.aE [vI s,.az])),.q,.a,.q,.t,.q,.aH [1,2,4,6,7],.drop [11,9,8]] (FA h1 h2 h3 (bY h4) h5 h6 h7 h8 h9 (eH ec)) hL
theorem cV(b:Int)(a:aQ)(c d g of:au)(i:Int)(j k l m:au)(n:Option Int)(p:af)(s:Int){r:PV}(h1:Cp 131 [d.pv,c.pv] g.pv)(h2:Cp 67 [vI 1] of.pv)(h3:Cp 94 [g.pv,of.pv] (vI i))(h4:0<i)(h5:Cp 66 [c.pv,d.pv] j.pv)(h6:Cp 67 [vI 2] k.pv)(h7:Cp 132 [j.pv,k.pv] (.aE [l.pv,m.pv,bc n]))(h8:Cp 63 [l.pv,vI b] (.aE [p.pv,.az]))(h9:Cp 64 [a.pv,p.pv] (.aE [vI s,.az]))(ec:s<0)(hL:ah b a c l r):ah b a c d r :=
 lG 165 [1,1,1,1,1,1,1,1,1,1] [.a,.aV [.o,.o,(.pv g.pv),(.pv of.pv),(.pv (vI i))],.t,.aV [.o,.o,(.pv j.pv),(.pv k.pv),(.pv (.aE [l.pv,m.pv,bc n]))],.h 2 (.pv (.aE [p.pv,.az])),.q,.a,.h 2 (.pv (.aE [vI s,.az])),.q,.a,.q,.f,.q,.aH [1,2,4,6,7],.drop [11,9,8]] (FA h1 h2 h3 (bY h4) h5 h6 h7 h8 h9 (jO ec)) hL
theorem GB(b:Int)(a:aQ)(c d g of:au)(i:Int)(h1:Cp 131 [d.pv,c.pv] g.pv)(h2:Cp 67 [vI 1] of.pv)(h3:Cp 94 [g.pv,of.pv] (vI i))(h4:i≤0):ah b a c d (.aE [c.pv,.az]) :=
 lD 114 [1,1,1,1] [.a,.aV [.o,.o,(.pv g.pv),(.pv of.pv),(.pv (vI i))],.f,.q] (y4 h1 h2 h3 (bD h4))
end fR
namespace nV
theorem e2(a:aQ)(b:Int)(c:au)(d:af)(g:Int)(i:aj)(h1:Cp 23 [a.pv] .az)(h2:0≤b)(h3:b≤64)(h4:Cp 62 [a.pv,vI b] (.aE [c.pv,.az]))(h5:Cp 63 [c.pv,vI b] (.aE [d.pv,.az]))(h6:Cp 64 [a.pv,d.pv] (.aE [vI g,.az]))(h7:g=0)(h8:Cp 65 [d.pv] i.pv):Cp 13 [a.pv,vI b] (.aE [i.pv,.az]) :=
 eD Tryz.func13 183 [1,1,1,1,1,1,1,1,1,1] [.q,.h 1 (.pv .az),.q,.a,.h 5 (.dec false),.f,.h 2 (.pv (.aE [c.pv,.az])),.q,.a,.h 2 (.pv (.aE [d.pv,.az])),.q,.a,.h 2 (.pv (.aE [vI g,.az])),.q,.a,.q,.t,.h 1 (.pv i.pv)] (FA h1 (bD h2) (bD h2) (bD h2) (bD h3) h4 h5 h6 (aP h7) h8)
theorem e3(a:aQ)(b:Int)(c:au)(d:af)(g:Int)(of i:au)(j:af)(k:Option Int)(h1:Cp 23 [a.pv] .az)(h2:0≤b)(h3:b≤64)(h4:Cp 62 [a.pv,vI b] (.aE [c.pv,.az]))(h5:Cp 63 [c.pv,vI b] (.aE [d.pv,.az]))(h6:Cp 64 [a.pv,d.pv] (.aE [vI g,.az]))(h7:g≠0)(h8:Cp 67 [vI 1] of.pv)(h9:Cp 66 [c.pv,of.pv] i.pv)(ec:Cp 63 [i.pv,vI b] (.aE [j.pv,bc k])):Cp 13 [a.pv,vI b] (.aE [(⟨d,j⟩:aj).pv,bc k]) :=
 eD Tryz.func13 192 [1,1,1,1,1,1,1,1,1,1,1,1] [.q,.h 1 (.pv .az),.q,.a,.h 5 (.dec false),.f,.h 2 (.pv (.aE [c.pv,.az])),.q,.a,.h 2 (.pv (.aE [d.pv,.az])),.q,.a,.h 2 (.pv (.aE [vI g,.az])),.q,.a,.q,.f,dr 10 1 [.none,(.pv of.pv),(.pv i.pv),.none,(.pv (.aE [j.pv,bc k]))],.q] (Jj h1 (bD h2) (bD h2) (bD h2) (bD h3) h4 h5 h6 (bW h7) h8 h9 ec)
end nV
namespace dY
@[reducible] noncomputable def fn:Func:=Tryz.f14
noncomputable def bf:List eg:=focus [0,2,0,2,0,0,2,1,2,0,0,2,1,2,0,0,2,0,0] [.code (ay fn)]
def inv1(Qa:Nat)(a b:aQ):St:=⟨[(2,(.ptr 2 0)),(3,(.ptr 3 0)),(4,(.ptr 4 0)),(27,(eI (Qa:Int)))],[(2,(.lit [(.pv (ae a.p)),(eB a.rV.lo.neg),(.pv (aa a.rV.lo.num)),(.pv (aa a.rV.lo.den)),(eB a.rV.hi.neg),(.pv (aa a.rV.hi.num)),(.pv (aa a.rV.hi.den))])),(3,(.lit [(.pv (ae b.p)),(eB b.rV.lo.neg),(.pv (aa b.rV.lo.num)),(.pv (aa b.rV.lo.den)),(eB b.rV.hi.neg),(.pv (aa b.rV.hi.num)),(.pv (aa b.rV.hi.den))])),(4,(.lit [(eB false),(.pv (.list [])),(.pv (.list []))]))]⟩
@[reducible] noncomputable def ah(Qa:Nat)(a b:aQ)(r:PV):Prop:=L bp fn bf (inv1 Qa a b) r
theorem e1(a b:aQ)(c:Int){r:PV}(h1:Cp 35 [a.pv,b.pv] (.aE [vI c,.az]))(h2:c<0)(hL:ah 0 a b r):Cp 14 [a.pv,b.pv] r :=
 eG Tryz.func14 117 [1,1] [.q,.h 2 (.pv (.aE [vI c,.az])),.q,.a,.q,.f,.q,.aH [2,3,4,27],.ord [2,3,4]] (y2 h1 (jO h2)) hL
theorem l10(c:Nat)(a b:aQ)(d of g:au)(i:af)(j:Int)(h1:c<65)(h2:Cp 62 [a.pv,(vI (c:Int))] (.aE [d.pv,.az]))(h3:Cp 67 [vI 1] of.pv)(h4:Cp 66 [d.pv,of.pv] g.pv)(h5:Cp 63 [g.pv,(vI (c:Int))] (.aE [i.pv,.az]))(h6:Cp 64 [b.pv,i.pv] (.aE [vI j,.az]))(h7:0<j):ah c a b (.aE [i.pv,.az]) :=
 lD 225 [1,1,1,1,1,1,1] [.a,.q,.t,.q,.h 2 (.pv (.aE [d.pv,.az])),.q,.a,dr 10 1 [.none,(.pv of.pv),(.pv g.pv),.none,(.pv (.aE [i.pv,.az]))],.q,.a,.h 2 (.pv (.aE [vI j,.az])),.q,.a,.q,.t,.q] (y7 (ai h1) h2 h3 h4 h5 h6 (bY h7))
theorem cV(c:Nat)(a b:aQ)(d of g:au)(i:af)(j:Int){r:PV}(h1:c<65)(h2:Cp 62 [a.pv,(vI (c:Int))] (.aE [d.pv,.az]))(h3:Cp 67 [vI 1] of.pv)(h4:Cp 66 [d.pv,of.pv] g.pv)(h5:Cp 63 [g.pv,(vI (c:Int))] (.aE [i.pv,.az]))(h6:Cp 64 [b.pv,i.pv] (.aE [vI j,.az]))(h7:j≤0)(h8:(c+1)<9223372036854775808)(hL:ah (c+1) a b r):ah c a b r :=
 lG 228 [1,1,1,1,1,1,1,1] [.a,.q,.t,.q,.h 2 (.pv (.aE [d.pv,.az])),.q,.a,dr 10 1 [.none,(.pv of.pv),(.pv g.pv),.none,(.pv (.aE [i.pv,.az]))],.q,.a,.h 2 (.pv (.aE [vI j,.az])),.q,.a,.q,.f,.h 0 (iI (((c+1):Nat):Int)),.aH [2,3,4,27],.drop [11,9]] (y8 (ai h1) h2 h3 h4 h5 h6 (bD h7) (aL h8)) hL
end dY
end Go.Proofs.YtllmkadmohkbfaaGreatDoor.Sym.Path
namespace Go.Proofs.YtllmkadmohkbfaaGreatDoor.Sym
open Go Path bN
set_option linter.unusedVariables false
def iK(f:List Rat)(lo hi:Rat):aQ:=⟨f.map aN,pf lo hi⟩
structure Vn (f:List Rat) (lo hi:Rat):Prop where
 zf:aK f=false
 fl:Fl 1073741824 f
 ln:f.length≤10
 h1:ht lo≤1073741824
 h2:ht hi≤1073741824
theorem nW{p q:Rat}(h:p≠q):fJ p q≠0:=fun e=>h (eS.1 e)
theorem Fg{a b N:Nat}(ha:1≤a)(dm:a≤b):∀(n i j:Nat) (p q:List Rat),vz a b N i j p q→Ch (xB a b (N-(gp n p q).length)) (gp n p q)
 |0,i,j,p,q,e=>e.hp.mono (cu a b dm (by show i≤N-p.length;have:=e.bound;have:=e.lt;omega))
 |n+1,i,j,p,q,e=>by
  rw[gp]
  by_cases h:q.length=0
  ·rw[beq_iff.2 h,cond_true];exact e.hp.mono (cu a b dm (by have:=e.bound;have:=e.lt;omega))
  ·have df:q≠[]:=fun e=>h (by rw[e];rfl)
   rw[eR.2 h,cond_false]
   obtain⟨h1,h2⟩:=e.rest dm df
   have hz:=cQ p q
   exact Fg ha dm n _ _ q _ (e.next dm df (h1.e9 (Nat.le_trans ha (cu a b dm (i:=0) (Nat.zero_le _))) hz) (by rw[bJ hz];exact h2) (bT _))
theorem Lu:∀l,l<7→sB (xB 7 63 (6-l)) l≤1073741824:=by decide +kernel
theorem Fh{p q:List Rat}(zp:aK p=false)(zq:aK q=false)(lp:p.length≤6)(lq:q.length≤6)(hp:Ch 7 p)(hq:Ch 7 q)(q0:q≠[]):dz (xB 7 63 (6-(bX p q).length)) (bX p q).length (bX p q):=by
 have A4:=List.length_pos_iff.2 q0
 have zg:=eE p q
 have zF:=kB (q.length+1) p q zp zq
 have g0:bX p q≠[]:=pM zF (yr _ _ _ (Or.inr ⟨q0,by omega⟩))
 have hl:(bX p q).length≤6:=by have:=((j7 p q zp zq).2.len zg zq q0).2;omega
 have Vo:(bX p q).length=(gp (q.length+1) p q).length:=bJ zF
 have hr:Ch 63 (bm p q):=(hp.rest hq zq q0).mono (by
  have:(p.length+1-q.length)*(7+1)≤6*(7+1):=Nat.mul_le_mul_right _ (by omega)
  omega)
 have Jn:(bm p q).length<q.length:=(fN p zq q0).1
 have hE:vz 7 63 6 0 1 q (bP (bm p q)):=⟨hq,hr.e9 (by omega) (cQ p q),by omega,by rw[bJ (cQ p q)];exact Jn,by omega,zq,bT _⟩
 have e1:gp (q.length+1) p q=gp q.length q (bP (bm p q)):=by
  rw[gp,eR.2 (by omega),cond_false]
 have hc:=Fg (a:=7) (b:=63) (N:=6) (by omega) (by omega) q.length 0 1 q (bP (bm p q)) hE
 rw[←e1,←Vo] at hc
 have h1:1≤xB 7 63 (6-(bX p q).length):=r8 (by omega) (by omega) _
 exact⟨zg,g0,Nat.le_refl _,hc.e9 h1 zF,h1,by omega,Lu _ (by omega)⟩
structure Sm (p:List Rat):Prop where
 z:aK p=false
 l:p.length≤6
 f:Fl 1 p
theorem Sm.ch{p:List Rat}(h:Sm p):Ch 7 p:=(Ch.E7 h.f).mono (by have:=h.l;omega)
theorem Sm.ok{f:List Rat}(h:Sm f){lo hi:Rat}(h1:ht lo≤1073741824)(h2:ht hi≤1073741824):Vn f lo hi:=⟨h.z,fg h.f (by omega),by have:=h.l;omega,h1,h2⟩
namespace qN
theorem compare{f:List Rat}{lo hi:Rat}(O:Vn f lo hi)(hle:lo≤hi){x:Rat}(hx:ht x≤1073741824):Cp 64 [(iK f lo hi).pv,(aN x).pv] (.aE [vI (bb f lo hi x),.az]):=by
 have h1:=O.h1
 have h2:=O.h2
 have c1:=QF.rb lo hi (by omega) (by omega)
 have c2:=QF.rb lo x (by omega) (by omega)
 have c3:=QF.rb x lo (by omega) (by omega)
 have c4:=QF.rb x hi (by omega) (by omega)
 unfold bb
 by_cases he:lo=hi
 ·rw[if_pos he]
  exact gb.e0 (iK f lo hi) (aN x) _ _ c1 (eS.2 he) c2
 ·rw[if_neg he]
  by_cases k1:x≤lo
  ·rw[if_pos k1]
   exact gb.e1 (iK f lo hi) (aN x) _ _ c1 (nW he) c3 (by rcases eF x lo with k|k|k<;>first|omega|(exfalso;grind))
  ·rw[if_neg k1]
   have WS:0<fJ x lo:=by rw[r4 (by grind)];omega
   by_cases k2:hi≤x
   ·rw[if_pos k2]
    exact gb.e2 (iK f lo hi) (aN x) _ _ _ c1 (nW he) c3 WS c4 (by rcases eF x hi with k|k|k<;>first|omega|(exfalso;grind))
   ·rw[if_neg k2]
    have hl:=O.ln
    have e1:=PQ.Eval f x O.zf (by omega) O.fl hx (by omega)
    have e2:=PQ.Eval f lo O.zf (by omega) O.fl O.h1 (by omega)
    have w1:=mY f x _ O.fl hx
    have w2:=mY f lo _ O.fl O.h1
    have hm:f.length*(2*1073741824+1)≤10*(2*1073741824+1):=Nat.mul_le_mul_right _ hl
    exact gb.e3 (iK f lo hi) (aN x) _ _ _ _ _ _ _ c1 (nW he) c3 WS c4 (by rw[rZ (by grind)];omega) e1 e2 (QF.Sign _ (by omega)) (QF.Sign _ (by omega)) (nU _ _)
theorem KJ{f:List Rat}{lo hi:Rat}(O:Vn f lo hi)(hle:lo≤hi)(h3:ht (midQ lo hi)≤1073741824):Cp 204 [(iK f lo hi).pv] (.aE [(iK f (iu f lo hi).1 (iu f lo hi).2).pv,.az]):=by
 have h1:=O.h1
 have h2:=O.h2
 have c1:=QF.rb lo hi (by omega) (by omega)
 unfold iu
 by_cases he:lo=hi
 ·rw[if_pos he]
  exact fP.e0 (iK f lo hi) _ c1 (eS.2 he)
 ·rw[if_neg he]
  have cm:=HZ.Td lo hi h1 h2 hle
  have cc:=compare O hle h3
  change Cp 176 [(pf lo hi).pv] (aN (midQ lo hi)).pv at cm
  by_cases k0:bb f lo hi (midQ lo hi)=0
  ·rw[if_pos k0]
   exact fP.e1 (iK f lo hi) _ _ _ (pf (midQ lo hi) (midQ lo hi)) c1 (nW he) cm cc k0 (Oo.H2 _ (by omega))
  ·rw[if_neg k0]
   by_cases k1:bb f lo hi (midQ lo hi)=1
   ·rw[if_pos k1]
    exact fP.e2 (iK f lo hi) _ _ _ c1 (nW he) cm cc k0 k1
   ·rw[if_neg k1]
    exact fP.e3 (iK f lo hi) _ _ _ c1 (nW he) cm cc k0 k1
theorem Lw{p f:List Rat}{lo hi:Rat}(P:Sm p)(F:Sm f)(f0:f≠[])(hle:lo≤hi)(h1:ht lo≤1073741824)(h2:ht hi≤1073741824):Cp 201 [pq p,(iK f lo hi).pv] (.aE [vB (IX p f lo hi),.az]):=by
 unfold IX
 by_cases h0:p.length=0
 ·rw[if_pos h0]
  exact fI.e0 _ (iK f lo hi) (by rw[bF];exact h0)
 ·rw[if_neg h0]
  have fi:=Fh P.z F.z P.l F.l P.ch F.ch f0
  have lg:(bX p f).length≤6:=by have:=((j7 p f P.z F.z).2.len fi.zp F.z f0).2;have:=F.l;omega
  have hg:=PQ.Gcd (h:=7) (b:=7) (c:=63) (L:=6) (by omega) (by omega) (by omega) (by omega) (by omega) (by decide) p f P.z F.z P.l F.l P.ch F.ch
  have c1:=QF.rb lo hi (by omega) (by omega)
  by_cases hl:(bX p f).length<2
  ·rw[if_pos hl]
   exact fI.e1 _ (iK f lo hi) _ (by rw[bF];exact h0) hg (by rw[bF];exact hl)
  ·rw[if_neg hl]
   by_cases he:lo=hi
   ·rw[if_pos he]
    have fl:=fi.Nt
    have e1:=PQ.Eval (bX p f) lo fi.zp (by omega) fl h1 (by omega)
    have w1:=mY (bX p f) lo _ fl h1
    have hm:(bX p f).length*(2*1073741824+1)≤6*(2*1073741824+1):=Nat.mul_le_mul_right _ lg
    have:=fI.e2 _ (iK f lo hi) _ _ _ none _ (by rw[bF];exact h0) hg (by rw[bF];omega) c1 (eS.2 he) e1 (QF.Sign _ (by omega))
    rw[vK (q:=evalL (bX p f) lo=0) eS] at this
    exact this
   ·rw[if_neg he]
    have cn:=HZ.Count fi lo hi hle h1 h2
    exact fI.e3 _ (iK f lo hi) _ _ _ none (by rw[bF];exact h0) hg (by rw[bF];omega) c1 (nW he) cn
def Ot(f:List Rat)(lo hi:Rat)(g:List Rat)(lo' hi':Rat):Bool:=IX g f lo hi&&(decide (0≤bb f lo hi lo')&&decide (bb f lo hi hi'≤0))
theorem equal{f g:List Rat}{lo hi lo' hi':Rat}(F:Sm f)(G:Sm g)(f0:f≠[])(hle:lo≤hi)(h1:ht lo≤1073741824)(h2:ht hi≤1073741824)(h3:ht lo'≤1073741824)(h4:ht hi'≤1073741824):Cp 174 [(iK f lo hi).pv,(iK g lo' hi').pv] (.aE [vB (Ot f lo hi g lo' hi'),.az]):=by
 have hv:=Lw G F f0 hle h1 h2
 have k1:=compare (F.ok h1 h2) hle h3
 have k2:=compare (F.ok h1 h2) hle h4
 unfold Ot
 cases hb:IX g f lo hi with
 |false =>
  rw[hb] at hv
  exact j9.e0 (iK f lo hi) (iK g lo' hi') _ hv rfl
 |true =>
  rw[hb] at hv
  rw[Bool.true_and]
  by_cases h0:0≤bb f lo hi lo'
  ·rw[decide_eq_true h0,Bool.true_and]
   exact j9.e1 (iK f lo hi) (iK g lo' hi') _ _ _ none hv rfl k1 k2 h0
  ·rw[decide_eq_false h0,Bool.false_and]
   exact j9.e2 (iK f lo hi) (iK g lo' hi') _ _ _ none hv rfl k1 k2 (by omega)
theorem DD{f g:List Rat}{lo hi lo' hi':Rat}(A:gi f lo hi)(B:gi g lo' hi'):Ot f lo hi g lo' hi'=true↔GL f lo hi g lo' hi':=by
 rw[Nn A B]
 unfold Ot
 rw[Bool.and_eq_true,Bool.and_eq_true,Lj A B.zf,decide_eq_true_iff,decide_eq_true_iff]
end qN
end Go.Proofs.YtllmkadmohkbfaaGreatDoor.Sym
namespace Go.Proofs.YtllmkadmohkbfaaGreatDoor.Sym
open Go Path bN
set_option linter.unusedVariables false
def Dy(a w:Rat)(k:Nat)(lo hi:Rat):Prop:=(∃j,j<2^k∧lo=ptQ a w k j∧hi=ptQ a w k (j+1))∨(lo=hi∧∃j,j≤2^k∧lo=ptQ a w k j)
theorem Dy.start(lo hi:Rat):Dy lo (hi-lo) 0 lo hi:=Or.inl ⟨0,by decide,(sV _ _).1.symm,by have:=(sV lo (hi-lo)).2;rw[this];grind⟩
theorem Dy.ht{a w lo hi:Rat}{k:Nat}(h:Dy a w k lo hi):Sym.ht lo≤Sym.ht a+Sym.ht w+k/32+4∧Sym.ht hi≤Sym.ht a+Sym.ht w+k/32+4:=by
 rcases h with ⟨j,h1,rfl,rfl⟩|⟨rfl,j,h1,rfl⟩
 ·exact⟨uy a w (by omega),uy a w (by omega)⟩
 ·exact⟨uy a w h1,uy a w h1⟩
theorem Dy.j6{a w lo hi:Rat}{k:Nat}(h:Dy a w k lo hi)(df:lo≠hi):Sym.ht (midQ lo hi)≤Sym.ht a+Sym.ht w+(k+1)/32+4:=by
 rcases h with ⟨j,h1,rfl,rfl⟩|⟨e,_⟩
 ·unfold midQ
  rw[GO]
  exact uy a w (by rw[Nat.pow_succ];omega)
 ·exact absurd e df
theorem Dy.half{a w lo hi:Rat}{k:Nat}(f:List Rat)(h:Dy a w k lo hi):Dy a w (k+1) (iu f lo hi).1 (iu f lo hi).2:=by
 unfold iu
 by_cases he:lo=hi
 ·rw[if_pos he]
  right
  refine⟨he,?_⟩
  rcases h with ⟨j,h1,h2,h3⟩|⟨_,j,h1,h2⟩
  ·exact⟨2*j,by rw[Nat.pow_succ];omega,by rw[ma];exact h2⟩
  ·exact⟨2*j,by rw[Nat.pow_succ];omega,by rw[ma];exact h2⟩
 ·rw[if_neg he]
  rcases h with ⟨j,h1,rfl,rfl⟩|⟨e,_⟩
  ·have hm:midQ (ptQ a w k j) (ptQ a w k (j+1))=ptQ a w (k+1) (2*j+1):=by unfold midQ;rw[GO]
   have hp:2^(k+1)=2^k*2:=Nat.pow_succ ..
   rw[hm]
   split
   ·exact Or.inr ⟨rfl,2*j+1,by omega,rfl⟩
   ·split
    ·exact Or.inl ⟨2*j+1,by omega,rfl,by rw[show 2*j+1+1=2*(j+1) by omega,ma]⟩
    ·exact Or.inl ⟨2*j,by omega,by rw[ma],rfl⟩
  ·exact absurd e he
def l3(f g:List Rat):Nat→Rat→Rat→Rat→Rat→Option ((Rat×Rat)×(Rat×Rat))
 |0,_,_,_,_=>none
 |n+1,lo,hi,lo',hi'=>if lo'<hi∧lo<hi' then l3 f g n (iu f lo hi).1 (iu f lo hi).2 (iu g lo' hi').1 (iu g lo' hi').2 else some ((lo,hi),(lo',hi'))
theorem apart_spec{f g:List Rat} : ∀(n:Nat) (lo hi lo' hi':Rat) (r:(Rat×Rat)×(Rat×Rat)),gi f lo hi→gi g lo' hi'→l3 f g n lo hi lo' hi'=some r →
  gi f r.1.1 r.1.2∧gi g r.2.1 r.2.2∧(∀x,bb f r.1.1 r.1.2 x=bb f lo hi x)∧(∀x,bb g r.2.1 r.2.2 x=bb g lo' hi' x)∧(r.1.2≤r.2.1∨r.2.2≤r.1.1)
 |0,_,_,_,_,_,_,_,h=>by cases h
 |n+1,lo,hi,lo',hi',r,A,B,h=>by
  rw[l3] at h
  split at h
  ·obtain⟨a1,a2, -⟩:=pO A
   obtain⟨b1,b2, -⟩:=pO B
   obtain⟨k1,k2,k3,k4,k5⟩:=apart_spec n _ _ _ _ r a1 b1 h
   exact⟨k1,k2,fun x=>by rw[k3,a2],fun x=>by rw[k4,b2],k5⟩
  ·rename_i hn
   injection h with h
   subst h
   refine⟨A,B,fun _=>rfl,fun _=>rfl,?_⟩
   by_cases h1:lo'<hi
   ·right
    show hi'≤lo
    grind
   ·left
    show hi≤lo'
    grind
def IZ(f g:List Rat)(n:Nat)(lo hi lo' hi':Rat):Option Int :=
 bif qN.Ot f lo hi g lo' hi' then some 0 else match l3 f g n lo hi lo' hi' with
  |some r=>some (if midQ r.1.1 r.1.2<midQ r.2.1 r.2.2 then -1 else 1)
  |none=>none
theorem I1{f g:List Rat}{n:Nat}{lo hi lo' hi':Rat}{s:Int}(A:gi f lo hi)(B:gi g lo' hi')(h:IZ f g n lo hi lo' hi'=some s) :
  (s=0∧GL f lo hi g lo' hi')∨(s = -1∧AX f lo hi g lo' hi')∨(s=1∧AX g lo' hi' f lo hi):=by
 unfold IZ at h
 cases he:qN.Ot f lo hi g lo' hi' with
 |true =>
  rw[he,cond_true] at h
  injection h with h
  exact Or.inl ⟨h.symm,(qN.DD A B).1 he⟩
 |false =>
  rw[he,cond_false] at h
  have df:¬GL f lo hi g lo' hi':=fun e=>by rw[(qN.DD A B).2 e] at he;cases he
  cases hr:l3 f g n lo hi lo' hi' with
  |none=>rw[hr] at h;cases h
  |some r =>
   rw[hr] at h
   injection h with h
   obtain⟨k1,k2,k3,k4,k5⟩:=apart_spec n lo hi lo' hi' r A B hr
   have l1:=k1.le
   have l2:=k2.le
   have m1:=Dr r.1.1 r.1.2
   have m2:=Dr r.2.1 r.2.2
   have NP:¬(r.1.1=r.1.2∧r.2.1=r.2.2∧r.1.1=r.2.1):=fun ⟨e1,e2,e3⟩=>df (fun x=>by
    rw[←k3,←k4]
    unfold bb
    rw[if_pos e1,if_pos e2,e3])
   rcases k5 with k5|k5
   ·have bh:midQ r.1.1 r.1.2<midQ r.2.1 r.2.2:=by
     refine Rat.not_le.1 fun hc=>NP ⟨by grind,by grind,by grind⟩
    rw[if_pos bh] at h
    refine Or.inr (Or.inl ⟨h.symm,?_⟩)
    rcases Ta A B with t|t|t
    ·exact t
    ·exact absurd t df
    ·obtain⟨x,x1,x2⟩:=t
     rw[←k4] at x1
     rw[←k3] at x2
     exfalso
     have a1:r.2.1≤x:=by
      refine Rat.not_lt.1 fun hh => ?_
      have:=k2.lB hh k2.r5;omega
     have a2:x≤r.1.2:=by
      refine Rat.not_lt.1 fun hh => ?_
      have:=k1.mono hh k1.Az;omega
     have ex:x=r.2.1:=by grind
     have Fi:x=r.1.2:=by grind
     have b1:0≤bb g r.2.1 r.2.2 x:=by rw[ex];exact k2.r5
     omega
   ·have bh:¬midQ r.1.1 r.1.2<midQ r.2.1 r.2.2:=by grind
    rw[if_neg bh] at h
    refine Or.inr (Or.inr ⟨h.symm,?_⟩)
    rcases Ta A B with t|t|t
    ·obtain⟨x,x1,x2⟩:=t
     rw[←k3] at x1
     rw[←k4] at x2
     exfalso
     have a1:r.1.1≤x:=by
      refine Rat.not_lt.1 fun hh => ?_
      have:=k1.lB hh k1.r5;omega
     have a2:x≤r.2.2:=by
      refine Rat.not_lt.1 fun hh => ?_
      have:=k2.mono hh k2.Az;omega
     have ex:x=r.1.1:=by grind
     have b1:0≤bb f r.1.1 r.1.2 x:=by rw[ex];exact k1.r5
     omega
    ·exact absurd t df
    ·exact t
namespace qN
theorem Lx{f:List Rat}{lo hi a w:Rat}{k:Nat}(F:Sm f)(A:gi f lo hi)(D:Dy a w k lo hi)(hh:ht a+ht w+(k+1)/32+4≤1073741824):Cp 204 [(iK f lo hi).pv] (.aE [(iK f (iu f lo hi).1 (iu f lo hi).2).pv,.az]):=by
 obtain⟨h1,h2⟩:=D.ht
 have O:=F.ok (lo:=lo) (hi:=hi) (by omega) (by omega)
 by_cases he:lo=hi
 ·have c1:=QF.rb lo hi (by omega) (by omega)
  have e:iu f lo hi=(lo,hi):=by unfold iu;rw[if_pos he]
  rw[e]
  exact fP.e0 (iK f lo hi) _ c1 (eS.2 he)
 ·exact KJ O A.le (by have:=D.j6 he;omega)
theorem apart{f g:List Rat}{a w a' w':Rat}{K:Nat}(F:Sm f)(G:Sm g)(h1:ht a+ht w+K/32+4≤1073741824)(h2:ht a'+ht w'+K/32+4≤1073741824):∀(n k:Nat) (lo hi lo' hi':Rat) (r:(Rat×Rat)×(Rat×Rat)),n+k≤K+1→gi f lo hi→gi g lo' hi'→Dy a w k lo hi→Dy a' w' k lo' hi'→l3 f g n lo hi lo' hi'=some r →
  fQ.ah (iK f lo hi) (iK g lo' hi') (.aE [(iK f r.1.1 r.1.2).pv,(iK g r.2.1 r.2.2).pv,.az])∧ht (midQ r.1.1 r.1.2)≤4294967296∧ht (midQ r.2.1 r.2.2)≤4294967296∧ht r.1.1≤1073741824∧ht r.1.2≤1073741824∧ht r.2.1≤1073741824∧ht r.2.2≤1073741824
 |0,_,_,_,_,_,_,_,_,_,_,_,h=>by cases h
 |n+1,k,lo,hi,lo',hi',r,hn,A,B,D,E,h=>by
  obtain⟨d1,d2⟩:=D.ht
  obtain⟨e1,e2⟩:=E.ht
  have c1:=QF.rb hi lo' (by omega) (by omega)
  have c2:=QF.rb hi' lo (by omega) (by omega)
  rw[l3] at h
  split at h
  ·rename_i bh
   match n,h with
   |0,h=>cases h
   |n+1,h =>
    have a1:=pO A
    have b1:=pO B
    obtain⟨g1,g2⟩:=apart F G h1 h2 (n+1) (k+1) _ _ _ _ r (by omega) a1.1 b1.1 (D.half f) (E.half g) h
    exact⟨fQ.l10 (iK f lo hi) (iK g lo' hi') _ _ _ _ c1 (by rw[r4 bh.1];omega) c2 (by rw[r4 bh.2];omega) (Lx F A D (by omega)) (Lx G B E (by omega)) g1,g2⟩
  ·rename_i Jh
   injection h with h
   subst h
   have mh:∀x y:Rat,ht x≤1073741824→ht y≤1073741824→ht (midQ x y)≤4294967296:=fun x y hx hy=>by
    unfold midQ
    have s1:=rM x y
    have s2:=ll (Rat.divInt 1 2) (x+y)
    have s3:ht (Rat.divInt 1 2)=1:=by decide +kernel
    omega
   refine⟨?_,mh lo hi (by omega) (by omega),mh lo' hi' (by omega) (by omega),(show ht lo≤1073741824 by omega),(show ht hi≤1073741824 by omega),(show ht lo'≤1073741824 by omega),(show ht hi'≤1073741824 by omega)⟩
   by_cases k1:lo'<hi
   ·exact fQ.ta (iK f lo hi) (iK g lo' hi') _ _ c1 (by rw[r4 k1];omega) c2 (by rcases eF hi' lo with k|k|k<;>first|omega|(exfalso;exact Jh ⟨k1,k.1⟩))
   ·exact fQ.GB (iK f lo hi) (iK g lo' hi') _ c1 (by rcases eF hi lo' with k|k|k<;>first|omega|(exfalso;exact k1 k.1))
theorem cmp{f g:List Rat}{lo hi lo' hi':Rat}{K:Nat}{s:Int}(F:Sm f)(G:Sm g)(A:gi f lo hi)(B:gi g lo' hi')(h1:ht lo+ht (hi-lo)+K/32+4≤1073741824)(h2:ht lo'+ht (hi'-lo')+K/32+4≤1073741824)(h:IZ f g (K+1) lo hi lo' hi'=some s) :
  Cp 96 [(iK f lo hi).pv,(iK g lo' hi').pv] (.aE [vI s,.az]):=by
 obtain⟨d1,d2⟩:=(Dy.start lo hi).ht
 obtain⟨e1,e2⟩:=(Dy.start lo' hi').ht
 have he:=equal F G A.f0 A.le (lo:=lo) (hi:=hi) (lo':=lo') (hi':=hi') (by omega) (by omega) (by omega) (by omega)
 unfold IZ at h
 cases hb:Ot f lo hi g lo' hi' with
 |true =>
  rw[hb] at he h
  have hs:s=0:=(Option.some.inj h).symm
  rw[hs]
  exact mb.e0 (iK f lo hi) (iK g lo' hi') _ he rfl
 |false =>
  rw[hb] at he h
  rw[cond_false] at h
  cases hr:l3 f g (K+1) lo hi lo' hi' with
  |none=>rw[hr] at h;cases h
  |some r =>
   rw[hr] at h
   have h:=Option.some.inj h
   obtain⟨k1,k2, -⟩:=apart_spec _ lo hi lo' hi' r A B hr
   obtain⟨g1,g2,g3,g4,g5,g6,g7⟩:=apart F G h1 h2 (K+1) 0 lo hi lo' hi' r (by omega) A B (Dy.start lo hi) (Dy.start lo' hi') hr
   have ga:=fQ.e0 (iK f lo hi) (iK g lo' hi') g1
   have m1:=HZ.Td r.1.1 r.1.2 g4 g5 k1.le
   have m2:=HZ.Td r.2.1 r.2.2 g6 g7 k2.le
   have c:=QF.rb (midQ r.1.1 r.1.2) (midQ r.2.1 r.2.2) (by omega) (by omega)
   by_cases bh:midQ r.1.1 r.1.2<midQ r.2.1 r.2.2
   ·rw[if_pos bh] at h
    subst h
    exact mb.e1 (iK f lo hi) (iK g lo' hi') _ (iK f r.1.1 r.1.2) (iK g r.2.1 r.2.2) _ _ _ he rfl ga m1 m2 c (by rw[rZ bh];omega)
   ·rw[if_neg bh] at h
    subst h
    exact mb.e2 (iK f lo hi) (iK g lo' hi') _ (iK f r.1.1 r.1.2) (iK g r.2.1 r.2.2) _ _ _ he rfl ga m1 m2 c (by rcases eF (midQ r.1.1 r.1.2) (midQ r.2.1 r.2.2) with k|k|k<;>first|omega|(exfalso;exact bh k.1))
end qN
end Go.Proofs.YtllmkadmohkbfaaGreatDoor.Sym
namespace Go.Proofs.YtllmkadmohkbfaaGreatDoor.Sym
open Go bN
set_option linter.unusedVariables false
theorem AH{P q:List Rat}(hz:aK q=false)(mG:q≠[])(x:Rat):evalL (cJ P q).1 x*evalL q x+evalL (bm P q) x=evalL P x:=(fN P hz mG).2 x
theorem I2{f g:List Rat}{u v:Rat}(A:gi f u v)(zg:aK g=false)(g0:g≠[])(hd:Dv g f)(hn:¬Zr f u v g):lH g u v:=by
 have hle:=A.le
 by_cases he:u=v
 ·subst he
  have h0:evalL g u≠0:=fun e=>hn ((A.wS (E9 rfl)).2 e)
  obtain⟨δ,d0,hδ⟩:=sQ h0
  exact hδ.sub (by grind) (by grind)
 ·have bh:u<v:=by grind
  obtain⟨G1,G2,G3,G4,k, -,G5⟩:=free_spec zg g0
  have hc:¬0<fK (bL g) u-fK (bL g) v:=fun h=>hn ((A.Lg bh zg g0 hd).1 h)
  have hm:=mz G1 G2 G3 hle
  have df:evalL (bx g) u≠0:=fun e=>by
   obtain⟨c,hc⟩:=G4.trans hd
   exact(A.ends bh).1 (by rw[hc u,e];grind)
  have AV:¬0<cS (bx g) u-cS (bx g) v:=hc
  have ha:=pN G1 G2 G3 hle (by unfold cS at AV;omega) df
  exact yw (As ha k) G5
theorem Fj{f g f1:List Rat}{u v:Rat}(A:gi f u v)(zg:aK g=false)(g0:g≠[])(hd:∀x,evalL f x=evalL f1 x*evalL g x)(hn:¬Zr f u v g):evalL f1 u=0∨evalL f1 v=0∨sg (evalL f1 u) = - sg (evalL f1 v):=by
 have ha:=I2 A zg g0 ⟨f1,hd⟩ hn
 have hle:=A.le
 by_cases he:u=v
 ·subst he
  left
  have hz:evalL f u=0:=by
   rcases A.Jo with ⟨_,k⟩|⟨k,_⟩
   ·exact k
   ·exact absurd k Rat.lt_irrefl
  rw[hd] at hz
  rcases Rat.mul_eq_zero.1 hz with h|h
  ·exact h
  ·exact absurd h (ha.ne Rat.le_refl Rat.le_refl)
 ·have bh:u<v:=by grind
  right;right
  have hs:=A.HW (u:=u) (v:=v) (A.low bh Rat.le_refl) (A.high bh Rat.le_refl) (Or.inl Rat.le_refl) (Or.inl Rat.le_refl) bh
  have hg:=HQ hle ha
  have n1:=vx (ha.ne Rat.le_refl hle)
  rw[hd,hd] at hs
  have sm:∀x y:Rat,sg (x*y)=sg x*sg y:=fun x y=>by
   rcases bI x with ⟨a,b⟩|⟨a,b⟩|⟨a,b⟩<;>rcases bI y with ⟨c,d⟩|⟨c,d⟩|⟨c,d⟩<;>rw[b,d]
   ·have:=Rat.mul_pos (show 0 < -x by grind) (show 0 < -y by grind)
    rcases bI (x*y) with k|k|k<;>first|(rw [k.2];decide)|(exfalso;grind)
   ·rw[c,Rat.mul_zero];rfl
   ·have:=Rat.mul_pos (show 0 < -x by grind) c
    rcases bI (x*y) with k|k|k<;>first|(rw [k.2];decide)|(exfalso;grind)
   ·rw[a,Rat.zero_mul];rfl
   ·rw[a,Rat.zero_mul];rfl
   ·rw[a,Rat.zero_mul];rfl
   ·have:=Rat.mul_pos a (show 0 < -y by grind)
    rcases bI (x*y) with k|k|k<;>first|(rw [k.2];decide)|(exfalso;grind)
   ·rw[c,Rat.mul_zero];rfl
   ·have:=Rat.mul_pos a c
    rcases bI (x*y) with k|k|k<;>first|(rw [k.2];decide)|(exfalso;grind)
  rw[sm,sm,hg] at hs
  rcases n1 with n|n<;>rw[hg] at n<;>rw[n] at hs<;>omega
theorem U9{P1 V1 U1 K F1 w:Rat}{S K1 L1 N:Nat}(h:V1*P1+(U1-V1*K)*F1=1)(hU:ab U1≤twP S)(hV:ab V1≤twP S)(hK:ab K≤twP K1)(hF:ab F1≤twP L1*w)(Fw:0≤w)(hw:w*twP N≤1)(hN:S+K1+L1+2≤N):1≤ab P1*twP N:=by
 have pS:=dX S
 have pK:=dX K1
 have pL:=dX L1
 have e1:ab (U1-V1*K)≤twP (S+K1+1):=by
  have a1:=lz U1 (-(V1*K))
  rw[Dl,gh] at a1
  have a2:=cO hV hK (bz V1) (Rat.le_of_lt pK)
  have a3:=bV (show S≤S+K1 by omega)
  rw[fH,jv]
  rw[jv] at a3
  have a4:U1-V1*K=U1 + -(V1*K):=by grind
  rw[a4]
  grind
 have e2:ab ((U1-V1*K)*F1)≤twP (S+K1+1)*(twP L1*w):=by
  rw[gh]
  exact cO e1 hF (bz _) (Rat.mul_nonneg (Rat.le_of_lt pL) Fw)
 have e3:twP (S+K1+1)*(twP L1*w)+twP (S+K1+1)*(twP L1*w)≤1:=by
  have b1:=Rat.mul_le_mul_of_nonneg_left (bV hN) Fw
  have b2:twP (S+K1+L1+2)=twP (S+K1+1)*twP L1+twP (S+K1+1)*twP L1:=by
   rw[←jv,←fH]
   congr 1;omega
  rw[b2] at b1
  grind
 have e4:=lz (V1*P1) ((U1-V1*K)*F1)
 rw[h,show ab 1=1 from rfl,gh] at e4
 have e5:=Rat.mul_le_mul_of_nonneg_right hV (bz P1)
 have e6:=Rat.mul_le_mul_of_nonneg_left (bV (show S+1≤N by omega)) (bz P1)
 rw[fH] at e6
 grind
theorem Ny{f p g f1:List Rat}{u v:Rat}(A:gi f u v)(zp:aK p=false)(lp:p.length≤6)(cp:Ch 7 p)(zg:aK g=false)(g0:g≠[])(hd:∀x,evalL f x=evalL f1 x*evalL g x)(hb:∃U V,∀x,evalL g x=evalL U x*evalL p x+evalL V x*evalL f x)(Jd:¬Zr f u v g)
  (z1:aK f1=false) (l1:f1.length≤6) (c1:Ch 82021 f1) (Te:Fl 13670 f1) (hu:ab u≤twP 32) (hv:ab v≤twP 32) {N:Nat} (hN:1952809344+18373318+437644+2≤N) (hw:(v-u)*twP N≤1):∀x,u≤x→x≤v→1≤ab (evalL p x)*twP N:=by
 have QW:=Fj A zg g0 hd Jd
 have hle:=A.le
 have f10:f1≠[]:=fun e=>by
  have h4:aJ f=aJ []:=E0 (fun z=>by rw[hd z,e];show(0:Rat)*_=0;grind)
  rw[show aJ f=f from iZ (bg f) A.zf (dc f)] at h4
  exact A.f0 h4
 obtain⟨a,b,dm⟩:=A.Dk
 obtain⟨U0,V0,PW⟩:=hb
 have Vp:n8 f1 p:=by
  refine⟨cM (cM (mulL a g) (mulL b (ak g))) (mulL (mulL (mulL b (ak f1)) V0) g),mulL (mulL b (ak f1)) U0,fun x => ?_⟩
  have h1:=dm x
  have h2:=PW x
  have h3:=hd x
  have h4:dEv f x=dEv f1 x*evalL g x+evalL f1 x*dEv g x:=by
   rw[nh (q:=mulL f1 g) (fun x=>by rw[aF];exact hd x) x,qF]
  rw[cr,h4] at h1
  simp only[br,aF,cr]
  generalize evalL a x=A' at *
  generalize evalL b x=B' at *
  generalize evalL g x=G' at *
  generalize evalL f1 x=F' at *
  generalize dEv f1 x=DF at *
  generalize dEv g x=DG at *
  generalize evalL U0 x=U' at *
  generalize evalL V0 x=V' at *
  generalize evalL p x=P' at *
  rw[h3] at h1 h2
  grind
 obtain⟨al,be,J9⟩:=Vp
 have he:=fun x=>AH (P:=p) z1 f10 x
 have L8:n8 f1 (bm p f1):=⟨cM al (mulL be (cJ p f1).1),be,fun x=>by
  have h1:=J9 x
  have h2:=he x
  rw[br,aF]
  grind⟩
 have r0:bm p f1≠[]:=fun e=>by
  obtain⟨x1,x2,hx⟩:=L8
  have K0:Dv f1 [1]:=⟨x1,fun x=>by
   have:=hx x
   rw[e] at this
   rw[dp]
   change _+_*(0:Rat)=1 at this
   grind⟩
  have hl:=(K0.len z1 (show aK [(1:Rat)]=false by decide) (by simp)).2
  have jA:=List.length_pos_iff.2 f10
  obtain⟨c,rfl⟩:∃c,f1=[c]:=List.length_eq_one_iff.1 (by simp at hl;omega)
  have hc:c≠0:=cz z1 f10
  rw[dp,dp] at QW
  rcases QW with k|k|k
  ·exact hc k
  ·exact hc k
  ·rcases vx hc with m|m<;>omega
 have Jn:=(fN p z1 f10).1
 have GY:=List.length_pos_iff.2 f10
 have hm:(p.length+1-f1.length)*(82021+1)≤6*(82021+1):=Nat.mul_le_mul_right _ (by omega)
 have O0:Ch 492139 (bm p f1):=(cp.rest c1 z1 f10).mono (by omega)
 have hE:vz 82021 492139 6 0 1 f1 (bm p f1):=⟨c1,O0,by omega,Jn,by omega,z1,cQ p f1⟩
 have hR:(0:Rat)≤twP 32:=Rat.le_of_lt (dX 32)
 obtain⟨U,V,Vq,QV,Ok⟩:=Le (a:=82021) (b:=492139) (N:=6) (r:=32) (R:=twP 32) (by omega) (by omega) hR Rat.le_refl (by omega) 6 0 1 f1 (bm p f1) hE r0 L8 (by unfold bm at *;omega)
 have Yr:xB 82021 492139 (6-1)=15256323:=by decide
 have hS:32*(4*xB 82021 492139 (6-1)-3*xB 82021 492139 1)≤1952809344:=by rw[Yr];omega
 have QV:=Rat.le_trans QV (bV hS)
 have Ok:=Rat.le_trans Ok (bV hS)
 have Ys:Fl 574160 (cJ p f1).1:=fg (yx cp c1 (by omega) (by omega) z1 f10) (by omega)
 have Zb:=vy (p:=p) z1 f10
 have Vr:=Dq hR Rat.le_refl (cJ p f1).1 (Ca Ys)
 have Vr:=Rat.le_trans Vr (bV (show 32*574160+(32+1)*(cJ p f1).1.length≤18373318 from
  Nat.le_trans (Nat.add_le_add_left (Nat.mul_le_mul_left (32+1) (show (cJ p f1).1.length≤6 by omega)) _) (by decide)))
 have O7:=Ax hR Rat.le_refl f1 (Ca Te)
 have O7:=Rat.le_trans O7 (bV (show 32*13670+(32+2)*f1.length≤437644 from
  Nat.le_trans (Nat.add_le_add_left (Nat.mul_le_mul_left (32+2) l1) _) (by decide)))
 intro x h1 h2
 have hx:=bK h1 h2 hu hv
 have Eg:=qJ hu hv QW h1 h2
 have Fw:0≤v-u:=by grind
 refine U9 (P1:=evalL p x) (V1:=evalL V x) (U1:=evalL U x) (K:=evalL (cJ p f1).1 x) (F1:=evalL f1 x) (w:=v-u) ?_ (Rat.le_trans (j8 hx U) QV) (Rat.le_trans (j8 hx V) Ok) (Rat.le_trans (j8 hx _) Vr) (Rat.le_trans Eg (Rat.mul_le_mul_of_nonneg_right O7 Fw)) Fw hw hN
 have q1:=Vq x
 have q2:=he x
 grind
end Go.Proofs.YtllmkadmohkbfaaGreatDoor.Sym
namespace Go.Proofs.YtllmkadmohkbfaaGreatDoor.Sym
open Go bN
set_option linter.unusedVariables false
theorem Yt:xB 7 63 5=1951:=by decide
theorem I3{f p:List Rat}(F:Sm f)(P:Sm p){u v:Rat}(A:gi f u v)(hn:¬Zr f u v p)(hu:ab u≤twP 32)(hv:ab v≤twP 32){N:Nat}(hN:1952809344+18373318+437644+2≤N)(hw:(v-u)*twP N≤1):∀x,u≤x→x≤v→1≤ab (evalL p x)*twP N:=by
 have f0:=A.f0
 have O7:=F.l
 have fi:=Fh P.z F.z P.l F.l P.ch F.ch f0
 have zg:=fi.zp
 have g0:=fi.ne
 obtain⟨d1,d2⟩:=j7 p f P.z F.z
 have yn:=List.length_pos_iff.2 g0
 have Jd:¬Zr f u v (bX p f):=fun h=>hn (h.dv d1)
 obtain⟨c,hc⟩:=d2
 have TC:=vu (p:=f) zg g0 (bg c) (show aK []=false from rfl) (by simpa using yn) (fun x=>by
  rw[bE]
  show _+(0:Rat)=_
  rw[Rat.add_zero]
  exact(hc x).symm)
 have hd:∀x,evalL f x=evalL (cJ f (bX p f)).1 x*evalL (bX p f) x:=fun x=>by
  have:=AH (P:=f) zg g0 x
  rw[show bm f (bX p f)=[] from by unfold bm;rw[TC]] at this
  change _+(0:Rat)=_ at this
  grind
 have hx:xB 7 63 (6-(bX p f).length)≤1951:=by
  rw[←Yt]
  exact cu 7 63 (by omega) (by omega)
 have cg:=fi.ch.mono hx
 have hm:(f.length+1-(bX p f).length)*(1951+1)≤6*(1951+1):=Nat.mul_le_mul_right _ (by omega)
 have Te:Fl 13670 (cJ f (bX p f)).1:=fg (yx F.ch cg (by omega) (by omega) zg g0) (by omega)
 have xe:=vy (p:=f) zg g0
 have l1:(cJ f (bX p f)).1.length≤6:=by omega
 have c1:Ch 82021 (cJ f (bX p f)).1:=(Ch.E7 Te).mono (Nat.le_trans (Nat.add_le_add_right (Nat.mul_le_mul_right 13670 l1) 1) (by decide))
 exact Ny A P.z P.l P.ch zg g0 hd (vv p f P.z F.z) Jd (jt _ _).1 l1 c1 Te hu hv hN hw
theorem AI{f g:List Rat} : ∀(n:Nat) (lo hi lo' hi':Rat),gi f lo hi→gi g lo' hi'→l3 f g (n+1) lo hi lo' hi'=none →
  ∃u v u' v',gi f u v∧gi g u' v'∧(∀x,bb f u v x=bb f lo hi x)∧(∀x,bb g u' v' x=bb g lo' hi' x)∧lo≤u∧v≤hi∧lo'≤u'∧v'≤hi'∧(v-u)*twP n≤hi-lo∧(v'-u')*twP n≤hi'-lo'∧u'<v∧u<v'
 |0,lo,hi,lo',hi',A,B,h=>by
  rw[l3] at h
  split at h
  ·rename_i bh
   exact⟨lo,hi,lo',hi',A,B,fun _=>rfl,fun _=>rfl,Rat.le_refl,Rat.le_refl,Rat.le_refl,Rat.le_refl,by rw[rY];grind,by rw[rY];grind,bh.1,bh.2⟩
  ·cases h
 |n+1,lo,hi,lo',hi',A,B,h=>by
  rw[l3] at h
  split at h
  ·obtain⟨a1,a2,a3,a4,a5⟩:=pO A
   obtain⟨b1,b2,b3,b4,b5⟩:=pO B
   obtain⟨u,v,u',v',k1,k2,k3,k4,k5,k6,k7,k8,k9,WT,WU,WV⟩:=AI n _ _ _ _ a1 b1 h
   refine⟨u,v,u',v',k1,k2,fun x=>by rw[k3,a2],fun x=>by rw[k4,b2],by grind,by grind,by grind,by grind,?_,?_,WU,WV⟩
   ·rw[fH];grind
   ·rw[fH];grind
  ·cases h
end Go.Proofs.YtllmkadmohkbfaaGreatDoor.Sym
namespace Go.Proofs.YtllmkadmohkbfaaGreatDoor.Sym
open Go bN
set_option linter.unusedVariables false
theorem H6{f g:List Rat}{lo hi s t:Rat}(A:gi f lo hi)(zg:aK g=false)(g0:g≠[])(cg:n8 g (ak g))(hz:Zr f lo hi g)(aI:s≤t)(h1:bb f lo hi s=1)(h2:bb f lo hi t≤0)(hs:evalL g s≠0):1≤cS g s-cS g t:=by
 have hm:=mz zg g0 cg aI
 by_cases he:cS g s=cS g t
 ·exfalso
  have ha:=pN zg g0 cg aI he hs
  rcases A.three t with k|k|k
  ·omega
  ·exact ha.ne aI Rat.le_refl ((A.wS k).1 hz)
  ·exact hz s t h1 k ha
 ·unfold cS at *
  omega
theorem Ce{f1 f2 g:List Rat}{QX LW Ly tg s t:Rat}(A:gi f1 QX LW)(B:gi f2 Ly tg)(zg:aK g=false)(g0:g≠[])(cg:n8 g (ak g))(hA:Zr f1 QX LW g)(hB:Zr f2 Ly tg g)(bh:AX f1 QX LW f2 Ly tg)(hs:0≤bb f1 QX LW s)(ht:bb f2 Ly tg t≤0) :
  s≤t∧(evalL g s≠0→2≤cS g s-cS g t)∧(evalL g s=0→1≤cS g s-cS g t):=by
 obtain⟨x0,x1,x2⟩:=bh
 obtain⟨x,y1,y2,hx⟩:∃x,bb f1 QX LW x = -1∧bb f2 Ly tg x=1∧evalL g x≠0:=by
  by_cases h:evalL g x0=0
  ·obtain⟨y,h1,h2⟩:=B.HX x2
   obtain⟨d,d1,d2,d3⟩:=Cc cg h (δ:=y-x0) (by grind) 1 (Or.inl rfl)
   have e:x0+1*d=x0+d:=by grind
   rw[e] at d3
   refine⟨x0+d,A.mono (x:=x0) (by grind) (by omega),?_,d3⟩
   by_cases hy:x0+d=y
   ·rw[hy];exact h2
   ·exact B.lB (y:=y) (by grind) (by omega)
  ·exact⟨x0,x1,x2,h⟩
 have S9:s<x:=by
  by_cases h:x<s
  ·have:=A.lB h hs;omega
  ·by_cases e:s=x
   ·rw[e] at hs;omega
   ·grind
 have Rx:x<t:=by
  by_cases h:t<x
  ·have:=B.mono h ht;omega
  ·by_cases e:x=t
   ·rw[←e] at ht;omega
   ·grind
 have c2:=H6 B zg g0 cg hB (Rat.le_of_lt Rx) y2 ht hx
 refine⟨by grind,fun df => ?_,fun _ => ?_⟩
 ·have h1:bb f1 QX LW s=1:=by
   rcases A.three s with k|k|k
   ·exact k
   ·exact absurd ((A.wS k).1 hA) df
   ·omega
  have c1:=H6 A zg g0 cg hA (Rat.le_of_lt S9) h1 (by omega) df
  omega
 ·have hm:=mz zg g0 cg (Rat.le_of_lt S9)
  unfold cS at *
  omega
theorem DE{p:List Rat}(P:Sm p)(p0:p≠[]):dz 7 6 p:=⟨P.z,p0,P.l,P.ch,by omega,by omega,by decide +kernel⟩
theorem Sn:32*(4*xB 7 (7+1) (6-1))+32*(7+1)+(32+2)*6+3≤46031:=by decide
theorem AJ{f:List Rat}{lo hi s:Rat}(A:gi f lo hi)(h:s≤lo):0≤bb f lo hi s:=by
 by_cases e:s=lo
 ·rw[e];exact A.r5
 ·rw[A.lB (y:=lo) (by grind) A.r5];omega
theorem Fk{f:List Rat}{lo hi t:Rat}(A:gi f lo hi)(h:hi≤t):bb f lo hi t≤0:=by
 by_cases e:t=hi
 ·rw[e];exact A.Az
 ·rw[A.mono (x:=hi) (by grind) A.Az];omega
theorem Fm{w c:Rat}{M:Nat}(h0:0≤w)(hc:c≤twP 33)(h:w*twP (M+33)≤c):w*twP M≤1:=by
 have p:=dX 33
 rw[jv] at h
 refine Rat.not_lt.1 fun bh => ?_
 have:=Rat.mul_lt_mul_of_pos_right bh p
 grind
theorem GP{f g:List Rat}(F:Sm f)(G:Sm g){lo hi lo' hi':Rat}(A:gi f lo hi)(B:gi g lo' hi')(df:¬GL f lo hi g lo' hi')(h1:ab lo≤twP 32)(h2:ab hi≤twP 32)(h3:ab lo'≤twP 32)(h4:ab hi'≤twP 32){N:Nat}(hN:1952809344+18373318+437644+2≤N) :
  ∃r,l3 f g (N+237+33+1) lo hi lo' hi'=some r:=by
 cases hr:l3 f g (N+237+33+1) lo hi lo' hi' with
 |some r=>exact⟨r,rfl⟩
 |none =>
  exfalso
  obtain⟨u,v,u',v',A1,B1,k3,k4,k5,k6,k7,k8,k9,WT,WU,WV⟩:=AI (N+237+33) lo hi lo' hi' A B hr
  have DQ:twP 32+twP 32=twP 33:=(fH 32).symm
  have w1:hi-lo≤twP 33:=by have:=qW hi;have:=ju lo;grind
  have w2:hi'-lo'≤twP 33:=by have:=qW hi';have:=ju lo';grind
  have l1:=A1.le
  have l2:=B1.le
  have z1:0≤v-u:=by grind
  have z2:0≤v'-u':=by grind
  have m1:=Fm z1 w1 k9
  have m2:=Fm z2 w2 WT
  have bu:=bK k5 (show u≤hi by grind) h1 h2
  have bv:=bK (show lo≤v by grind) k6 h1 h2
  have Yu:=bK k7 (show u'≤hi' by grind) h3 h4
  have Yv:=bK (show lo'≤v' by grind) k8 h3 h4
  have MK:¬GL f u v g u' v':=fun e=>df (fun x=>by rw[←k3,←k4];exact e x)
  by_cases hz:Zr f u v g
  ·
   have fi:=DE G B.f0
   have he:=fi.Tc
   obtain⟨s,Vs,PG,WW⟩:∃s,s≤u∧s≤u'∧(s=u∨s=u'):=by
    by_cases h:u≤u'
    ·exact⟨u,Rat.le_refl,h,Or.inl rfl⟩
    ·exact⟨u',by grind,Rat.le_refl,Or.inr rfl⟩
   obtain⟨t,Yw,Yx,WX⟩:∃t,v≤t∧v'≤t∧(t=v∨t=v'):=by
    by_cases h:v≤v'
    ·exact⟨v',h,Rat.le_refl,Or.inr rfl⟩
    ·exact⟨v,Rat.le_refl,by grind,Or.inl rfl⟩
   have bs:ab s≤twP 32:=by rcases WW with e|e<;>rw[e]<;>assumption
   have bt:ab t≤twP 32:=by rcases WX with e|e<;>rw[e]<;>assumption
   have hw:(t-s)*twP 46031≤1:=by
    have q1:t-s≤(v-u)+(v'-u'):=by rcases WW with e|e<;>rcases WX with e2|e2<;>rw[e,e2]<;>grind
    have q2:twP 46031+twP 46031≤twP (N+237):=by rw[←fH];exact bV (by omega)
    have q3:=Rat.mul_le_mul_of_nonneg_left q2 z1
    have q4:=Rat.mul_le_mul_of_nonneg_left q2 z2
    have q5:=Rat.mul_le_mul_of_nonneg_right q1 (Rat.le_of_lt (dX 46031))
    grind
   have Vt:s≤t→cS g s-cS g t≤1∧(evalL g s=0→cS g s-cS g t≤0):=fun aI =>
    Cb (a:=7) (N:=6) (r:=32) (m:=46031) (R:=twP 32) (by omega) he B.f0 B.Dk (Rat.le_of_lt (dX 32)) Rat.le_refl (by omega) bs bt aI (Nat.le_trans (Nat.add_le_add_right (Nat.add_le_add_left (Nat.mul_le_mul_left (32+2) G.l) _) 3) Sn) hw
   have fin:∀(P:s≤t∧(evalL g s≠0→2≤cS g s-cS g t)∧(evalL g s=0→1≤cS g s-cS g t)),False:=fun ⟨p1,p2,p3⟩=>by
    obtain⟨q1,q2⟩:=Vt p1
    by_cases h:evalL g s=0
    ·have:=p3 h;have:=q2 h;omega
    ·have:=p2 h;omega
   rcases Ta A1 B1 with h|h|h
   ·exact fin (Ce A1 B1 B.zf B.f0 B.Dk hz B1.own h (AJ A1 Vs) (Fk B1 Yx))
   ·exact MK h
   ·exact fin (Ce B1 A1 B.zf B.f0 B.Dk B1.own hz h (AJ B1 PG) (Fk A1 Yw))
  ·
   obtain⟨x,x1,x2,x3,x4⟩:∃x,u≤x∧x≤v∧u'≤x∧x≤v':=by
    by_cases h:u≤u'
    ·exact⟨u',h,by grind,Rat.le_refl,l2⟩
    ·exact⟨u,Rat.le_refl,l1,by grind,by grind⟩
   have Jg:(v-u)*twP N≤1:=by
    have:=Rat.mul_le_mul_of_nonneg_left (bV (show N≤N+237 by omega)) z1
    grind
   have Bg:=I3 F G A1 hz bu bv hN Jg x x1 x2
   have Nf:evalL g u'=0∨evalL g v'=0∨sg (evalL g u') = - sg (evalL g v'):=by
    by_cases he:u'=v'
    ·left
     rcases B1.Jo with ⟨_,k⟩|⟨k,_⟩
     ·exact k
     ·grind
    ·have bh:u'<v':=by grind
     exact Or.inr (Or.inr (B1.HW (B1.low bh Rat.le_refl) (B1.high bh Rat.le_refl) (Or.inl Rat.le_refl) (Or.inl Rat.le_refl) bh))
   have Eg:=qJ Yu Yv Nf x3 x4
   have PY:=Ax (Rat.le_of_lt (dX 32)) Rat.le_refl g (Ca G.f)
   have PY:=Rat.le_trans PY (bV (show 32*1+(32+2)*g.length≤236 by have:=G.l;omega))
   have h5:=Rat.le_trans Eg (Rat.mul_le_mul_of_nonneg_right PY z2)
   have h6:=Rat.mul_le_mul_of_nonneg_right h5 (Rat.le_of_lt (dX N))
   have e7:twP (N+237)=twP 236*twP N+twP 236*twP N:=by
    rw[←jv,←fH]
    congr 1;omega
   rw[e7] at m2
   grind
end Go.Proofs.YtllmkadmohkbfaaGreatDoor.Sym
namespace Go.Proofs.YtllmkadmohkbfaaGreatDoor.Sym
open Go bN
set_option linter.unusedVariables false
theorem w5:∀(l:List Int) (s:Int),varS (-s) (l.map (fun a => -a))=varS s l
 |[],s=>rfl
 |a::r,s=>by
  rw[List.map_cons,varS,varS]
  by_cases h:a=0
  ·rw[if_pos h,if_pos (by omega)]
   exact w5 r s
  ·rw[if_neg h,if_neg (by omega),w5 r a]
   by_cases h2:a = -s
   ·rw[if_pos h2,if_pos (by omega)]
   ·rw[if_neg h2,if_neg (by omega)]
theorem H7(x y:Rat):sg (x*y)=sg x*sg y:=by
 rcases bI x with ⟨a,b⟩|⟨a,b⟩|⟨a,b⟩<;>rcases bI y with ⟨c,d⟩|⟨c,d⟩|⟨c,d⟩<;>rw[b,d]
 ·have:=Rat.mul_pos (show 0 < -x by grind) (show 0 < -y by grind)
  rcases bI (x*y) with k|k|k<;>first|(rw [k.2];decide)|(exfalso;grind)
 ·rw[c,Rat.mul_zero];rfl
 ·have:=Rat.mul_pos (show 0 < -x by grind) c
  rcases bI (x*y) with k|k|k<;>first|(rw [k.2];decide)|(exfalso;grind)
 ·rw[a,Rat.zero_mul];rfl
 ·rw[a,Rat.zero_mul];rfl
 ·rw[a,Rat.zero_mul];rfl
 ·have:=Rat.mul_pos a (show 0 < -y by grind)
  rcases bI (x*y) with k|k|k<;>first|(rw [k.2];decide)|(exfalso;grind)
 ·rw[c,Rat.mul_zero];rfl
 ·have:=Rat.mul_pos a c
  rcases bI (x*y) with k|k|k<;>first|(rw [k.2];decide)|(exfalso;grind)
theorem AK{c:Rat}(hc:c≠0):∀(n:Nat) (p d:List Rat),aK d=false→chainF n (a6 c p) (a6 c d)=(chainF n p d).map (a6 c)
 |0,p,d,_=>rfl
 |n+1,p,d,hd=>by
  by_cases h:d=[]
  ·rw[h]
   show chainF (n+1) (a6 c p) []=_
   rw[hX,hX];rfl
  ·have h2:a6 c d≠[]:=fun e=>h (List.eq_nil_of_length_eq_zero (by have:=congrArg List.length e;rwa[iz] at this))
   rw[fk h2,fk h,List.map_cons,wO hd h hc hc]
   have e:aJ (a6 (-1) (a6 c (bm p d)))=a6 c (aJ (a6 (-1) (bm p d))):=by
    refine iZ (bg _) (gH (bg _) c hc) (fun i => ?_)
    rw[dc,ck,ck,ck,dc,ck]
    grind
   rw[e,AK hc n d _ (bg _)]
theorem qO(p:List Rat)(j:Nat):coef (ak p) j=((1+j:Nat):Int)*coef p (j+1):=by
 have AV:∀(q:List Rat) (i j:Nat),coef (fE i q) j=((i+j:Nat):Int)*coef q j:=by
  intro q
  induction q with
  |nil=>intro i j;show(0:Rat)=_*0;grind
  |cons a q ih =>
   intro i j
   cases j with
   |zero=>show((i:Int):Rat)*a=_;rfl
   |succ j=>exact(ih (i+1) j).trans (by rw[show i+1+j=i+(j+1) by omega];rfl)
 unfold ak
 rw[dc,AV]
 congr 1
 cases p with
 |nil=>rfl
 |cons a p=>rfl
theorem Fo{c:Rat}(hc:c≠0)(p:List Rat):ak (a6 c p)=a6 c (ak p):=by
 refine iZ (ba _) (gH (ba _) c hc) (fun i => ?_)
 rw[qO,ck,ck,qO]
 grind
theorem Nz{c:Rat}(hc:c≠0)(f:List Rat)(x:Rat):cS (a6 c f) x=cS f x:=by
 unfold cS
 rw[iz,Fo hc,AK hc _ _ _ (ba f)]
 unfold fK
 rw[List.map_map]
 rcases vx hc with k|k
 ·congr 1
  refine List.map_congr_left (fun g _ => ?_)
  show sg (evalL (a6 c g) x)=_
  rw[aT,H7,k];omega
 ·have e:(chainF f.length f (ak f)).map ((fun g=>sg (evalL g x)) ∘ a6 c)=((chainF f.length f (ak f)).map (fun g=>sg (evalL g x))).map (fun a => -a):=by
   rw[List.map_map]
   refine List.map_congr_left (fun g _ => ?_)
   show sg (evalL (a6 c g) x) = - sg (evalL g x)
   rw[aT,H7,k];omega
  rw[e]
  exact w5 _ 0
theorem Fp{p:List Rat}(hz:aK p=false)(h0:p≠[])(hc:n8 p (ak p)):bx p=a6 (1/bS p) p:=by
 have hg:=An hz (ba p) hc
 unfold bx
 rw[hg]
 have hd:=vu (p:=p) (q:=[1]) (a:=p) (r:=[]) (by decide) (by simp) hz rfl (by simp) (fun x=>by
  rw[dp]
  show _+(0:Rat)=_
  grind)
 rw[hd]
 exact lZ hz h0
theorem GQ{p:List Rat}(hz:aK p=false)(h0:p≠[])(hc:n8 p (ak p)){lo hi:Rat}(hle:lo≤hi)(h:Dz p lo hi=true):gi p lo hi:=by
 have hf:=Fp hz h0 hc
 have ht:=cz hz h0
 have LW:(1:Rat)/bS p≠0:=fun e=>by
  have:=Rat.div_mul_cancel (a:=1) ht
  rw[e] at this
  grind
 have QW:∀x,fK (bL p) x=cS p x:=fun x=>by
  show cS (bx p) x=cS p x
  rw[hf];exact Nz LW p x
 have qZ:∀x,evalL (bx p) x=1/bS p*evalL p x:=fun x=>by rw[hf,aT]
 unfold Dz at h
 refine⟨hz,h0,hc,?_⟩
 by_cases he:lo=hi
 ·rw[decide_eq_true he,cond_true,decide_eq_true_iff,qZ] at h
  rcases Rat.mul_eq_zero.1 h with k|k
  ·exact absurd k LW
  ·exact Or.inl ⟨he,k⟩
 ·rw[decide_eq_false he,cond_false,Bool.and_eq_true,decide_eq_true_iff,decide_eq_true_iff,QW,QW] at h
  have nz:∀x,sg (evalL (bx p) x)≠0→evalL p x≠0:=fun x hx e=>hx (by rw[qZ,e,Rat.mul_zero];rfl)
  refine Or.inr ⟨by grind,nz lo (fun e => ?_),nz hi (fun e => ?_),h.2⟩
  ·rw[e] at h;have:=h.1;omega
  ·rw[e] at h;have:=h.1;omega
end Go.Proofs.YtllmkadmohkbfaaGreatDoor.Sym
namespace Go.Proofs.YtllmkadmohkbfaaGreatDoor.Sym.Path
open Go
set_option maxRecDepth 20000
set_option linter.unusedVariables false
namespace fc
theorem e0(a:aQ)(b:Int)(h1:Cp 83 [ae a.p] (vI b))(h2:b≠0):Cp 24 [a.pv] (vI b) :=
 eD Tryz.func24 90 [1,1] [.q,.h 2 (.pv (vI b)),.q,.t,.q] (y2 h1 (gB h2))
theorem e1(a:aQ)(b:Int)(c:Rs)(d:Int)(g:Rs)(i:Int)(h1:Cp 83 [ae a.p] (vI b))(h2:b=0)(h3:Cp 84 [ae a.p] (.aE [ae c,vI d]))(h4:Cp 85 [ae a.p,ae c] (.aE [ae g,vI i]))(h5:g.length≠1):Cp 24 [a.pv] (vI 2) :=
 eD Tryz.func24 117 [1,1,1,1,1,1] [.q,.h 2 (.pv (vI b)),.q,.f,.h 2 (.pv (.aE [ae c,vI d])),.h 3 (.pv (.aE [ae g,vI i])),.h 1 (iI (g.length:Int)),.t,.q] (y6 h1 (gk h2) h3 h4 (an af.cells g) (jF h5))
theorem e2(a:aQ)(b:Int)(c:Rs)(d:Int)(g:Rs)(i:Int)(j:Bool)(k:Int)(h1:Cp 83 [ae a.p] (vI b))(h2:b=0)(h3:Cp 84 [ae a.p] (.aE [ae c,vI d]))(h4:Cp 85 [ae a.p,ae c] (.aE [ae g,vI i]))(h5:g.length=1)(h6:Cp 86 [ae a.p,a.rV.pv] (.aE [vB j,vI k]))(h7:j=false):Cp 24 [a.pv] (vI 14) :=
 eD Tryz.func24 138 [1,1,1,1,1,1,1,1] [.q,.h 2 (.pv (vI b)),.q,.f,.h 2 (.pv (.aE [ae c,vI d])),.h 3 (.pv (.aE [ae g,vI i])),.h 1 (iI (g.length:Int)),.f,.h 4 (.pv (.aE [vB j,vI k])),.q,.t,.q] (y8 h1 (gk h2) h3 h4 (an af.cells g) (gQ h5) h6 (cf h7))
theorem e3(a:aQ)(b:Int)(c:Rs)(d:Int)(g:Rs)(i:Int)(j:Bool)(k:Int)(h1:Cp 83 [ae a.p] (vI b))(h2:b=0)(h3:Cp 84 [ae a.p] (.aE [ae c,vI d]))(h4:Cp 85 [ae a.p,ae c] (.aE [ae g,vI i]))(h5:g.length=1)(h6:Cp 86 [ae a.p,a.rV.pv] (.aE [vB j,vI k]))(h7:j=true):Cp 24 [a.pv] (vI 0) :=
 eD Tryz.func24 141 [1,1,1,1,1,1,1,1] [.q,.h 2 (.pv (vI b)),.q,.f,.h 2 (.pv (.aE [ae c,vI d])),.h 3 (.pv (.aE [ae g,vI i])),.h 1 (iI (g.length:Int)),.f,.h 4 (.pv (.aE [vB j,vI k])),.q,.f,.q] (y8 h1 (gk h2) h3 h4 (an af.cells g) (gQ h5) h6 (aU h7))
end fc
end Go.Proofs.YtllmkadmohkbfaaGreatDoor.Sym.Path
namespace Go.Proofs.YtllmkadmohkbfaaGreatDoor.Sym
open Go Path bN
set_option linter.unusedVariables false
structure Sh (a:aQ):Prop where
 l:a.p.length≤6
 fp:kr 1 a.p
 g:wU 1 a.rV
def qP(a:aQ):Int:=if uz a.p≠0 then uz a.p else if (bX (bj a.p) (ak (bj a.p))).length≠1 then 2 else if nT (bj a.p) a.rV then 0 else 14
theorem Sh.sm{a:aQ}(h:Sh a)(hc:uz a.p=0):Sm (bj a.p)∧bj a.p≠[]∧pq (bj a.p)=ae a.p∧a.p.length≠0∧oJ a.p=0:=by
 unfold uz at hc
 by_cases h0:oJ a.p=0
 ·rw[if_pos h0] at hc
  have hn:a.p.length≠0:=fun e=>by rw[if_pos e] at hc;exact absurd hc (by decide)
  have pl:(bj a.p).length=a.p.length:=by unfold bj;rw[List.length_map]
  have hl:=h.l
  exact⟨⟨KR h0,by omega,qB h.fp (by omega)⟩,fun e=>hn (by rw[←pl,e];rfl),by unfold pq;rw[HE (BT h0)],hn,h0⟩
 ·rw[if_neg h0] at hc;exact absurd hc h0
theorem Lz{k m:Nat}{p:List af}(h:kr k p)(hk:k≤m):kr m p:=fun a ha=>⟨Nat.le_trans (h a ha).1 hk,Nat.le_trans (h a ha).2 hk⟩
theorem H8{k m:Nat}{r:aj}(h:wU k r)(hk:k≤m):wU m r:=⟨⟨Nat.le_trans h.1.1 hk,Nat.le_trans h.1.2 hk⟩,⟨Nat.le_trans h.2.1 hk,Nat.le_trans h.2.2 hk⟩⟩
theorem Ou:4*xB 8 70 (6+2)+10≤68719476736:=by decide
theorem qN.Check{a:aQ}(h:Sh a):Cp 23 [a.pv] (bc (ET (qP a))):=by
 have hc:=FF.Check a.p (Lz h.fp (by omega))
 unfold qP
 by_cases he:uz a.p=0
 ·rw[if_neg (by omega)]
  obtain⟨S,p0,ep,hn,h0⟩:=h.sm he
  rw[h0] at hc
  have hl:=S.l
  have hd:=PQ.qD (bj a.p) S.z (by omega) S.f (by omega)
  have cd:Ch 8 (ak (bj a.p)):=S.ch.derive (by omega)
  have UE:=xE (bj a.p)
  have hg:=PQ.Gcd (h:=7) (b:=8) (c:=70) (L:=6) (by omega) (by omega) (by omega) (by omega) (by omega) Ou (bj a.p) (ak (bj a.p)) S.z (ba _) S.l (by omega) S.ch cd
  rw[ep] at hd hg
  by_cases xe:(bX (bj a.p) (ak (bj a.p))).length≠1
  ·rw[if_pos xe]
   exact fO.e1 a _ _ hc hn hd hg (by rw[bF];exact xe)
  ·rw[if_neg xe]
   have hi:=HZ.wZ (DE S p0) a.rV (H8 h.g (by omega))
   rw[ep] at hi
   cases hb:nT (bj a.p) a.rV with
   |true =>
    rw[hb] at hi
    exact fO.e3 a _ _ _ hc hn hd hg (by rw[bF];omega) hi rfl
   |false =>
    rw[hb] at hi
    exact fO.e2 a _ _ _ hc hn hd hg (by rw[bF];omega) hi rfl
 ·rw[if_pos he,rQ he]
  unfold uz at he ⊢
  by_cases h0:oJ a.p=0
  ·rw[if_pos h0] at he ⊢
   rw[h0] at hc
   have hn:a.p.length=0:=Classical.byContradiction fun e=>he (if_neg e)
   rw[if_pos hn]
   exact fO.e0 a hc hn
  ·rw[if_neg h0]
   rw[rQ h0] at hc
   exact fO.e7 a _ hc
theorem Yy.Check{a:aQ}(h:Sh a):Cp 24 [a.pv] (vI (qP a)):=by
 have hc:=Si.bad (p:=a.p) (Lz h.fp (by omega))
 unfold qP
 by_cases he:uz a.p=0
 ·rw[if_neg (by omega)]
  obtain⟨S,p0,ep,hn,h0⟩:=h.sm he
  have hl:=S.l
  have hd:=RQ.qD (bj a.p) S.z (by omega) S.f (by omega)
  have cd:Ch 8 (ak (bj a.p)):=S.ch.derive (by omega)
  have UE:=xE (bj a.p)
  have hg:=RQ.Gcd (h:=7) (b:=8) (c:=70) (L:=6) (by omega) (by omega) (by omega) (by omega) (by omega) Ou (bj a.p) (ak (bj a.p)) S.z (ba _) S.l (by omega) S.ch cd
  rw[ep] at hd hg
  by_cases xe:(bX (bj a.p) (ak (bj a.p))).length≠1
  ·rw[if_pos xe]
   exact fc.e1 a _ _ _ _ _ hc he hd hg (by rw[bF];exact xe)
  ·rw[if_neg xe]
   have hi:=Si.wZ (DE S p0) a.rV (H8 h.g (by omega))
   rw[ep] at hi
   cases hb:nT (bj a.p) a.rV with
   |true =>
    rw[hb] at hi
    exact fc.e3 a _ _ _ _ _ _ _ hc he hd hg (by rw[bF];omega) hi rfl
   |false =>
    rw[hb] at hi
    exact fc.e2 a _ _ _ _ _ _ _ hc he hd hg (by rw[bF];omega) hi rfl
 ·rw[if_pos he]
  exact fc.e0 a _ hc he
structure Acc (a:aQ) (f:List Rat) (lo hi:Rat):Prop where
 e:a=iK f lo hi
 sm:Sm f
 w6:gi f lo hi
 h1:ht lo≤1
 h2:ht hi≤1
theorem Sh.acc{a:aQ}(h:Sh a)(hc:qP a=0):Acc a (bj a.p) (jX a.rV) (l9 a.rV):=by
 unfold qP at hc
 have he:uz a.p=0:=Classical.byContradiction fun e=>by rw[if_pos e] at hc;exact e hc
 rw[if_neg (by omega)] at hc
 have xe:(bX (bj a.p) (ak (bj a.p))).length=1:=Classical.byContradiction fun e=>by rw[if_pos e] at hc;exact absurd hc (by decide)
 rw[if_neg (by omega)] at hc
 have hb:nT (bj a.p) a.rV=true:=Classical.byContradiction fun e=>by rw[if_neg e] at hc;exact absurd hc (by decide)
 obtain⟨S,p0,ep,hn,h0⟩:=h.sm he
 unfold nT at hb
 rw[Bool.and_eq_true] at hb
 obtain⟨v1,v2,v3⟩:=vH hb.1
 have Fy:jX a.rV=a.rV.lo.val:=by unfold jX;rw[hb.1,cond_true]
 have RW:l9 a.rV=a.rV.hi.val:=by unfold l9;rw[hb.1,cond_true]
 refine⟨?_,S,GQ S.z p0 (ur S.z (ba _) xe) (by rw[Fy,RW];exact v3) hb.2,by rw[Fy];exact dD h.g.1.1 h.g.1.2 (by omega),by rw[RW];exact dD h.g.2.1 h.g.2.2 (by omega)⟩
 unfold iK
 rw[Dw hb.1,HE (BT h0)]
theorem Acc.bd{a:aQ}{f:List Rat}{lo hi:Rat}(h:Acc a f lo hi):ab lo≤twP 32∧ab hi≤twP 32:=by
 have b1:=B9 lo
 have b2:=B9 hi
 exact⟨Rat.le_trans b1 (bV (by have:=h.h1;omega)),Rat.le_trans b2 (bV (by have:=h.h2;omega))⟩
theorem LA{f g:List Rat}{lo hi lo' hi':Rat}{a b:aQ}(A:Acc a f lo hi)(B:Acc b g lo' hi'){N:Nat}(hN:1952809344+18373318+437644+2≤N):∃s,IZ f g (N+237+33+1) lo hi lo' hi'=some s:=by
 unfold IZ
 cases he:qN.Ot f lo hi g lo' hi' with
 |true=>exact⟨0,rfl⟩
 |false =>
  rw[cond_false]
  have df:¬GL f lo hi g lo' hi':=fun e=>by rw[(qN.DD A.w6 B.w6).2 e] at he;cases he
  obtain⟨r,hr⟩:=GP A.sm B.sm A.w6 B.w6 df A.bd.1 A.bd.2 B.bd.1 B.bd.2 hN
  rw[hr]
  exact⟨_,rfl⟩
theorem NB{N:Nat}(hN:N=2000000000):1952809344+18373318+437644+2≤N∧(N+237+33)/32≤70000000:=by omega
theorem qN.Qb{f g:List Rat}{lo hi lo' hi':Rat}{a b:aQ}(A:Acc a f lo hi)(B:Acc b g lo' hi'):∃s,Cp 96 [a.pv,b.pv] (.aE [vI s,.az])∧((s=0∧GL f lo hi g lo' hi')∨(s = -1∧AX f lo hi g lo' hi')∨(s=1∧AX g lo' hi' f lo hi)):=by
 obtain⟨N,hN⟩:∃N:Nat,N=2000000000:=⟨_,rfl⟩
 obtain⟨n1,n2⟩:=NB hN
 obtain⟨s,hs⟩:=LA A B n1
 have s1:=C8 hi lo
 have s2:=C8 hi' lo'
 have a1:=A.h1
 have a2:=A.h2
 have b1:=B.h1
 have b2:=B.h2
 refine⟨s,?_,I1 A.w6 B.w6 hs⟩
 rw[A.e,B.e]
 exact qN.cmp (K:=N+237+33) A.sm B.sm A.w6 B.w6 (by omega) (by omega) hs
theorem qN.rb{a b:aQ}(ha:Sh a)(hb:Sh b)(h1:qP a=0)(h2:qP b=0):∃s,Cp 35 [a.pv,b.pv] (.aE [vI s,.az])∧((s=0∧GL (bj a.p) (jX a.rV) (l9 a.rV) (bj b.p) (jX b.rV) (l9 b.rV))∨(s = -1∧AX (bj a.p) (jX a.rV) (l9 a.rV) (bj b.p) (jX b.rV) (l9 b.rV))∨(s=1∧AX (bj b.p) (jX b.rV) (l9 b.rV) (bj a.p) (jX a.rV) (l9 a.rV))):=by
 obtain⟨s,hs,hm⟩:=qN.Qb (ha.acc h1) (hb.acc h2)
 have c1:=qN.Check ha
 have c2:=qN.Check hb
 rw[h1] at c1
 rw[h2] at c2
 exact⟨s,jZ.e0 a b (jZ.l10 0 a b a (by omega) rfl c1 (by omega) (jZ.l10 1 a b b (by omega) rfl c2 (by omega) (jZ.kI 2 a b s none (by omega) hs))),hm⟩
theorem qN.Qc{a:aQ}(ha:Sh a)(h1:qP a=0){x:Rat}(hx:ht x≤1073741824):Cp 30 [a.pv,(aN x).pv] (.aE [vI (bb (bj a.p) (jX a.rV) (l9 a.rV) x),.az]):=by
 have A:=ha.acc h1
 have c1:=qN.Check ha
 rw[h1] at c1
 have c2:=qN.compare (A.sm.ok (lo:=jX a.rV) (hi:=l9 a.rV) (by have:=A.h1;omega) (by have:=A.h2;omega)) A.w6.le hx
 rw[←A.e] at c2
 exact pP.e0 a (aN x) _ none c1 c2
end Go.Proofs.YtllmkadmohkbfaaGreatDoor.Sym
namespace Go.Proofs.YtllmkadmohkbfaaGreatDoor.Sym
open Go Path bN
set_option linter.unusedVariables false
def iJ(n:Int)(b:Nat):Rat:=Rat.divInt n ((2^b:Nat):Int)
theorem two_pos(b:Nat):(0:Int)<((2^b:Nat):Int):=by
 have:=Nat.pow_pos (n:=b) (show 0<2 by omega)
 omega
theorem yD(n:Int)(b:Nat):iJ n b*twP b=(n:Rat):=by
 unfold iJ twP
 rw[Rat.divInt_eq_div]
 exact Rat.div_mul_cancel (AD b)
theorem AL{n:Int}{b:Nat}{x:Rat} : iJ n b≤x↔(n:Rat)≤x*twP b:=by
 rw[←yD n b]
 have p:=dX b
 constructor
 ·intro h;exact Rat.mul_le_mul_of_nonneg_right h (Rat.le_of_lt p)
 ·intro h
  refine Rat.not_lt.1 fun bh => ?_
  have:=Rat.mul_lt_mul_of_pos_right bh p
  grind
theorem Qd{n:Int}{b:Nat}{x:Rat} : x<iJ n b↔x*twP b<(n:Rat):=by
 rw[←Rat.not_le,AL,Rat.not_le]
theorem uB{n:Int}(h:n.natAbs<4294967296^4):wl n≤4:=pF h
namespace qN
theorem scaled(n:Int)(hn:wl n≤1000){b:Nat}(hb:b≤64):Cp 63 [(Sym.whole n).pv,vI (b:Int)] (.aE [(aN (iJ n b)).pv,.az]):=by
 have w2:∀t:Nat,t≤64→wl (((2^t:Nat):Int))≤4:=fun t ht=>uB (by
  rw[Int.natAbs_natCast]
  have:2^t≤2^64:=Nat.pow_le_pow_right (by omega) ht
  omega)
 have loop:∀d t:Nat,t+d=b→gI.ah (b:Int) t (Sym.whole n) (Sym.whole ((2^t:Nat):Int)) (.aE [(aN (iJ n b)).pv,.az]):=by
  intro d
  induction d with
  |zero =>
   intro t ht
   have:t=b:=by omega
   subst this
   have hf:=rO.KO (Sym.whole n) (Sym.whole ((2^t:Nat):Int)) (by rw[eP];omega) (by rw[eP];have:=w2 t hb;omega) (by rw[aA];have:=two_pos t;omega)
   rw[aA,aA] at hf
   exact gI.cV _ t _ _ _ none (by omega) hf
  |succ d ih =>
   intro t ht
   have hw:=w2 t (by omega)
   have ha:=bN.Add (Sym.whole ((2^t:Nat):Int)) (Sym.whole ((2^t:Nat):Int)) (by show _≤_;rw[eP];omega) (by show _≤_;rw[eP];omega)
   rw[aA,show((2^t:Nat):Int)+((2^t:Nat):Int)=((2^(t+1):Nat):Int) by rw[Nat.pow_succ];omega] at ha
   exact gI.l10 _ t _ _ _ (by omega) ha (by omega) (ih (t+1) (by omega))
 exact gI.e0 (Sym.whole n) _ (Sym.whole 1) (bN.Of 1 (by unfold ax;omega)) (loop b 0 (by omega))
theorem So{x:Rat}(hx:ht x≤1000){b:Nat}(hb:b≤64):Cp 130 [(aN x).pv,vI (b:Int)] (Sym.whole (x*twP b).floor).pv:=by
 have QP:∀t,t≤64→ht (x*twP t)≤2000:=fun t h=>by
  have h1:=ll x (twP t)
  have h2:=wW (j:=t) (by omega)
  omega
 have loop:∀d t:Nat,t+d=b→jd.ah (b:Int) t (aN (x*twP t)) (Sym.whole (x*twP b).floor).pv:=by
  intro d
  induction d with
  |zero =>
   intro t h
   have:t=b:=by omega
   subst this
   have hh:=QP t hb
   have hf:=bk hh
   have:=rO.R7 (aN (x*twP t)) ⟨by omega,by omega⟩
   rw[bB] at this
   exact jd.cV _ t _ _ (by omega) this
  |succ d ih =>
   intro t h
   have hh:=QP t (by omega)
   have ha:=QF.Add (x*twP t) (x*twP t) (by omega) (by omega)
   rw[show x*twP t+x*twP t=x*twP (t+1) by rw[fH];grind] at ha
   exact jd.l10 _ t _ _ (by omega) ha (by omega) (ih (t+1) (by omega))
 have:=loop b 0 (by omega)
 rw[rY,Rat.mul_one] at this
 exact jd.e0 _ _ this
theorem Cf(q:Rat):((q.floor:Int):Rat)≤q:=Rat.floor_le q
theorem Cg(q:Rat):q<((q.floor+1:Int):Rat):=by
 exact Rat.lt_floor_add_one q
theorem floor{f:List Rat}{lo hi:Rat}(F:Sm f)(A:gi f lo hi)(h1:ht lo≤1)(h2:ht hi≤1){b:Nat}(hb:b≤64):∃n:Int,Cp 62 [(iK f lo hi).pv,vI (b:Int)] (.aE [(Sym.whole n).pv,.az])∧n.natAbs<2^100∧0≤bb f lo hi (iJ n b)∧bb f lo hi (iJ (n+1) b) = -1:=by
 have O:=F.ok (lo:=lo) (hi:=hi) (by omega) (by omega)
 have g1:=So (x:=lo) (by omega) hb
 have g2:=So (x:=hi) (by omega) hb
 have bd:∀x:Rat,ht x≤1→(x*twP b).floor.natAbs<2^98:=by
  intro x hx
  have a1:=B9 x
  have a2:=Rat.le_trans a1 (bV (show 32*ht x≤32 by omega))
  have p:=dX b
  have a3:ab (x*twP b)≤twP 96:=by
   rw[gh]
   have e:ab (twP b)=twP b:=by rcases a7 (twP b) with k|k<;>grind
   rw[e]
   have:=cO a2 (bV hb) (bz x) (Rat.le_of_lt (dX 64))
   rw[←jv] at this
   exact this
  have f1:=Cf (x*twP b)
  have f2:=Cg (x*twP b)
  have l1:=qW (x*twP b)
  have l2:=ju (x*twP b)
  have u1:(((x*twP b).floor:Int):Rat)≤(((2^96:Nat):Int):Rat):=by
   have:twP 96=(((2^96:Nat):Int):Rat):=rfl
   rw[←this];grind
  have u2:((-((2^96:Nat):Int):Int):Rat)<(((x*twP b).floor+1:Int):Rat):=by
   have:twP 96=(((2^96:Nat):Int):Rat):=rfl
   rw[Rat.intCast_neg,←this];grind
  have v1:=Rat.intCast_le_intCast.1 u1
  have v2:=Rat.intCast_lt_intCast.1 u2
  omega
 have b1:=bd lo h1
 have b2:=bd hi h2
 have w:∀n:Int,n.natAbs<2^101→wl n≤4:=fun n hn=>uB (Nat.lt_of_lt_of_le hn (by decide))
 have s1:0≤bb f lo hi (iJ (lo*twP b).floor b):=AJ A (AL.2 (Cf _))
 have s2:bb f lo hi (iJ ((hi*twP b).floor+1) b) = -1:=A.mono (Qd.2 (Cg _)) A.Az
 have loop:∀(k:Nat) (u v:Int),(v-u).toNat≤k→u.natAbs<2^99→v.natAbs<2^99→0≤bb f lo hi (iJ u b)→bb f lo hi (iJ v b) = -1 →
   ∃n:Int,fR.ah (b:Int) (iK f lo hi) (Sym.whole u) (Sym.whole v) (.aE [(Sym.whole n).pv,.az])∧n.natAbs<2^100∧0≤bb f lo hi (iJ n b)∧bb f lo hi (iJ (n+1) b) = -1:=by
  intro k
  induction k with
  |zero =>
   intro u v hk hu hv c1 c2
   exfalso
   have hle:iJ v b≤iJ u b:=by
    rw[AL,yD]
    exact Rat.intCast_le_intCast.2 (by omega)
   by_cases e:iJ v b=iJ u b
   ·rw[e] at c2;omega
   ·have:=A.mono (x:=iJ v b) (y:=iJ u b) (by grind) (by omega);omega
  |succ k ih =>
   intro u v hk hu hv c1 c2
   have lL:u<v:=by
    refine Int.not_le.1 fun hle => ?_
    have Yz:iJ v b≤iJ u b:=by
     rw[AL,yD]
     exact Rat.intCast_le_intCast.2 hle
    by_cases e:iJ v b=iJ u b
    ·rw[e] at c2;omega
    ·have:=A.mono (x:=iJ v b) (y:=iJ u b) (by grind) (by omega);omega
   have fu:Fit (Sym.whole u).ct:=by show _≤_;rw[eP];have:=w u (by omega);omega
   have fv:Fit (Sym.whole v).ct:=by show _≤_;rw[eP];have:=w v (by omega);omega
   have q1:=bN.Sub (Sym.whole v) (Sym.whole u) fv fu
   rw[aA,aA] at q1
   have o1:=bN.Of 1 (by unfold ax;omega)
   have o2:=bN.Of 2 (by unfold ax;omega)
   have q2:=bN.rb (Sym.whole (v-u)) (Sym.whole 1) (by show _≤_;rw[eP];have:=w (v-u) (by omega);omega) (by show _≤_;rw[eP];have:=w 1 (by decide);omega)
   rw[aA,aA] at q2
   by_cases hd:1<v-u
   ·have q3:=bN.Add (Sym.whole u) (Sym.whole v) fu fv
    rw[aA,aA] at q3
    have q4:=bN.Div (Sym.whole (u+v)) (Sym.whole 2) (by show _≤_;rw[eP];have:=w (u+v) (by omega);omega) (by show _≤_;rw[eP];have:=w 2 (by decide);omega) (by rw[aA];omega)
    rw[aA,aA] at q4
    have SU:u<(u+v)/2:=by omega
    have QL:(u+v)/2<v:=by omega
    have wm:=w ((u+v)/2) (by omega)
    have q5:=scaled ((u+v)/2) (by omega) hb
    have hg:ht (iJ ((u+v)/2) b)≤1073741824:=by
     unfold iJ
     rw[Rat.divInt_eq_div]
     have x1:=pc (((u+v)/2:Int):Rat) ((((2^b:Nat):Int)):Rat)
     have x2:ht (((u+v)/2:Int):Rat)≤4:=by rw[wJ];omega
     have x3:ht ((((2^b:Nat):Int)):Rat)≤3:=wW (j:=b) (by omega)
     omega
    have q6:=compare O A.le hg
    by_cases hc:0≤bb f lo hi (iJ ((u+v)/2) b)
    ·obtain⟨n,n1,n2⟩:=ih ((u+v)/2) v (by omega) (by omega) hv hc c2
     exact⟨n,fR.l10 _ (iK f lo hi) _ _ _ _ _ _ _ _ _ none _ _ q1 o1 q2 (by rw[mW hd];omega) q3 o2 q4 q5 q6 hc n1,n2⟩
    ·obtain⟨n,n1,n2⟩:=ih u ((u+v)/2) (by omega) hu (by omega) c1 (by rcases A.three (iJ ((u+v)/2) b) with m|m|m<;>omega)
     exact⟨n,fR.cV _ (iK f lo hi) _ _ _ _ _ _ _ _ _ none _ _ q1 o1 q2 (by rw[mW hd];omega) q3 o2 q4 q5 q6 (by omega) n1,n2⟩
   ·have zZ:v=u+1:=by omega
    refine⟨u,fR.GB _ (iK f lo hi) _ _ _ _ _ q1 o1 q2 (by unfold dC;rw[if_neg (by omega),if_pos (by omega)];omega),by omega,c1,by rw[←zZ];exact c2⟩
 obtain⟨n,n1,n2⟩:=loop _ _ _ (Nat.le_refl _) (by omega) (by omega) s1 s2
 have o1:=bN.Of 1 (by unfold ax;omega)
 have ad:=bN.Add (Sym.whole (hi*twP b).floor) (Sym.whole 1) (by show _≤_;rw[eP];have:=w (hi*twP b).floor (by omega);omega) (by show _≤_;rw[eP];have:=w 1 (by decide);omega)
 rw[aA,aA] at ad
 exact⟨n,fR.e0 (iK f lo hi) _ _ _ _ _ g1 g2 o1 ad n1,n2⟩
end qN
end Go.Proofs.YtllmkadmohkbfaaGreatDoor.Sym
namespace Go.Proofs.YtllmkadmohkbfaaGreatDoor.Sym
open Go Path bN
set_option linter.unusedVariables false
theorem LB{m n:Int}{b:Nat}(h:m≤n):iJ m b≤iJ n b:=by
 rw[AL,yD]
 exact Rat.intCast_le_intCast.2 h
theorem AM{f:List Rat}{lo hi:Rat}(A:gi f lo hi){m n:Int}{b:Nat}(h1:0≤bb f lo hi (iJ m b))(h2:bb f lo hi (iJ (m+1) b) = -1)(k1:0≤bb f lo hi (iJ n b))(k2:bb f lo hi (iJ (n+1) b) = -1):m=n:=by
 have key:∀{m n:Int},0≤bb f lo hi (iJ n b)→bb f lo hi (iJ (m+1) b) = -1→n≤m:=fun {m n} u v=>by
  refine Int.not_lt.1 fun bh => ?_
  have hle:=LB (b:=b) (show m+1≤n by omega)
  by_cases e:iJ (m+1) b=iJ n b
  ·rw[e] at v;omega
  ·have:=A.mono (x:=iJ (m+1) b) (y:=iJ n b) (by grind) (by omega)
   omega
 have:=key k1 h2
 have:=key h1 k2
 omega
theorem LC{n:Int}(h:n.natAbs<2^101){b:Nat}(hb:b≤64):ht (iJ n b)≤1000:=by
 unfold iJ
 rw[Rat.divInt_eq_div]
 have w:wl n≤4:=uB (Nat.lt_of_lt_of_le h (by decide))
 have x1:=pc ((n:Int):Rat) ((((2^b:Nat):Int)):Rat)
 have x2:ht ((n:Int):Rat)≤4:=by rw[wJ];omega
 have x3:ht ((((2^b:Nat):Int)):Rat)≤3:=wW (j:=b) (by omega)
 omega
namespace qN
theorem Ov{f:List Rat}{lo hi:Rat}{n:Int}{b:Nat}(hn:n.natAbs<2^100)(hb:b≤64):Cp 67 [vI 1] (Sym.whole 1).pv∧Cp 66 [(Sym.whole n).pv,(Sym.whole 1).pv] (Sym.whole (n+1)).pv∧Cp 63 [(Sym.whole (n+1)).pv,vI (b:Int)] (.aE [(aN (iJ (n+1) b)).pv,.az]):=by
 have w1:wl n≤4:=uB (Nat.lt_of_lt_of_le hn (by decide))
 have w2:wl (n+1)≤4:=uB (Nat.lt_of_lt_of_le (show (n+1).natAbs<2^101 by omega) (by decide))
 have w3:wl 1≤4:=uB (by decide)
 have ad:=bN.Add (Sym.whole n) (Sym.whole 1) (by show _≤_;rw[eP];omega) (by show _≤_;rw[eP];omega)
 rw[aA,aA] at ad
 exact⟨bN.Of 1 (by unfold ax;omega),ad,scaled (n+1) (by omega) hb⟩
theorem Vu{a:aQ}(ha:Sh a)(hc:qP a=0){b:Nat}(hb:b≤64):∃n:Int,n.natAbs<2^100∧0≤bb (bj a.p) (jX a.rV) (l9 a.rV) (iJ n b)∧bb (bj a.p) (jX a.rV) (l9 a.rV) (iJ (n+1) b) = -1 ∧
  Cp 13 [a.pv,vI (b:Int)] (.aE [(if bb (bj a.p) (jX a.rV) (l9 a.rV) (iJ n b)=0 then pf (iJ n b) (iJ n b) else pf (iJ n b) (iJ (n+1) b)).pv,.az]):=by
 have A:=ha.acc hc
 have c1:=qN.Check ha
 rw[hc] at c1
 obtain⟨n,n1,n2,n3,n4⟩:=floor A.sm A.w6 A.h1 A.h2 hb
 rw[←A.e] at n1
 refine⟨n,n2,n3,n4,?_⟩
 have w1:wl n≤4:=uB (Nat.lt_of_lt_of_le n2 (by decide))
 have s1:=scaled n (by omega) hb
 have hh:=LC (b:=b) (show n.natAbs<2^101 by omega) hb
 have k1:=compare (A.sm.ok (lo:=jX a.rV) (hi:=l9 a.rV) (by have:=A.h1;omega) (by have:=A.h2;omega)) A.w6.le (x:=iJ n b) (by omega)
 rw[←A.e] at k1
 obtain⟨o1,o2,o3⟩:=Ov (f:=bj a.p) (lo:=jX a.rV) (hi:=l9 a.rV) n2 hb
 by_cases h0:bb (bj a.p) (jX a.rV) (l9 a.rV) (iJ n b)=0
 ·rw[if_pos h0]
  exact nV.e2 a _ _ _ _ (pf (iJ n b) (iJ n b)) c1 (by omega) (by omega) n1 s1 k1 h0 (Oo.H2 _ (by omega))
 ·rw[if_neg h0]
  exact nV.e3 a _ _ _ _ _ _ _ none c1 (by omega) (by omega) n1 s1 k1 h0 o1 o2 o3
theorem Ci{a b:aQ}{f g:List Rat}{lo hi lo' hi':Rat}(A:Acc a f lo hi)(B:Acc b g lo' hi'){t:Nat}(ht:t≤64){n:Int}(n1:0≤bb f lo hi (iJ n t))(n2:bb f lo hi (iJ (n+1) t) = -1) :
  (bb g lo' hi' (iJ (n+1) t)=1→dY.ah t a b (.aE [(aN (iJ (n+1) t)).pv,.az]))∧(bb g lo' hi' (iJ (n+1) t)≠1→∀r,dY.ah (t+1) a b r→dY.ah t a b r):=by
 obtain⟨m,m1,m2,m3,m4⟩:=floor A.sm A.w6 A.h1 A.h2 ht
 have YA:m=n:=AM A.w6 m3 m4 n1 n2
 subst YA
 rw[←A.e] at m1
 obtain⟨o1,o2,o3⟩:=Ov (f:=f) (lo:=lo) (hi:=hi) m2 ht
 have hh:=LC (b:=t) (show (m+1).natAbs<2^101 by omega) ht
 have k1:=compare (B.sm.ok (lo:=lo') (hi:=hi') (by have:=B.h1;omega) (by have:=B.h2;omega)) B.w6.le (x:=iJ (m+1) t) (by omega)
 rw[←B.e] at k1
 refine⟨fun h => ?_,fun h r hL => ?_⟩
 ·exact dY.l10 t a b _ _ _ _ _ (by omega) m1 o1 o2 o3 k1 (by omega)
 ·exact dY.cV t a b _ _ _ _ _ (by omega) m1 o1 o2 o3 k1 (by rcases B.w6.three (iJ (m+1) t) with q|q|q<;>omega) (by omega) hL
theorem Ow{p:List Rat}(f:dz 7 6 p)(h1:Bd p)(ok:vL 7 6):Cp 21 [pq p] (.aE [cT aQ.cells ((qL 7 6 p).map (fun r=>iK (bx p) r.1 r.2)),.az]):=by
 have hi:=HZ.Nx f h1 ok
 have hF:=yz.GN f
 have hlen:=HZ.Ff f h1 ok
 have loop:∀d t:Nat,t+d=(qL 7 6 p).length→iw.ah (p.map aN) (((qL 7 6 p).take t).map (fun r=>iK (bx p) r.1 r.2)) (mkGs (qL 7 6 p)) t (.aE [cT aQ.cells ((qL 7 6 p).map (fun r=>iK (bx p) r.1 r.2)),.az]):=by
  intro d
  induction d with
  |zero =>
   intro t h
   rw[show (qL 7 6 p).take t=qL 7 6 p from List.take_of_length_le (by omega)]
   exact iw.kI _ _ _ t (by rw[AF];omega)
  |succ d ih =>
   intro t h
   obtain⟨v,hv⟩:∃v,(qL 7 6 p)[t]? = some v:=⟨_,List.getElem?_eq_getElem (by omega)⟩
   have BP:(mkGs (qL 7 6 p))[t]? = some (pf v.1 v.2):=by unfold mkGs;rw[List.getElem?_map,hv];rfl
   have ih:=ih (t+1) (by omega)
   rw[List.take_add_one,hv,List.map_append] at ih
   exact iw.l10 _ _ _ t (pf v.1 v.2) _ (by rw[AF];omega) BP hF (by rw[List.length_append,List.length_map,List.length_take,List.length_singleton];omega) (by omega) ih
 exact iw.e0 _ _ hi (loop (qL 7 6 p).length 0 (Nat.zero_add _))
end qN
end Go.Proofs.YtllmkadmohkbfaaGreatDoor.Sym
namespace Go.Proofs.YtllmkadmohkbfaaGreatDoor.Sym.Path
open Go
set_option maxRecDepth 20000
set_option linter.unusedVariables false
namespace oS
@[reducible] noncomputable def fn:Func:=Tryz.f193
noncomputable def bf:List eg:=focus [0,2,0,0,2,1,2,0,0,2,0,0] [.code (ay fn)]
def inv1(t:bn)(uf:Nat):St:=⟨[(1,(.ptr 1 0)),(13,(.pv (cT (aC af.cells) t.roots))),(14,(eI (t.roots.length:Int))),(15,(eI (uf:Int)))],[(1,(.lit [(.pv (cT (aC af.cells) t.roots))]))]⟩
@[reducible] noncomputable def ah(t:bn)(uf:Nat)(r:PV):Prop:=L bp fn bf (inv1 t uf) r
theorem e1(t:bn){r:PV}(h1:t.roots.length≤5)(hL:ah t 0 r):Cp 193 [t.pv] r :=
 eG Tryz.func193 96 [1,1,1] [.q,.h 2 (iI (t.roots.length:Int)),.f,.h 2 (iI (t.roots.length:Int)),.aH [1,13,14,15]] (y3 (an (aC af.cells) t.roots) (ar h1) (an (aC af.cells) t.roots)) hL
theorem kI(t:bn)(b:Nat)(v:Rs)(c:Int){r:PV}(h1:b<t.roots.length)(h2:t.roots[b]? = some v)(h3:b≤64)(h4:(1*2^b)<9223372036854775808)(h5:v.length=(1*2^b))(h6:b≤t.roots.length)(h7:Cp 194 [(⟨(t.roots.take b)⟩:bn).pv,ae v] .az)(h8:Cp 119 [(⟨(t.roots.take b)⟩:bn).pv,ae v] (vI c))(h9:0≤c)(ec:(b+1)<9223372036854775808)(hL:ah t (b+1) r):ah t b r :=
 lG 186 [1,3,1,1,1,6,1,1,1,1] [.a,.q,.t,.h 1 (.row b ((aC af.cells) v)),.aV [.o,(iI (v.length:Int)),.o,(iI (((1*2^b):Nat):Int))],.f,.h 3 (.iL 0 b (((t.roots.take b):List (Rs)).map (aC af.cells))),.h 2 (.pv .az),.q,.a,.h 2 (.pv (vI c)),.f,.h 0 (iI (((b+1):Nat):Int)),.aH [1,13,14,15],.drop [5]] (FA (ai h1) (bO (aC af.cells) (Eq.refl (((b:Nat):Int):Int)) h2) (an af.cells v) (fh (k := .i64) h3 h4) (gQ h5) (u6 (qh af.cells) (t.roots:List (Rs)) (Eq.refl (((b:Nat):Int):Int)) h6) h7 h8 (bD h9) (aL ec)) hL
theorem GB(t:bn)(b:Nat)(h1:t.roots.length≤b):ah t b .az :=
 lD 129 [1] [.a,.q,.f,.q] (y1 (ar h1))
end oS
namespace gd
@[reducible] noncomputable def fn:Func:=Tryz.f115
noncomputable def bf:List eg:=focus [0,2,0,0,2,0,2,1,2,0,0,2,0,0] [.code (ay fn)]
def inv1(list:List (List af))(Qe:Nat)(t:bn):St:=⟨[(2,(.ptr 2 0)),(14,(.pv (cT (aC af.cells) list))),(15,(eI (list.length:Int))),(16,(eI (Qe:Int)))],[(2,(.lit [(.pv (cT (aC af.cells) t.roots))]))]⟩
@[reducible] noncomputable def ah(list:List (List af))(Qe:Nat)(t:bn)(r:PV):Prop:=L bp fn bf (inv1 list Qe t) r
theorem e0(t:bn)(b:List (Rs)){r:PV}(h1:Cp 193 [t.pv] .az)(hL:ah b 0 t r):Cp 115 [t.pv,(cT (aC af.cells) b)] r :=
 eG Tryz.func115 102 [1,1] [.q,.h 1 (.pv .az),.q,.a,.h 1 (iI (b.length:Int)),.aH [2,14,15,16]] (y2 h1 (an (aC af.cells) b)) hL
theorem l10(b:List (Rs))(c:Nat)(t:bn)(v:Rs){r:PV}(h1:c<b.length)(h2:b[c]? = some v)(h3:Cp 194 [t.pv,ae v] .az)(h4:(c+1)<9223372036854775808)(hL:ah b (c+1) t r):ah b c t r :=
 lG 156 [1,3,1,1] [.a,.q,.t,.h 0 (.row c ((aC af.cells) v)),.h 2 (.pv .az),.q,.a,.h 0 (iI (((c+1):Nat):Int)),.aH [2,14,15,16]] (y4 (ai h1) (bO (aC af.cells) (Eq.refl (((c:Nat):Int):Int)) h2) h3 (aL h4)) hL
theorem kI(b:List (Rs))(c:Nat)(t:bn)(h1:b.length≤c):ah b c t .az :=
 lD 135 [1] [.a,.q,.f,.q] (y1 (ar h1))
end gd
namespace jw
@[reducible] noncomputable def fn:Func:=Tryz.f194
noncomputable def bf:List eg:=focus [0,2,0,0,2,0,0,2,0,2,1,2,0,0,2,0,0] [.code (ay fn)]
def inv1(a:List af)(vo:Nat):St:=⟨[(23,(.pv (ae a))),(24,(eI (a.length:Int))),(25,(eI (vo:Int)))],[]⟩
@[reducible] noncomputable def ah(a:List af)(vo:Nat)(r:PV):Prop:=L bp fn bf (inv1 a vo) r
theorem e2(t:bn)(a:Rs)(b:Int){r:PV}(h1:0<a.length)(h2:Cp 195 [ae a] (vI b))(h3:0≤b)(h4:b≤(t.roots.length:Int))(hL:ah a 0 r):Cp 194 [t.pv,ae a] r :=
 eG Tryz.func194 111 [1,1,1,1,1,1,1,1,1,1,1,1] [.q,.h 1 (iI (a.length:Int)),.t,.h 1 (.pv (vI b)),.aV [.o,.o,.o,.o,.o,.o,(iI (t.roots.length:Int)),.o,(.dec false)],.f,.h 1 (iI (a.length:Int)),.aH [23,24,25],.drop [2]] (Jj (an af.cells a) (ai h1) h2 (bD h3) (bD h3) (bD h3) (bD h3) (an (aC af.cells) t.roots) (bD h3) (bD h3) (bD h4) (an af.cells a)) hL
theorem e3(t:bn)(a:Rs){r:PV}(h1:a.length≤0)(hL:ah a 0 r):Cp 194 [t.pv,ae a] r :=
 eG Tryz.func194 96 [1,1,1] [.q,.h 1 (iI (a.length:Int)),.f,.h 1 (iI (a.length:Int)),.aH [23,24,25],.drop [2]] (y3 (an af.cells a) (ar h1) (an af.cells a)) hL
theorem cV(a:Rs)(b:Nat)(v:af)(c:Bool){r:PV}(h1:b<a.length)(h2:a[b]? = some v)(h3:Cp 164 [v.pv] (vB c))(h4:c=true)(h5:(b+1)<9223372036854775808)(hL:ah a (b+1) r):ah a b r :=
 lG 159 [1,3,1,1,1] [.a,.q,.t,.h 0 (.row b (af.cells v)),.h 1 (.pv (vB c)),.f,.h 0 (iI (((b+1):Nat):Int)),.aH [23,24,25],.drop [7]] (y5 (ai h1) (bO af.cells (Eq.refl (((b:Nat):Int):Int)) h2) h3 (aU h4) (aL h5)) hL
theorem kI(a:Rs)(b:Nat)(h1:a.length≤b):ah a b .az :=
 lD 144 [1] [.a,.q,.f,.q] (y1 (ar h1))
end jw
namespace je
@[reducible] noncomputable def fn:Func:=Tryz.f195
noncomputable def bf:List eg:=focus [0,2,0,2,0,0,0] [.code (ay fn)]
def inv1(a:List af)(Vv:Nat):St:=⟨[(0,(.pv (ae a))),(3,(eI (Vv:Int)))],[]⟩
@[reducible] noncomputable def ah(a:List af)(Vv:Nat)(r:PV):Prop:=L bp fn bf (inv1 a Vv) r
theorem e0 (a : Rs) {r : PV}  (hL : ah a 0 r) : Cp 195 [ae a] r :=
 eG Tryz.func195 81 [] [.q,.q,.aH [0,3]] True.intro hL
theorem l10(a:Rs)(b:Nat){r:PV}(h1:b≤64)(h2:(1*2^b)<9223372036854775808)(h3:(1*2^b)<a.length)(h4:(b+1)<9223372036854775808)(hL:ah a (b+1) r):ah a b r :=
 lG 108 [1,1,1,1] [.a,.aV [.o,(iI (((1*2^b):Nat):Int)),.o,(iI (a.length:Int))],.t,.h 1 (iI (((b+1):Nat):Int)),.aH [0,3]] (y4 (fh (k := .i64) h1 h2) (an af.cells a) (ai h3) (aL h4)) hL
theorem cV(a:Rs)(b:Nat)(h1:b≤64)(h2:(1*2^b)<9223372036854775808)(h3:a.length≤(1*2^b))(h4:(1*2^b)≠a.length):ah a b (vI (-1)) :=
 lD 126 [1,1,1,1,1,1] [.a,.aV [.o,(iI (((1*2^b):Nat):Int)),.o,(iI (a.length:Int))],.f,.aV [.o,(iI (((1*2^b):Nat):Int)),.o,(iI (a.length:Int))],.t,.q] (y6 (fh (k := .i64) h1 h2) (an af.cells a) (ar h3) (fh (k := .i64) h1 h2) (an af.cells a) (jF h4))
theorem kI(a:Rs)(b:Nat)(h1:b≤64)(h2:(1*2^b)<9223372036854775808)(h3:a.length≤(1*2^b))(h4:(1*2^b)=a.length):ah a b (vI (b:Int)) :=
 lD 129 [1,1,1,1,1,1] [.a,.aV [.o,(iI (((1*2^b):Nat):Int)),.o,(iI (a.length:Int))],.f,.aV [.o,(iI (((1*2^b):Nat):Int)),.o,(iI (a.length:Int))],.f,.q] (y6 (fh (k := .i64) h1 h2) (an af.cells a) (ar h3) (fh (k := .i64) h1 h2) (an af.cells a) (gQ h4))
end je
namespace AN
theorem e1(t:bn)(a b:Rs)(v:af)(c:Int)(h1:Cp 116 [ae a] (ae b))(h2:b.length≠0)(h3:b.length=1)(h4:b[0]? = some v)(h5:Cp 33 [v.pv] (vI c)):Cp 119 [t.pv,ae a] (vI c) :=
 eD Tryz.func119 105 [1,1,1,1,1,3,1] [.q,.h 1 (.pv (ae b)),.h 1 (iI (b.length:Int)),.f,.h 1 (iI (b.length:Int)),.t,.aV [.o,(.row 0 (af.cells v)),.o,(.pv (vI c))]] (y7 h1 (an af.cells b) (aB h2) (an af.cells b) (aM h3) (bO af.cells (Eq.refl (0:Int)) h4) h5)
end AN
namespace gf
@[reducible] noncomputable def fn:Func:=Tryz.f116
noncomputable def bf:List eg:=focus [0,2,0,0,2,0,2,1,2,0,2,0,0,0] [.code (ay fn)]
def inv1(a:List af)(Vw:Nat):St:=⟨[(0,(.pv (ae a))),(4,(eI (Vw:Int)))],[]⟩
@[reducible] noncomputable def ah(a:List af)(Vw:Nat)(r:PV):Prop:=L bp fn bf (inv1 a Vw) r
theorem e2(a:Rs)(b:Int){r:PV}(h1:Cp 195 [ae a] (vI b))(h2:0<a.length)(h3:0≤b)(h4:b≤5)(hL:ah a a.length r):Cp 116 [ae a] r :=
 eG Tryz.func116 102 [1,1,1,1,1,1,1,1,1,1,1,1] [.q,.h 1 (.pv (vI b)),.aV [.o,(iI (a.length:Int)),.o,.o,.o,.o,.o,.o,.o,(.dec false),(.dec true)],.f,.h 1 (iI (a.length:Int)),.aH [0,4]] (Jj h1 (an af.cells a) (ai h2) (ai h2) (ai h2) (bD h3) (bD h3) (ai h2) (bD h3) (ai h2) (bD h4) (an af.cells a)) hL
theorem e3(a:Rs)(b:Int){r:PV}(h1:Cp 195 [ae a] (vI b))(h2:a.length≤0)(hL:ah a a.length r):Cp 116 [ae a] r :=
 eG Tryz.func116 102 [1,1,1,1,1,1,1,1] [.q,.h 1 (.pv (vI b)),.aV [.o,(iI (a.length:Int)),.o,.o,.skip,.skip,.skip,.skip,.skip,.skip,(.dec false)],.a,.h 1 (iI (a.length:Int)),.aH [0,4]] (y8 h1 (an af.cells a) (ar h2) (ar h2) (ar h2) (ar h2) (ar h2) (an af.cells a)) hL
theorem l10(a:Rs)(b:Nat)(c:Bool){r:PV}(h1:1<b)(h2:b<9223372036854775808)(h3:b≤a.length)(h4:(b/2)≤b)(h5:Cp 196 [(ae ((a.take b).drop (b/2)))] (vB c))(h6:c=true)(hL:ah a (b/2) r):ah a b r :=
 lG 129 [1,1,1,1,1,1,6,1,1,1,1,1] [.a,.aV [.o,.o,.o,.o,.o,(iI (((b/2):Nat):Int)),.o,(.iL (b/2) b ((((a.take b).drop (b/2)):Rs).map af.cells)),(.pv (vB c)),(.dec true)],.t,.h 1 (iI (((b/2):Nat):Int)),.aH [0,4]] (Jj (ai h1) (ai h1) (ai h1) (u4 (y:=2) (by decide) h2) (ai h1) (ai h1) (RH aZ (a:Rs) (Eq.refl ((((b/2):Nat):Int):Int)) (Eq.refl (((b:Nat):Int):Int)) h4 h3) (ai h1) h5 (ai h1) h6 (u4 (y:=2) (by decide) h2)) hL
theorem ta(a:Rs)(b:Nat)(c:Bool)(d:Rs)(h1:1<b)(h2:b<9223372036854775808)(h3:b≤a.length)(h4:(b/2)≤b)(h5:Cp 196 [(ae ((a.take b).drop (b/2)))] (vB c))(h6:c=false)(h7:b≠1)(h8:Cp 178 [(ae (a.take b))] (ae d)):ah a b (ae d) :=
 lD 150 [1,1,1,1,1,1,6,1,1,1,1,1,1,1,1,6,1] [.a,.aV [.o,.o,.o,.o,.o,(iI (((b/2):Nat):Int)),.o,(.iL (b/2) b ((((a.take b).drop (b/2)):Rs).map af.cells)),(.pv (vB c)),(.dec true)],.f,.aV [.o,.o,.o,.skip,.skip,.skip,(.dec false)],.a,.aV [.o,.o,(.iL 0 b (((a.take b):Rs).map af.cells)),(.pv (ae d))]] (Pf (ai h1) (ai h1) (ai h1) (u4 (y:=2) (by decide) h2) (ai h1) (ai h1) (RH aZ (a:Rs) (Eq.refl ((((b/2):Nat):Int):Int)) (Eq.refl (((b:Nat):Int):Int)) h4 h3) (ai h1) h5 (ai h1) h6 (aB h7) (aB h7) (aB h7) (aB h7) (u6 aZ (a:Rs) (Eq.refl (((b:Nat):Int):Int)) h3) h8)
theorem GB(a:Rs)(b:Nat)(c:Bool)(h1:b≤1)(h2:b=1)(h3:1≤a.length)(h4:Cp 196 [(ae (a.take 1))] (vB c))(h5:c=true):ah a b (ae []) :=
 lD 147 [1,1,1,1,1,1,1,1,1,6,1,1,1,1] [.a,.aV [.o,.o,.o,.skip,.skip,.skip,.skip,.skip,.skip,(.dec false)],.a,.aV [.o,.o,.o,.o,(.iL 0 1 (((a.take 1):Rs).map af.cells)),(.pv (vB c)),(.dec true)],.t,.q] (Km (ar h1) (ar h1) (ar h1) (ar h1) (ar h1) (ar h1) (ar h1) (aM h2) (aM h2) (u6 aZ (a:Rs) (Eq.refl (1:Int)) h3) (aM h2) h4 (aM h2) h5)
theorem Vx(a:Rs)(b:Nat)(c:Bool)(d:Rs)(h1:b≤1)(h2:b=1)(h3:1≤a.length)(h4:Cp 196 [(ae (a.take 1))] (vB c))(h5:c=false)(h6:b≤a.length)(h7:Cp 178 [(ae (a.take b))] (ae d)):ah a b (ae d) :=
 lD 150 [1,1,1,1,1,1,1,1,1,6,1,1,1,1,6,1] [.a,.aV [.o,.o,.o,.skip,.skip,.skip,.skip,.skip,.skip,(.dec false)],.a,.aV [.o,.o,.o,.o,(.iL 0 1 (((a.take 1):Rs).map af.cells)),(.pv (vB c)),(.dec true)],.f,.aV [.o,.o,(.iL 0 b (((a.take b):Rs).map af.cells)),(.pv (ae d))]] (FB (ar h1) (ar h1) (ar h1) (ar h1) (ar h1) (ar h1) (ar h1) (aM h2) (aM h2) (u6 aZ (a:Rs) (Eq.refl (1:Int)) h3) (aM h2) h4 (aM h2) h5 (u6 aZ (a:Rs) (Eq.refl (((b:Nat):Int):Int)) h6) h7)
theorem Vy(a:Rs)(b:Nat)(c:Rs)(h1:b≤1)(h2:b≠1)(h3:b≤a.length)(h4:Cp 178 [(ae (a.take b))] (ae c)):ah a b (ae c) :=
 lD 150 [1,1,1,1,1,1,1,1,1,1,1,6,1] [.a,.aV [.o,.o,.o,.skip,.skip,.skip,.skip,.skip,.skip,(.dec false)],.a,.aV [.o,.o,.o,.skip,.skip,.skip,(.dec false)],.a,.aV [.o,.o,(.iL 0 b (((a.take b):Rs).map af.cells)),(.pv (ae c))]] (Ht (ar h1) (ar h1) (ar h1) (ar h1) (ar h1) (ar h1) (ar h1) (aB h2) (aB h2) (aB h2) (aB h2) (u6 aZ (a:Rs) (Eq.refl (((b:Nat):Int):Int)) h3) h4)
end gf
namespace gO
@[reducible] noncomputable def fn:Func:=Tryz.f196
noncomputable def bf:List eg:=focus [0,2,0,0,2,0,0] [.code (ay fn)]
def inv1(a:List af)(GR:Nat):St:=⟨[(5,(.pv (ae a))),(6,(eI (a.length:Int))),(7,(eI (GR:Int)))],[]⟩
@[reducible] noncomputable def ah(a:List af)(GR:Nat)(r:PV):Prop:=L bp fn bf (inv1 a GR) r
theorem e0 (a : Rs) {r : PV}  (hL : ah a 0 r) : Cp 196 [ae a] r :=
 eG Tryz.func196 81 [1] [.q,.h 1 (iI (a.length:Int)),.aH [5,6,7]] (y1 (an af.cells a)) hL
theorem l10(a:Rs)(b:Nat)(v:af)(h1:b<a.length)(h2:a[b]? = some v)(h3:v.neg=true):ah a b (vB false) :=
 lD 126 [1,3,1,1,1,1,1,1,1,1,1] [.a,.q,.t,.h 0 (.row b (af.cells v)),.aV [.o,.o,.o,.skip,.skip,.skip,.skip,(.dec true),.o,.skip,.skip,.skip,.skip],.a,.q] (BL (ai h1) (bO af.cells (Eq.refl (((b:Nat):Int):Int)) h2) h3 h3 h3 h3 h3 (Eq.refl true) (Eq.refl true) (Eq.refl true) (Eq.refl true))
theorem cV(a:Rs)(b:Nat)(v:af)(h1:b<a.length)(h2:a[b]? = some v)(h3:v.neg=false)(h4:0<v.num.length):ah a b (vB false) :=
 lD 126 [1,3,1,1,1,1,1,1,1,1,1,1,1] [.a,.q,.t,.h 0 (.row b (af.cells v)),.aV [.o,.o,.o,.o,.o,(iI (v.num.length:Int)),.o,(.dec false),.o,.skip,.skip,.skip,.skip,(.dec true)],.a,.q] (Ht (ai h1) (bO af.cells (Eq.refl (((b:Nat):Int):Int)) h2) h3 h3 h3 (an ag v.num) h3 h3 (ai h4) (ai h4) (ai h4) (ai h4) (ai h4))
theorem kI(a:Rs)(b:Nat)(v:af)(h1:b<a.length)(h2:a[b]? = some v)(h3:v.neg=false)(h4:v.num.length≤0)(h5:0<v.den.length):ah a b (vB false) :=
 lD 126 [1,3,1,1,1,1,1,1,1,1,1,1,1,1,1] [.a,.q,.t,.h 0 (.row b (af.cells v)),.aV [.o,.o,.o,.o,.o,(iI (v.num.length:Int)),.o,(.dec false),.o,.o,.o,(iI (v.den.length:Int)),.o,(.dec false)],.t,.q] (Jk (ai h1) (bO af.cells (Eq.refl (((b:Nat):Int):Int)) h2) h3 h3 h3 (an ag v.num) h3 h3 (ar h4) (ar h4) (ar h4) (an ag v.den) (ar h4) (ar h4) (ai h5))
theorem ta(a:Rs)(b:Nat)(v:af){r:PV}(h1:b<a.length)(h2:a[b]? = some v)(h3:v.neg=false)(h4:v.num.length≤0)(h5:v.den.length≤0)(h6:(b+1)<9223372036854775808)(hL:ah a (b+1) r):ah a b r :=
 lG 129 [1,3,1,1,1,1,1,1,1,1,1,1,1,1,1,1] [.a,.q,.t,.h 0 (.row b (af.cells v)),.aV [.o,.o,.o,.o,.o,(iI (v.num.length:Int)),.o,(.dec false),.o,.o,.o,(iI (v.den.length:Int)),.o,(.dec false)],.f,.h 0 (iI (((b+1):Nat):Int)),.aH [5,6,7],.drop [4]] (FB (ai h1) (bO af.cells (Eq.refl (((b:Nat):Int):Int)) h2) h3 h3 h3 (an ag v.num) h3 h3 (ar h4) (ar h4) (ar h4) (an ag v.den) (ar h4) (ar h4) (ar h5) (aL h6)) hL
theorem GB(a:Rs)(b:Nat)(h1:a.length≤b):ah a b (vB true) :=
 lD 114 [1] [.a,.q,.f,.q] (y1 (ar h1))
end gO
namespace lC
@[reducible] noncomputable def fn:Func:=Tryz.f178
noncomputable def bf:List eg:=focus [0,2,0,2,0,0,2,0,0] [.code (ay fn)]
def inv1(jx a:List af)(sD:Nat):St:=⟨[(3,(.row 25 0 jx.length 3)),(6,(.pv (ae a))),(7,(eI (a.length:Int))),(8,(eI (sD:Int)))],[(25,(.pure ((jx:List af).map af.cells).flatten))]⟩
@[reducible] noncomputable def ah(jx a:List af)(sD:Nat)(r:PV):Prop:=L bp fn bf (inv1 jx a sD) r
theorem e0 (a : Rs) {r : PV}  (hL : ah [] a 0 r) : Cp 178 [ae a] r :=
 eG Tryz.func178 87 [1] [.q,.h 0 .nil,.jM 3 25 3,.h 1 (iI (a.length:Int)),.aH [3,6,7,8]] (y1 (an af.cells a)) hL
theorem AO(jx a:List af)(sD:Nat)(v:af):wA bp mU fn.ntmps (bC (focus [0,2,0,2,0,0,2,0,0,0,0,2,0,0,2,0,0,0,2] [.code (ay fn)])) (mf (bC (focus [0,2,0,2,0,0,2,0,0,0,0,2,0,0,2,0,0,0,2] [.code (ay fn)])) [0]) (jN (bC (focus [0,2,0,2,0,0,2,0,0,0,0,2,0,0,2,0,0,0,2] [.code (ay fn)])) [0]) [.none,.none,.none,.none,.none,.none,(.iL (v.num:List UInt32).length 0 ((v.num:List UInt32).map ag)),.none,.none,.none,(.iL (v.den:List UInt32).length 0 ((v.den:List UInt32).map ag)),.none,.none,(.app ((jx++[v]):List af).length (((jx++[v]):List af).map af.cells).flatten),.none] (BF mU fn.ntmps (bC (focus [0,2,0,2,0,0,2,0,0,0,0,2,0,0,2,0,0,0,2] [.code (ay fn)])) [0] ⟨[(3,(.row 25 0 jx.length 3)),(5,(.ptr 5 0)),(6,(.pv (ae a))),(7,(eI (a.length:Int))),(8,(eI (sD:Int)))],[(5,(.lit [(eB v.neg),(.pv (aa v.num)),(.pv (aa v.den))])),(25,(.pure ((jx:List af).map af.cells).flatten))]⟩)=wB bp mU fn.ntmps (bC (focus [0,2,0,2,0,0,2,0,0,0,0,2,0,0,2,0,0,0,2] [.code (ay fn)])) (mf (bC (focus [0,2,0,2,0,0,2,0,0,0,0,2,0,0,2,0,0,0,2] [.code (ay fn)])) [0]) (jN (bC (focus [0,2,0,2,0,0,2,0,0,0,0,2,0,0,2,0,0,0,2] [.code (ay fn)])) [0]) [.none,.none,.none,.none,.none,.none,(.iL (v.num:List UInt32).length 0 ((v.num:List UInt32).map ag)),.none,.none,.none,(.iL (v.den:List UInt32).length 0 ((v.den:List UInt32).map ag)),.none,.none,(.app ((jx++[v]):List af).length (((jx++[v]):List af).map af.cells).flatten),.none] (BF mU fn.ntmps (bC (focus [0,2,0,2,0,0,2,0,0,0,0,2,0,0,2,0,0,0,2] [.code (ay fn)])) [0] ⟨[(3,(.row 25 0 jx.length 3)),(5,(.ptr 5 0)),(6,(.pv (ae a))),(7,(eI (a.length:Int))),(8,(eI (sD:Int)))],[(5,(.lit [(eB v.neg),(.pv (aa v.num)),(.pv (aa v.den))])),(25,(.pure ((jx:List af).map af.cells).flatten))]⟩):=by kernel_rfl
theorem l10(b a:Rs)(c:Nat)(v:af){r:PV}(h1:c<a.length)(h2:a[c]? = some v)(h3:(([]:Ws)++v.num:Ws).length*4≤140737488355328)(h4:(([]:Ws)++v.den:Ws).length*4≤140737488355328)(h5:((b++[v]):Rs).length*56≤140737488355328)(h6:(c+1)<9223372036854775808)(hL:ah (b++[v]) a (c+1) r):ah b a c r :=
 lG 126 [1,3,6,3,6,3,6,1,1] [.a,.q,.t,.h 0 (.row c (af.cells v)),.aH [3,5,6,7,8],.any [0] [.none,.none,.none,.none,.none,.none,(.iL (v.num:Ws).length 0 ((v.num:Ws).map ag)),.none,.none,.none,(.iL (v.den:Ws).length 0 ((v.den:Ws).map ag)),.none,.none,(.app ((b++[v]):Rs).length (((b++[v]):Rs).map af.cells).flatten),.none],.h 0 (iI (((c+1):Nat):Int)),.aH [3,6,7,8],.drop [24,5]] (y9 (ai h1) (bO af.cells (Eq.refl (((c:Nat):Int):Int)) h2) (qj aY ([]:Ws) (v.num:Ws) 4 (Eq.refl ([]:Ws).length) h3 rfl) (cU aY (v.num:Ws) (Eq.refl (v.num:Ws).length)) (qj aY ([]:Ws) (v.den:Ws) 4 (Eq.refl ([]:Ws).length) h4 rfl) (cU aY (v.den:Ws) (Eq.refl (v.den:Ws).length)) (gR aZ (b:Rs) ([v]:Rs) 56 (Eq.refl (b:Rs).length) (Eq.refl ([v]:Rs).length) h5 rfl) (AO b a c v) (aL h6)) hL
theorem cV(b a:Rs)(c:Nat)(h1:a.length≤c):ah b a c (ae b) :=
 lD 120 [1,3] [.a,.q,.f,.q,.fo 2 ((b:Rs).map af.cells)] (y2 (ar h1) (cU aZ (b:Rs) (Eq.refl (b:Rs).length)))
end lC
namespace kE
theorem e0(t:bn)(a b:Rs)(c:Bool)(h1:a.length<b.length)(h2:Cp 197 [ae b] (vB c))(h3:c=true):Cp 117 [t.pv,ae a,ae b] (ae []) :=
 eD Tryz.func117 102 [1,1,1,1,1,1,1] [.q,.aV [.o,(iI (a.length:Int)),.o,(iI (b.length:Int))],.t,.q,.aV [.o,(.pv (vB c)),.o,.skip,.skip,(.dec true)],.a,.q] (y7 (an af.cells a) (an af.cells b) (ai h1) h2 h3 h3 h3)
theorem e1(t:bn)(a b:Rs)(c d:Bool)(h1:a.length<b.length)(h2:Cp 197 [ae b] (vB c))(h3:c=false)(h4:Cp 197 [ae a] (vB d))(h5:d=true):Cp 117 [t.pv,ae a,ae b] (ae []) :=
 eD Tryz.func117 102 [1,1,1,1,1,1,1,1,1] [.q,.aV [.o,(iI (a.length:Int)),.o,(iI (b.length:Int))],.t,.q,.aV [.o,(.pv (vB c)),.o,.o,(.pv (vB d)),(.dec false)],.t,.q] (y9 (an af.cells a) (an af.cells b) (ai h1) h2 h3 h3 h4 h3 h5)
theorem e5(t:bn)(a b:Rs)(c:Bool)(h1:b.length≤a.length)(h2:Cp 197 [ae a] (vB c))(h3:c=true):Cp 117 [t.pv,ae a,ae b] (ae []) :=
 eD Tryz.func117 102 [1,1,1,1,1,1,1] [.q,.aV [.o,(iI (a.length:Int)),.o,(iI (b.length:Int))],.f,.aV [.o,(.pv (vB c)),.o,.skip,.skip,(.dec true)],.a,.q] (y7 (an af.cells a) (an af.cells b) (ar h1) h2 h3 h3 h3)
theorem e6(t:bn)(a b:Rs)(c d:Bool)(h1:b.length≤a.length)(h2:Cp 197 [ae a] (vB c))(h3:c=false)(h4:Cp 197 [ae b] (vB d))(h5:d=true):Cp 117 [t.pv,ae a,ae b] (ae []) :=
 eD Tryz.func117 102 [1,1,1,1,1,1,1,1,1] [.q,.aV [.o,(iI (a.length:Int)),.o,(iI (b.length:Int))],.f,.aV [.o,(.pv (vB c)),.o,.o,(.pv (vB d)),(.dec false)],.t,.q] (y9 (an af.cells a) (an af.cells b) (ar h1) h2 h3 h3 h4 h3 h5)
theorem e7(t:bn)(a b:Rs)(c d:Bool)(v v1 g:af)(h1:b.length≤a.length)(h2:Cp 197 [ae a] (vB c))(h3:c=false)(h4:Cp 197 [ae b] (vB d))(h5:d=false)(h6:a.length=1)(h7:a[0]? = some v)(h8:b[0]? = some v1)(h9:Cp 198 [v.pv,v1.pv] g.pv):Cp 117 [t.pv,ae a,ae b] (ae [g]) :=
 eD Tryz.func117 111 [1,1,1,1,1,1,1,1,1,1,1,3,3,1,3] [.q,.aV [.o,(iI (a.length:Int)),.o,(iI (b.length:Int))],.f,.aV [.o,(.pv (vB c)),.o,.o,(.pv (vB d)),(.dec false)],.f,.h 1 (iI (a.length:Int)),.t,dr 8 1 [.none,(.row 0 (af.cells v)),.none,.none,(.row 0 (af.cells v1)),.none,(.pv g.pv)],.fo 6 (([g]:Rs).map af.cells)] (Jk (an af.cells a) (an af.cells b) (ar h1) h2 h3 h3 h4 h3 h5 (an af.cells a) (aM h6) (bO af.cells (Eq.refl (0:Int)) h7) (bO af.cells (Eq.refl (0:Int)) h8) h9 (cU aZ ([g]:Rs) (Eq.refl ([g]:Rs).length)))
end kE
namespace l4
@[reducible] noncomputable def fn:Func:=Tryz.f197
noncomputable def bf:List eg:=focus [0,2,0,0,2,0,0] [.code (ay fn)]
def inv1(a:List af)(GR:Nat):St:=⟨[(5,(.pv (ae a))),(6,(eI (a.length:Int))),(7,(eI (GR:Int)))],[]⟩
@[reducible] noncomputable def ah(a:List af)(GR:Nat)(r:PV):Prop:=L bp fn bf (inv1 a GR) r
theorem e0 (a : Rs) {r : PV}  (hL : ah a 0 r) : Cp 197 [ae a] r :=
 eG Tryz.func197 81 [1] [.q,.h 1 (iI (a.length:Int)),.aH [5,6,7]] (y1 (an af.cells a)) hL
theorem l10(a:Rs)(b:Nat)(v:af)(c:Int)(h1:b<a.length)(h2:a[b]? = some v)(h3:Cp 33 [v.pv] (vI c))(h4:c≠0):ah a b (vB false) :=
 lD 126 [1,3,1,1] [.a,.q,.t,.h 0 (.row b (af.cells v)),.h 1 (.pv (vI c)),.t,.q] (y4 (ai h1) (bO af.cells (Eq.refl (((b:Nat):Int):Int)) h2) h3 (gB h4))
theorem cV(a:Rs)(b:Nat)(v:af)(c:Int){r:PV}(h1:b<a.length)(h2:a[b]? = some v)(h3:Cp 33 [v.pv] (vI c))(h4:c=0)(h5:(b+1)<9223372036854775808)(hL:ah a (b+1) r):ah a b r :=
 lG 129 [1,3,1,1,1] [.a,.q,.t,.h 0 (.row b (af.cells v)),.h 1 (.pv (vI c)),.f,.h 0 (iI (((b+1):Nat):Int)),.aH [5,6,7],.drop [4]] (y5 (ai h1) (bO af.cells (Eq.refl (((b:Nat):Int):Int)) h2) h3 (gk h4) (aL h5)) hL
theorem kI(a:Rs)(b:Nat)(h1:a.length≤b):ah a b (vB true) :=
 lD 114 [1] [.a,.q,.f,.q] (y1 (ar h1))
end l4
namespace nX
@[reducible] noncomputable def fn:Func:=Tryz.f118
noncomputable def bf:List eg:=focus [0,2,0,2,0,2,0,0,2,0,0] [.code (ay fn)]
def inv1(n:Nat)(wid:List af)(Qf:Nat)(kX:List af):St:=⟨[(0,(.row 14 0 n 3)),(1,(.pv (ae wid))),(19,(eI (n:Int))),(20,(eI (Qf:Int)))],[(14,(.pure ((kX:List af).map af.cells).flatten))]⟩
@[reducible] noncomputable def ah(n:Nat)(wid:List af)(Qf:Nat)(kX:List af)(r:PV):Prop:=L bp fn bf (inv1 n wid Qf kX) r
theorem e0(a b z:Rs)(n:Nat)(c:Rs){r:PV}(h1:av bp 177 [.pv (ae a),.pv (vI (((max a.length b.length):Nat):Int))] [] (.row 0 0 n 3) [(0,(.pure ((z:Rs).map af.cells).flatten))])(h2:Cp 177 [ae b,(vI (((max a.length b.length):Nat):Int))] (ae c))(hL:ah n c 0 z r):Cp 118 [ae a,ae b] r :=
 eG Tryz.func118 93 [1,1,1,1,1] [.q,.aV [.o,(iI (a.length:Int)),.o,(iI (b.length:Int)),(iI (((max a.length b.length):Nat):Int))],.aV [.o,.o,(.bG [] (some (0,14)) (.row 0 0 n 3) [(0,(.pure ((z:Rs).map af.cells).flatten))]),.o,.o,(.pv (ae c))],.q,.aH [0,1,19,20]] (y5 (an af.cells a) (an af.cells b) (tW a.length b.length) h1 h2) hL
theorem l10(n:Nat)(b:Rs)(c:Nat)(d:Rs)(v v1 g:af){r:PV}(h1:c<n)(h2:d[c]? = some v)(h3:b[c]? = some v1)(h4:Cp 91 [v.pv,v1.pv] g.pv)(h5:c<d.length)(h6:(c+1)<9223372036854775808)(hL:ah n b (c+1) (d.set c g) r):ah n b c d r :=
 lG 132 [1,2,2,3,1,2,2,1] [.a,.q,.t,.q,dr 12 1 [.none,.none,.none,.none,(.nat c),(.GW [vB v.neg,aa v.num,aa v.den]),.none,.none,(.row c (af.cells v1)),.none,(.pv g.pv),(.nat c),(.cells (.pure (((d.set c g):Rs).map af.cells).flatten))],.h 0 (iI (((c+1):Nat):Int)),.aH [0,1,19,20]] (y8 (ai h1) (cj (Eq.refl (((c:Nat):Int):Int)) h1) (rB aZ h2) (bO af.cells (Eq.refl (((c:Nat):Int):Int)) h3) h4 (cj (Eq.refl (((c:Nat):Int):Int)) h1) (gm aZ (d:Rs) g h5) (aL h6)) hL
theorem cV(n:Nat)(b:Rs)(c:Nat)(d:Rs)(h1:n≤c)(h2:n=d.length):ah n b c d (ae d) :=
 lD 126 [1,3] [.a,.q,.f,.q,.fo 4 ((d:Rs).map af.cells)] (y2 (ar h1) (cU aZ (d:Rs) h2))
end nX
namespace AP
theorem e0(a:Rs)(n:Int)(m:Nat)(h1:n=(m:Int))(h2:56*m≤140737488355328)(h3:(min a.length m)≤(List.replicate m (⟨false,[],[]⟩:af):Rs).length)(h4:m=(a.take (min a.length m)++(List.replicate m (⟨false,[],[]⟩:af)).drop (min a.length m)).length):Cp 177 [ae a,vI n] (ae (a.take (min a.length m)++(List.replicate m (⟨false,[],[]⟩:af)).drop (min a.length m))) :=
 eD Tryz.func177 84 [5,4,3] [.q,.h 1 (.app m ((List.replicate m (⟨false,[],[]⟩:af):Rs).map af.cells).flatten),.h 2 (.app (min a.length m) (((a.take (min a.length m)++(List.replicate m (⟨false,[],[]⟩:af)).drop (min a.length m)):Rs).map af.cells).flatten),.q,.fo 4 (((a.take (min a.length m)++(List.replicate m (⟨false,[],[]⟩:af)).drop (min a.length m)):Rs).map af.cells)] (y3 (q9 af.cells (⟨false,[],[]⟩:af) 56 m h1 h2 rfl) (Kg aZ (List.replicate m (⟨false,[],[]⟩:af):Rs) (a:Rs) (Eq.refl (min a.length m)) h3) (cU aZ ((a.take (min a.length m)++(List.replicate m (⟨false,[],[]⟩:af)).drop (min a.length m)):Rs) h4))
end AP
namespace xJ
theorem e0(a:Rs)(n:Int)(m:Nat)(h1:n=(m:Int))(h2:56*m≤140737488355328)(h3:(min a.length m)≤(List.replicate m (⟨false,[],[]⟩:af):Rs).length):av bp 177 [(.pv (ae a)),eI n] [] (.row 0 0 m 3) [(0,(.pure ((((a.take (min a.length m)++(List.replicate m (⟨false,[],[]⟩:af)).drop (min a.length m)).take m):Rs).map af.cells).flatten))] :=
 IL Tryz.func177 84 [5,4,1] [.q,.h 1 (.app m ((List.replicate m (⟨false,[],[]⟩:af):Rs).map af.cells).flatten),.h 2 (.app (min a.length m) (((a.take (min a.length m)++(List.replicate m (⟨false,[],[]⟩:af)).drop (min a.length m)):Rs).map af.cells).flatten),.q,.ra 7 0,.cut 0 (m*3) ((((a.take (min a.length m)++(List.replicate m (⟨false,[],[]⟩:af)).drop (min a.length m)).take m):Rs).map af.cells).flatten,.ord [0]] (y3 (q9 af.cells (⟨false,[],[]⟩:af) 56 m h1 h2 rfl) (Kg aZ (List.replicate m (⟨false,[],[]⟩:af):Rs) (a:Rs) (Eq.refl (min a.length m)) h3) (tq aZ ((a.take (min a.length m)++(List.replicate m (⟨false,[],[]⟩:af)).drop (min a.length m)):Rs) m))
end xJ
namespace mB
@[reducible] noncomputable def fn:Func:=Tryz.f120
noncomputable def bf:List eg:=focus [0,2,0,2,0,0,2,0,0] [.code (ay fn)]
def inv1(a:List af)(Ag:Nat)(dS:List af):St:=⟨[(0,(.pv (ae a))),(3,(.row 7 0 a.length 3)),(9,(eI (a.length:Int))),(10,(eI (Ag:Int)))],[(7,(.pure ((dS:List af).map af.cells).flatten))]⟩
@[reducible] noncomputable def ah(a:List af)(Ag:Nat)(dS:List af)(r:PV):Prop:=L bp fn bf (inv1 a Ag dS) r
theorem e0(a:Rs){r:PV}(h1:56*a.length≤140737488355328)(hL:ah a 0 (List.replicate a.length (⟨false,[],[]⟩:af)) r):Cp 120 [ae a] r :=
 eG Tryz.func120 87 [1,5,1] [.q,.aV [.o,(iI (a.length:Int)),(.app a.length ((List.replicate a.length (⟨false,[],[]⟩:af):Rs).map af.cells).flatten)],.h 1 (iI (a.length:Int)),.aH [0,3,9,10]] (y3 (an af.cells a) (q9 af.cells (⟨false,[],[]⟩:af) 56 a.length (Eq.refl (((a.length:Nat):Int):Int)) h1 rfl) (an af.cells a)) hL
theorem l10(a:Rs)(b:Nat)(c:Rs)(v d:af){r:PV}(h1:b<a.length)(h2:a[b]? = some v)(h3:Cp 87 [v.pv] d.pv)(h4:b<c.length)(h5:(b+1)<9223372036854775808)(hL:ah a (b+1) (c.set b d) r):ah a b c r :=
 lG 126 [1,3,1,2,2,1] [.a,.q,.t,.q,.aV [.o,.o,.o,.o,(.row b (af.cells v)),.o,(.pv d.pv),(.nat b),(.cells (.pure (((c.set b d):Rs).map af.cells).flatten))],.h 0 (iI (((b+1):Nat):Int)),.aH [0,3,9,10]] (y6 (ai h1) (bO af.cells (Eq.refl (((b:Nat):Int):Int)) h2) h3 (cj (Eq.refl (((b:Nat):Int):Int)) h1) (gm aZ (c:Rs) d h4) (aL h5)) hL
theorem cV(a:Rs)(b:Nat)(c:Rs)(h1:a.length≤b)(h2:a.length=c.length):ah a b c (ae c) :=
 lD 120 [1,3] [.a,.q,.f,.q,.fo 2 ((c:Rs).map af.cells)] (y2 (ar h1) (cU aZ (c:Rs) h2))
end mB
namespace Cj
theorem e0(t:bn)(a b c:Rs)(h1:Cp 115 [t.pv,(cT (aC af.cells) [a])] .az)(h2:Cp 120 [ae a] (ae b))(h3:Cp 116 [ae b] (ae c)):Cp 179 [t.pv,ae a] (.aE [ae c,.az]) :=
 eD Tryz.func179 93 [3,1,1,1] [.q,.aV [.o,.o,(.iL 0 0 (([a]:List (Rs)).map (aC af.cells))),(.pv .az)],.q,.a,.aV [.o,(.pv (ae b)),(.pv (ae c))]] (y4 (ki (qh af.cells) ([a]:List (Rs))) h1 h2 h3)
end Cj
namespace Ck
theorem e0(t:bn)(a b c d:Rs)(h1:Cp 115 [t.pv,(cT (aC af.cells) [a,b])] .az)(h2:Cp 117 [t.pv,ae a,ae b] (ae c))(h3:Cp 116 [ae c] (ae d)):Cp 47 [t.pv,ae a,ae b] (.aE [ae d,.az]) :=
 eD Tryz.func47 93 [3,1,1,1] [.q,.aV [.o,.o,.o,(.iL 0 0 (([a,b]:List (Rs)).map (aC af.cells))),(.pv .az)],.q,.a,.aV [.o,.o,.o,(.pv (ae c)),(.pv (ae d))]] (y4 (ki (qh af.cells) ([a,b]:List (Rs))) h1 h2 h3)
end Ck
namespace Cl
theorem e0(t:bn)(a b c d g:Rs)(h1:Cp 115 [t.pv,(cT (aC af.cells) [a,b])] .az)(h2:Cp 120 [ae b] (ae c))(h3:Cp 118 [ae a,ae c] (ae d))(h4:Cp 116 [ae d] (ae g)):Cp 251 [t.pv,ae a,ae b] (.aE [ae g,.az]) :=
 eD Tryz.func251 93 [3,1,1,1,1] [.q,.aV [.o,.o,.o,(.iL 0 0 (([a,b]:List (Rs)).map (aC af.cells))),(.pv .az)],.q,.a,.aV [.o,.o,(.pv (ae c)),(.pv (ae d)),(.pv (ae g))]] (y5 (ki (qh af.cells) ([a,b]:List (Rs))) h1 h2 h3 h4)
end Cl
namespace Cm
theorem e0(t:bn)(a b c d:Rs)(h1:Cp 115 [t.pv,(cT (aC af.cells) [a,b])] .az)(h2:Cp 118 [ae a,ae b] (ae c))(h3:Cp 116 [ae c] (ae d)):Cp 48 [t.pv,ae a,ae b] (.aE [ae d,.az]) :=
 eD Tryz.func48 93 [3,1,1,1] [.q,.aV [.o,.o,.o,(.iL 0 0 (([a,b]:List (Rs)).map (aC af.cells))),(.pv .az)],.q,.a,.aV [.o,.o,(.pv (ae c)),(.pv (ae d))]] (y4 (ki (qh af.cells) ([a,b]:List (Rs))) h1 h2 h3)
end Cm
namespace Cn
theorem e2(t:bn)(a:Rs)(b:Bool)(c:Rs)(v:af)(h1:Cp 252 [t.pv,ae a] (vB b))(h2:b=true)(h3:Cp 116 [ae a] (ae c))(h4:c.length≠0)(h5:c.length=1)(h6:c[0]? = some v):Cp 181 [t.pv,ae a] (.aE [v.pv,vB true]) :=
 eD Tryz.func181 123 [1,1,1,1,1,1,3] [.q,.h 2 (.pv (vB b)),.f,.h 1 (.pv (ae c)),.h 1 (iI (c.length:Int)),.q,.f,.q,.t,.h 1 (.row 0 (af.cells v))] (y7 h1 (aU h2) h3 (an af.cells c) (aB h4) (aM h5) (bO af.cells (Eq.refl (0:Int)) h6))
end Cn
namespace xK
theorem e0(t:bn)(a:Rs)(h1:Cp 115 [t.pv,(cT (aC af.cells) [a])] .az):Cp 252 [t.pv,ae a] (vB true) :=
 eD Tryz.func252 72 [3,1] [.q,.aV [.o,.o,(.iL 0 0 (([a]:List (Rs)).map (aC af.cells))),(.pv .az)]] (y2 (ki (qh af.cells) ([a]:List (Rs))) h1)
end xK
namespace AQ
theorem e0(t:bn)(a b c:Rs)(h1:Cp 115 [t.pv,(cT (aC af.cells) [a])] .az)(h2:Cp 178 [ae a] (ae b))(h3:t.roots.length≤64)(h4:(1*2^t.roots.length)<9223372036854775808)(h5:Cp 177 [ae b,(vI (((1*2^t.roots.length):Nat):Int))] (ae c)):Cp 97 [t.pv,ae a] (.aE [ae c,.az]) :=
 eD Tryz.func97 93 [3,1,1,1,1,1] [.q,.aV [.o,.o,(.iL 0 0 (([a]:List (Rs)).map (aC af.cells))),(.pv .az)],.q,.a,dr 7 2 [.none,(.pv (ae b)),.none,.none,(iI (t.roots.length:Int)),(iI (((1*2^t.roots.length):Nat):Int)),(.pv (ae c))]] (y6 (ki (qh af.cells) ([a]:List (Rs))) h1 h2 (an (aC af.cells) t.roots) (fh (k := .i64) h3 h4) h5)
end AQ
namespace Fq
theorem e0(x a:af)(b:Rs)(h1:Cp 91 [x.pv,(⟨false,[],[]⟩:af).pv] a.pv)(h2:Cp 116 [(ae [a])] (ae b)):Cp 49 [x.pv] (ae b) :=
 eD Tryz.func49 72 [1,3,1] [.q,.aV [.o,.o,(.pv a.pv),(.iL 0 0 (([a]:Rs).map af.cells)),(.pv (ae b))]] (y3 h1 (ki aZ ([a]:Rs)) h2)
end Fq
end Go.Proofs.YtllmkadmohkbfaaGreatDoor.Sym.Path
namespace Go.Proofs.YtllmkadmohkbfaaGreatDoor.Sym
open Go Path bN
set_option linter.unusedVariables false
def DH(v:af):Bool := !v.neg&&v.num.isEmpty&&v.den.isEmpty
def Md(a:List af):Nat→List af
 |0=>if (a.take 1).all DH then [] else a.take 1
 |k+1=>if ((a.take (2^(k+1))).drop (2^k)).all DH then Md a k else a.take (2^(k+1))
theorem Fs{α:Type}{p:α→Bool}{l:List α}{t:Nat}{v:α}(h:l[t]? = some v):(l.drop t).all p=(p v&&(l.drop (t+1)).all p):=by
 rw[drop_cons h,List.all_cons]
namespace LD
theorem Co{k:Nat}(h:k≤10):1*2^k<9223372036854775808:=by
 have:2^k≤2^10:=Nat.pow_le_pow_right (by omega) h
 omega
theorem level{a:List af}{k:Nat}(hk:k≤10)(h:a.length=2^k):Cp 195 [ae a] (vI (k:Int)):=by
 have loop:∀d t:Nat,t+d=k→je.ah a t (vI (k:Int)):=by
  intro d
  induction d with
  |zero =>
   intro t ht
   have:t=k:=by omega
   subst this
   exact je.kI a t (by omega) (Co hk) (by omega) (by omega)
  |succ d ih =>
   intro t ht
   have:2^t<2^k:=Nat.pow_lt_pow_right (by omega) (by omega)
   exact je.l10 a t (by omega) (Co (by omega)) (by omega) (by omega) (ih (t+1) (by omega))
 exact je.e0 a (loop k 0 (by omega))
theorem I4:Cp 195 [ae []] (vI (-1)) :=
 je.e0 [] (je.cV [] 0 (by omega) (by decide) (by decide) (by decide))
theorem empty(a:List af)(hl:a.length≤1000):Cp 196 [ae a] (vB (a.all DH)):=by
 have loop:∀d t:Nat,a.length-t=d→gO.ah a t (vB ((a.drop t).all DH)):=by
  intro d
  induction d with
  |zero =>
   intro t hd
   rw[List.drop_of_length_le (by omega)]
   exact gO.GB a t (by omega)
  |succ d ih =>
   intro t hd
   obtain⟨v,hv⟩:∃v,a[t]? = some v:=⟨_,List.getElem?_eq_getElem (by omega)⟩
   rw[Fs hv]
   unfold DH
   by_cases h1:v.neg=true
   ·rw[h1]
    exact gO.l10 a t v (by omega) hv h1
   ·rw[Bool.not_eq_true] at h1
    rw[h1]
    by_cases h2:v.num=[]
    ·rw[h2]
     by_cases h3:v.den=[]
     ·rw[h3]
      exact gO.ta a t v (by omega) hv h1 (by rw[h2];simp) (by rw[h3];simp) (by omega) (ih (t+1) (by omega))
     ·rw[show v.den.isEmpty=false from by cases hh:v.den<;>simp_all]
      exact gO.kI a t v (by omega) hv h1 (by rw[h2];simp) (List.length_pos_iff.2 h3)
    ·rw[show v.num.isEmpty=false from by cases hh:v.num<;>simp_all]
     exact gO.cV a t v (by omega) hv h1 (List.length_pos_iff.2 h2)
 have:=loop _ 0 rfl
 rw[List.drop_zero] at this
 exact gO.e0 a this
theorem copied(a:List af)(hl:a.length≤1000)(hf:kr 1073741824 a):Cp 178 [ae a] (ae a):=by
 have loop:∀d t:Nat,a.length-t=d→t≤a.length→lC.ah (a.take t) a t (ae a):=by
  intro d
  induction d with
  |zero =>
   intro t hd ht
   rw[show a.take t=a from List.take_of_length_le (by omega)]
   exact lC.cV a a t (by omega)
  |succ d ih =>
   intro t hd ht
   obtain⟨v,hv⟩:∃v,a[t]? = some v:=⟨_,List.getElem?_eq_getElem (by omega)⟩
   have:=ih (t+1) (by omega) (by omega)
   rw[List.take_add_one,hv] at this
   have f:=hf v (List.mem_of_getElem? hv)
   exact lC.l10 _ a t v (by omega) hv (by rw[List.nil_append];have:=f.1;omega) (by rw[List.nil_append];have:=f.2;omega) (by rw[List.length_append,List.length_take,List.length_singleton];omega) (by omega) this
 exact lC.e0 a (loop _ 0 rfl (by omega))
theorem I5:Cp 116 [ae []] (ae []) :=
 gf.e3 [] (-1) I4 (by decide) (gf.Vy [] 0 [] (by omega) (by omega) (by decide) (copied [] (by decide) (by intro x h;cases h)))
theorem LF{a:List af}{k:Nat}(hk:k≤5)(h:a.length=2^k)(hf:kr 1073741824 a):Cp 116 [ae a] (ae (Md a k)):=by
 have tk:∀n,kr 1073741824 (a.take n):=fun n x hx=>hf x (List.mem_of_mem_take hx)
 have b5:2^k≤2^5:=Nat.pow_le_pow_right (by omega) hk
 have loop:∀t:Nat,t≤k→gf.ah a (2^t) (ae (Md a t)):=by
  intro t
  induction t with
  |zero =>
   intro _
   have p0:0<2^k:=Nat.two_pow_pos _
   have e:=empty (a.take 1) (by rw[List.length_take];omega)
   unfold Md
   by_cases hb:(a.take 1).all DH=true
   ·rw[if_pos hb]
    exact gf.GB a 1 _ (by omega) rfl (by omega) e hb
   ·rw[if_neg hb]
    exact gf.Vx a 1 _ _ (by omega) rfl (by omega) e (by rwa[Bool.not_eq_true] at hb) (by omega) (copied _ (by rw[List.length_take];omega) (tk 1))
  |succ t ih =>
   intro ht
   have le:2^(t+1)≤2^k:=Nat.pow_le_pow_right (by omega) ht
   have p0:0<2^t:=Nat.two_pow_pos _
   have hh:2^(t+1)/2=2^t:=by rw[Nat.pow_succ];omega
   have h2:1<2^(t+1):=by rw[Nat.pow_succ];omega
   have e:=empty ((a.take (2^(t+1))).drop (2^t)) (by rw[List.length_drop,List.length_take];omega)
   unfold Md
   by_cases hb:((a.take (2^(t+1))).drop (2^t)).all DH=true
   ·rw[if_pos hb]
    exact gf.l10 a _ _ h2 (by omega) (by omega) (by omega) (by rw[hh];exact e) hb (by rw[hh];exact ih (by omega))
   ·rw[if_neg hb]
    exact gf.ta a _ _ _ h2 (by omega) (by omega) (by omega) (by rw[hh];exact e) (by rwa[Bool.not_eq_true] at hb) (by omega) (copied _ (by rw[List.length_take];omega) (tk _))
 have:=loop k (Nat.le_refl _)
 rw[←h] at this
 have p0:0<2^k:=Nat.two_pow_pos _
 exact gf.e2 a (k:Int) (level (by omega) h) (by omega) (by omega) (by omega) this
end LD
end Go.Proofs.YtllmkadmohkbfaaGreatDoor.Sym
namespace Go.Proofs.YtllmkadmohkbfaaGreatDoor.Sym
open Go Path bN
set_option linter.unusedVariables false
def ya(q:List Rat):Bool:=q.all (fun x=>decide (x=0))
def qY(q:List Rat)(n:Nat):List Rat:=q.take n++List.replicate (n-q.length) 0
def H9(p q:List Rat):List Rat:=List.zipWith (·+·) (qY p (max p.length q.length)) (qY q (max p.length q.length))
theorem sX(q:List Rat)(n:Nat):(qY q n).length=n:=by unfold qY;rw[List.length_append,List.length_take,List.length_replicate];omega
theorem vc{α:Type}{l1 l2:List α}{v w:α}{t:Nat}(h:l1.length=t):(l1++v::l2).set t w=(l1++[w])++l2:=by
 subst h
 simp
namespace LD
theorem zero(q:List Rat)(hl:q.length≤1000)(hf:Fl 68719476736 q):Cp 197 [pq q] (vB (ya q)):=by
 have loop:∀d t:Nat,q.length-t=d→l4.ah (q.map aN) t (vB (ya (q.drop t))):=by
  intro d
  induction d with
  |zero =>
   intro t hd
   rw[List.drop_of_length_le (by omega)]
   exact l4.kI _ t (by rw[List.length_map];omega)
  |succ d ih =>
   intro t hd
   obtain⟨v,hv⟩:∃v,q[t]? = some v:=⟨_,List.getElem?_eq_getElem (by omega)⟩
   have BP:(q.map aN)[t]? = some (aN v):=by rw[List.getElem?_map,hv];rfl
   have s:=QF.Sign v (hf v (List.mem_of_getElem? hv))
   unfold ya
   rw[Fs hv]
   by_cases h0:v=0
   ·rw[decide_eq_true h0]
    exact l4.cV _ t _ _ (by rw[List.length_map];omega) BP s (eS.2 h0) (by omega) (ih (t+1) (by omega))
   ·rw[decide_eq_false h0]
    exact l4.l10 _ t _ _ (by rw[List.length_map];omega) BP s (fun e=>h0 (eS.1 e))
 have:=loop _ 0 rfl
 rw[List.drop_zero] at this
 exact l4.e0 _ this
theorem minus(q:List Rat)(hl:q.length≤1000)(hf:Fl 68719476736 q):Cp 120 [pq q] (pq (q.map (- ·))):=by
 have loop:∀d t:Nat,q.length-t=d→t≤q.length→mB.ah (q.map aN) t (((q.take t).map (- ·)).map aN++List.replicate d (⟨false,[],[]⟩:af)) (pq (q.map (- ·))):=by
  intro d
  induction d with
  |zero =>
   intro t hd ht
   rw[show q.take t=q from List.take_of_length_le (by omega),List.replicate_zero,List.append_nil]
   exact mB.cV _ t _ (by rw[List.length_map];omega) (by simp)
  |succ d ih =>
   intro t hd ht
   obtain⟨v,hv⟩:∃v,q[t]? = some v:=⟨_,List.getElem?_eq_getElem (by omega)⟩
   have BP:(q.map aN)[t]? = some (aN v):=by rw[List.getElem?_map,hv];rfl
   have s:=QF.Neg v (hf v (List.mem_of_getElem? hv))
   have:=ih (t+1) (by omega) (by omega)
   rw[List.take_add_one,hv] at this
   refine mB.l10 _ t _ _ _ (by rw[List.length_map];omega) BP s (by simp;omega) (by omega) ?_
   rw[List.replicate_succ,vc (by simp;omega)]
   simpa using this
 have:=loop _ 0 rfl (by omega)
 refine mB.e0 _ (by rw[List.length_map];omega) ?_
 rw[List.length_map]
 simpa using this
theorem DI(q:List Rat)(n:Nat):(q.map aN).take (min (q.map aN).length n)++(List.replicate n (⟨false,[],[]⟩:af)).drop (min (q.map aN).length n)=(qY q n).map aN:=by
 unfold qY
 rw[List.map_append,List.map_take,List.map_replicate,pG,List.length_map,List.drop_replicate]
 by_cases h:q.length≤n
 ·rw[Nat.min_eq_left h,List.take_of_length_le (by simp),List.take_of_length_le (by simp;omega)]
 ·rw[Nat.min_eq_right (by omega),Nat.sub_self,show n-q.length=0 from by omega]
theorem wide(q:List Rat)(n:Nat)(hn:n≤1000):Cp 177 [pq q,vI (n:Int)] (pq (qY q n)):=by
 have:=AP.e0 (q.map aN) (n:Int) n rfl (by omega) (by rw[List.length_replicate];omega) (by rw[DI,List.length_map,sX])
 rwa[DI] at this
theorem Sp(q:List Rat)(n:Nat)(hn:n≤1000):av bp 177 [.pv (pq q),.pv (vI (n:Int))] [] (.row 0 0 n 3) [(0,(.pure ((((qY q n).map aN):List af).map af.cells).flatten))]:=by
 have:=xJ.e0 (q.map aN) (n:Int) n rfl (by omega) (by rw[List.length_replicate];omega)
 rwa[DI,List.take_of_length_le (by rw[List.length_map,sX];omega)] at this
end LD
end Go.Proofs.YtllmkadmohkbfaaGreatDoor.Sym
namespace Go.Proofs.YtllmkadmohkbfaaGreatDoor.Sym
open Go Path bN
set_option linter.unusedVariables false
theorem Ia{H:Nat}{q:List Rat}(n:Nat)(h:Fl H q)(h1:1≤H):Fl H (qY q n):=fun x hx=>by
 unfold qY at hx
 rcases List.mem_append.1 hx with hx|hx
 ·exact h x (List.mem_of_mem_take hx)
 ·rw[(List.mem_replicate.1 hx).2]
  exact Nat.le_trans (show ht 0≤1 by decide) h1
theorem Ib(x:Rat):DH (aN x)=decide (x=0):=by
 by_cases h:x=0
 ·subst h;rfl
 ·rw[decide_eq_false h]
  refine Bool.eq_false_iff.2 fun e=>h ?_
  apply HB
  rw[pG]
  unfold DH at e
  rcases hm:aN x with ⟨a,b,c⟩
  rw[hm] at e
  simp at e
  obtain⟨⟨rfl,rfl⟩,rfl⟩:=e
  rfl
namespace LD
theorem plus(p q:List Rat)(hp:p.length≤1000)(hq:q.length≤1000)(fp:Fl 68719476736 p)(fq:Fl 68719476736 q):Cp 118 [pq p,pq q] (pq (H9 p q)):=by
 unfold H9
 have ln:max (p.map aN).length (q.map aN).length=max p.length q.length:=by rw[List.length_map,List.length_map]
 generalize hn:max p.length q.length=n at *
 have wx:=Sp p n (by omega)
 have w:=wide q n (by omega)
 have hA:=sX p n
 have hB:=sX q n
 have fA:=Ia n fp (by omega)
 have fB:=Ia n fq (by omega)
 generalize qY p n=A at *
 generalize qY q n=B at *
 have loop:∀d t:Nat,n-t=d→t≤n→nX.ah n (B.map aN) t ((List.zipWith (·+·) (A.take t) (B.take t)++A.drop t).map aN) (pq (List.zipWith (·+·) A B)):=by
  intro d
  induction d with
  |zero =>
   intro t hd ht
   rw[show A.take t=A from List.take_of_length_le (by omega),show B.take t=B from List.take_of_length_le (by omega),List.drop_of_length_le (by omega),List.append_nil]
   exact nX.cV n _ t _ (by omega) (by simp;omega)
  |succ d ih =>
   intro t hd ht
   obtain⟨v,hv⟩:∃v,A[t]? = some v:=⟨_,List.getElem?_eq_getElem (by omega)⟩
   obtain⟨u,hu⟩:∃v,B[t]? = some v:=⟨_,List.getElem?_eq_getElem (by omega)⟩
   have hl:(List.zipWith (·+·) (A.take t) (B.take t)).length=t:=by simp;omega
   have:=ih (t+1) (by omega) (by omega)
   rw[List.take_add_one,List.take_add_one,hv,hu] at this
   refine nX.l10 n _ t _ (aN v) (aN u) (aN (v+u)) (by omega) ?_ (by rw[List.getElem?_map,hu];rfl) (QF.Add v u (fA v (List.mem_of_getElem? hv)) (fB u (List.mem_of_getElem? hu))) (by simp;omega) (by omega) ?_
   ·rw[List.getElem?_map,List.getElem?_append_right (by omega),hl,Nat.sub_self,List.getElem?_drop,Nat.add_zero,hv];rfl
   ·rw[drop_cons hv,List.map_append,List.map_cons,vc (by rw[List.length_map];exact hl)]
    rw[List.zipWith_append (by simp;omega)] at this
    simpa using this
 have:=loop _ 0 rfl (by omega)
 refine nX.e0 _ _ (A.map aN) n (B.map aN) (by rw[ln];exact wx) (by rw[ln];exact w) ?_
 simpa using this
theorem Sr{H:Nat}{q:List Rat}(h:Fl H q)(h1:H≤68719476736):Fl 68719476736 q:=fun x hx=>Nat.le_trans (h x hx) h1
theorem number(t:bn)(q:List Rat)(hf:Fl 68719476736 q)(ht:t.roots.length≤10)(hl:q=[]∨∃k,k≤t.roots.length∧q.length=2^k):Cp 194 [t.pv,pq q] .az:=by
 have hlen:q.length≤1024:=by
  rcases hl with rfl|⟨k,h1,h2⟩
  ·simp
  ·have:2^k≤2^10:=Nat.pow_le_pow_right (by omega) (by omega)
   omega
 have loop:∀d t:Nat,q.length-t=d→jw.ah (q.map aN) t .az:=by
  intro d
  induction d with
  |zero =>
   intro t hd
   exact jw.kI _ t (by rw[List.length_map];omega)
  |succ d ih =>
   intro t hd
   obtain⟨v,hv⟩:∃v,q[t]? = some v:=⟨_,List.getElem?_eq_getElem (by omega)⟩
   have BP:(q.map aN)[t]? = some (aN v):=by rw[List.getElem?_map,hv];rfl
   exact jw.cV _ t _ _ (by rw[List.length_map];omega) BP (QF.Valid v (hf v (List.mem_of_getElem? hv))) rfl (by omega) (ih (t+1) (by omega))
 rcases hl with rfl|⟨k,h1,h2⟩
 ·exact jw.e3 t _ (by simp) (loop _ 0 rfl)
 ·have p0:0<2^k:=Nat.two_pow_pos _
  exact jw.e2 t _ (k:Int) (by rw[List.length_map];omega) (level (by omega) (by rw[List.length_map];exact h2)) (by omega) (by omega) (loop _ 0 rfl)
def NC(q:List Rat):List Rat:=if ya q then [] else q
theorem w7(q:List Rat)(hl:q.length≤1)(hf:Fl 1073741824 q):Cp 116 [pq q] (pq (NC q)):=by
 match q,hl with
 |[],_=>exact I5
 |[x],_ =>
  have:=LF (a:=[aN x]) (k:=0) (by omega) rfl (fun y hy=>by
   have:=List.mem_singleton.1 hy
   subst this
   have:=bk (hf x (by simp))
   exact⟨Nat.le_trans this.1 (by omega),Nat.le_trans this.2 (by omega)⟩)
  unfold Md at this
  unfold NC ya
  rw[show ([aN x]:List af).take 1=[aN x] from rfl] at this
  by_cases h:x=0
  ·rw[if_pos (by simp[h])]
   rwa[if_pos (by simp[Ib,h])] at this
  ·rw[if_neg (by simp[h])]
   rwa[if_neg (by simp[Ib,h])] at this
def Qg(p q:List Rat):List Rat:=if ya p||ya q then [] else [p.headD 0*q.headD 0]
theorem Qh(t:bn)(p q:List Rat)(hp:p.length≤1)(hq:q.length≤1)(fp:Fl 68719476736 p)(fq:Fl 68719476736 q):Cp 117 [t.pv,pq p,pq q] (pq (Qg p q)):=by
 have zp:=zero p (by omega) fp
 have zq:=zero q (by omega) fq
 unfold Qg
 by_cases h:p.length<q.length
 ·have hZ:p=[]:=List.eq_nil_of_length_eq_zero (by omega)
  subst hZ
  rw[show ya []=true from rfl,Bool.true_or,if_pos rfl]
  by_cases hz:ya q=true
  ·exact kE.e0 t _ _ _ (by simpa using h) zq hz
  ·exact kE.e1 t _ _ _ _ (by simpa using h) zq (by rwa[Bool.not_eq_true] at hz) zp rfl
 ·by_cases hz:ya p=true
  ·rw[hz,Bool.true_or,if_pos rfl]
   exact kE.e5 t _ _ _ (by simpa using h) zp hz
  ·rw[Bool.not_eq_true] at hz
   rw[hz,Bool.false_or]
   by_cases hy:ya q=true
   ·rw[if_pos hy]
    exact kE.e6 t _ _ _ _ (by simpa using h) zp hz zq hy
   ·rw[if_neg hy]
    rw[Bool.not_eq_true] at hy
    rcases p with _|⟨x,p⟩
    ·cases hz
    rcases q with _|⟨y,q⟩
    ·cases hy
    have e1:p=[]:=List.eq_nil_of_length_eq_zero (by rw[List.length_cons] at hp;omega)
    have e2:q=[]:=List.eq_nil_of_length_eq_zero (by rw[List.length_cons] at hq;omega)
    subst e1 e2
    have m:=QF.Mul x y (fp x (by simp)) (fq y (by simp))
    exact kE.e7 t [aN x] [aN y] _ _ (aN x) (aN y) (aN (x*y)) (by simp) zp hz zq hy (by simp) (by simp) (by simp) m
end LD
end Go.Proofs.YtllmkadmohkbfaaGreatDoor.Sym
namespace Go.Proofs.YtllmkadmohkbfaaGreatDoor.Sym.Path
open Go
set_option maxRecDepth 20000
set_option linter.unusedVariables false
namespace cE
@[reducible] noncomputable def fn:Func:=Tryz.f98
noncomputable def bf:List eg:=focus [0,2,0,2,0,2,0,0,0] [.code (ay fn)]
def inv1(Vz:List af)(DJ:Nat)(t:bn):St:=⟨[(2,(.ptr 2 0)),(6,(.pv (ae Vz))),(7,(eI (DJ:Int)))],[(2,(.lit [(.pv (cT (aC af.cells) t.roots))]))]⟩
@[reducible] noncomputable def ah(Vz:List af)(DJ:Nat)(t:bn)(r:PV):Prop:=L bp fn bf (inv1 Vz DJ t) r
noncomputable def nD:List eg:=focus [0,2,0,2,0,2,0,0,0,0,0,0,2,1,2,2,2,2,0,2,0,0,2,1,2,0,2,0,0,2,0,0] [.code (ay fn)]
def inv2(Qi:List (List af))(Qj:Int)(t:bn):St:=⟨[(2,(.ptr 2 0)),(10,(.pv (cT (aC af.cells) Qi))),(11,(eI Qj))],[(2,(.lit [(.pv (cT (aC af.cells) t.roots))]))]⟩
@[reducible] noncomputable def bA(Qi:List (List af))(Qj:Int)(t:bn)(r:PV):Prop:=L bp fn nD (inv2 Qi Qj t) r
noncomputable def KE:List eg:=focus [0,2,0,2,0,2,0,0,0,0,0,0,2,1,2,2,2,2,0,2,0,0,2,1,2,0,2,0,0,2,0,0,0,0,0,2,1,2,2,2,2,0,2,0,0,2,0,0] [.code (ay fn)]
def KF(yE:List af)(Qk:List (List af))(Ql Qm:Nat)(t:bn):St:=⟨[(2,(.ptr 2 0)),(12,(.row 72 0 yE.length 3)),(54,(.pv (cT (aC af.cells) Qk))),(55,(eI (Ql:Int))),(56,(eI (Qm:Int)))],[(2,(.lit [(.pv (cT (aC af.cells) t.roots))])),(72,(.pure ((yE:List af).map af.cells).flatten))]⟩
@[reducible] noncomputable def lJ(yE:List af)(Qk:List (List af))(Ql Qm:Nat)(t:bn)(r:PV):Prop:=L bp fn KE (KF yE Qk Ql Qm t) r
theorem e0(t:bn)(x a:Rs){r:PV}(h1:Cp 116 [ae x] (ae a))(hL:ah a 0 t r):Cp 98 [t.pv,ae x] r :=
 eG Tryz.func98 87 [1] [.q,.h 1 (.pv (ae a)),.q,.aH [2,6,7]] (y1 h1) hL
theorem l10(b:Rs)(c:Nat)(t:bn){r:PV}(h1:c≤64)(h2:(1*2^c)<9223372036854775808)(h3:(1*2^c)<b.length)(h4:(c+1)<9223372036854775808)(hL:ah b (c+1) t r):ah b c t r :=
 lG 114 [1,1,1,1] [.a,.aV [.o,(iI (((1*2^c):Nat):Int)),.o,(iI (b.length:Int))],.t,.h 1 (iI (((c+1):Nat):Int)),.aH [2,6,7]] (y4 (fh (k := .i64) h1 h2) (an af.cells b) (ai h3) (aL h4)) hL
theorem cV(b:Rs)(c:Nat)(t:bn)(d:Rs)(of:af)(g:Rs){r:PV}(h1:c≤64)(h2:(1*2^c)<9223372036854775808)(h3:b.length≤(1*2^c))(h4:Cp 179 [t.pv,ae b] (.aE [ae d,.az]))(h5:Cp 46 [vI 1] of.pv)(h6:Cp 49 [of.pv] (ae g))(hL:bA [d,g] (c:Int) t r):ah b c t r :=
 lG 156 [1,1,1,1,1,1,3] [.a,.aV [.o,(iI (((1*2^c):Nat):Int)),.o,(iI (b.length:Int))],.f,.h 2 (.pv (.aE [ae d,.az])),.q,.a,.aV [.o,(.pv of.pv),(.pv (ae g))],.q,.fo 10 (([d,g]:List (Rs)).map (aC af.cells)),.aH [2,10,11]] (y7 (fh (k := .i64) h1 h2) (an af.cells b) (ar h3) h4 h5 h6 (cU (qh af.cells) ([d,g]:List (Rs)) (Eq.refl ([d,g]:List (Rs)).length))) hL
theorem yj(b:List (Rs))(c:Int)(t:bn)(d:List (Rs)){r:PV}(h1:0<c)(h2:Cp 180 [t.pv,(cT (aC af.cells) b),vI c] (.aE [(cT (aC af.cells) d),.az]))(h3:ax (c-1))(hL:bA d (c-1) t r):bA b c t r :=
 lG 204 [1,1,1] [.a,.q,.t,.h 3 (.pv (.aE [(cT (aC af.cells) d),.az])),.q,.a,.h 1 (iI (c-1)),.aH [2,10,11]] (y3 (bY h1) h2 (aW h3)) hL
theorem Kt(b:List (Rs))(c:Int)(t:bn){r:PV}(h1:c≤0)(hL:lJ [] b b.length 0 t r):bA b c t r :=
 lG 204 [1,1] [.a,.q,.f,.h 0 .nil,.jM 12 72 3,.h 1 (iI (b.length:Int)),.aH [2,12,54,55,56],.ord [2,72]] (y2 (bD h1) (an (aC af.cells) b)) hL
theorem R2(b:Rs)(c:List (Rs))(d g:Nat)(t:bn)(v:Rs)(i:af)(j:Bool){r:PV}(h1:g<d)(h2:c[g]? = some v)(h3:Cp 181 [t.pv,ae v] (.aE [i.pv,vB j]))(h4:j=true)(h5:((b++[i]):Rs).length*56≤140737488355328)(h6:(g+1)<9223372036854775808)(hL:lJ (b++[i]) c d (g+1) t r):lJ b c d g t r :=
 lG 264 [1,3,1,1,6,1] [.a,.q,.t,.h 0 (.row g ((aC af.cells) v)),.h 2 (.pv (.aE [i.pv,vB j])),.q,.f,.h 3 (.app ((b++[i]):Rs).length (((b++[i]):Rs).map af.cells).flatten),.h 0 (iI (((g+1):Nat):Int)),.aH [2,12,54,55,56],.drop [71,15],.ord [2,72]] (y6 (ai h1) (bO (aC af.cells) (Eq.refl (((g:Nat):Int):Int)) h2) h3 (aU h4) (gR aZ (b:Rs) ([i]:Rs) 56 (Eq.refl (b:Rs).length) (Eq.refl ([i]:Rs).length) h5 rfl) (aL h6)) hL
theorem YB(b:Rs)(c:List (Rs))(d g:Nat)(t:bn)(i:Rs)(h1:d≤g)(h2:Cp 182 [ae b] (ae i)):lJ b c d g t (.aE [ae i,.az]) :=
 lD 237 [1,3,1] [.a,.q,.f,.fo 12 ((b:Rs).map af.cells),.h 1 (.pv (ae i))] (y3 (ar h1) (cU aZ (b:Rs) (Eq.refl (b:Rs).length)) h2)
end cE
namespace cq
@[reducible] noncomputable def fn:Func:=Tryz.f180
noncomputable def bf:List eg:=focus [0,2,0,2,0,2,0,0,2,0,0] [.code (ay fn)]
def inv1(c:List (List af))(j:Int)(k:Nat)(cW cX:List (List af))(vo:Nat)(t:bn):St:=⟨[(1,(.pv (cT (aC af.cells) c))),(2,(eI j)),(3,(.ptr 3 0)),(8,(eI (((1*2^k):Nat):Int))),(9,(.row 44 0 cW.length 1)),(10,(.row 50 0 cX.length 1)),(23,(.pv (cT (aC af.cells) c))),(24,(eI (c.length:Int))),(25,(eI (vo:Int)))],[(3,(.lit [(.pv (cT (aC af.cells) t.roots))])),(44,(.pure ((cW:List (List af)).map (aC af.cells)).flatten)),(50,(.pure ((cX:List (List af)).map (aC af.cells)).flatten))]⟩
@[reducible] noncomputable def ah(c:List (List af))(j:Int)(k:Nat)(cW cX:List (List af))(vo:Nat)(t:bn)(r:PV):Prop:=L bp fn bf (inv1 c j k cW cX vo t) r
noncomputable def nD:List eg:=focus [0,2,0,2,0,2,0,0,2,0,0,0,0,2,0,1,2,2,2,2,0,2,0,0,2,0,0] [.code (ay fn)]
def inv2(c:List (List af))(j:Int)(cW cX:List (List af))(m Bn:Nat)(t:bn)(mc:List (List af)):St:=⟨[(1,(.pv (cT (aC af.cells) c))),(2,(eI j)),(3,(.ptr 3 0)),(9,(.row 44 0 cW.length 1)),(10,(.row 50 0 cX.length 1)),(14,(.row 56 0 m 1)),(58,(eI (c.length:Int))),(59,(eI (Bn:Int)))],[(3,(.lit [(.pv (cT (aC af.cells) t.roots))])),(44,(.pure ((cW:List (List af)).map (aC af.cells)).flatten)),(50,(.pure ((cX:List (List af)).map (aC af.cells)).flatten)),(56,(.pure ((mc:List (List af)).map (aC af.cells)).flatten))]⟩
@[reducible] noncomputable def bA(c:List (List af))(j:Int)(cW cX:List (List af))(m Bn:Nat)(t:bn)(mc:List (List af))(r:PV):Prop:=L bp fn nD (inv2 c j cW cX m Bn t mc) r
noncomputable def KE:List eg:=focus [0,2,0,2,0,2,0,0,2,0,0,0,0,2,0,1,2,2,2,2,0,2,0,0,2,0,0,0,0,2,0,0,2,0,0,0,2,0,2,0,0] [.code (ay fn)]
def KF(c:List (List af))(j:Int)(cW cX:List (List af))(m I6 Bn x6:Nat)(t:bn)(mc:List (List af)):St:=⟨[(1,(.pv (cT (aC af.cells) c))),(2,(eI j)),(3,(.ptr 3 0)),(9,(.row 44 0 cW.length 1)),(10,(.row 50 0 cX.length 1)),(14,(.row 56 0 m 1)),(15,(eI (I6:Int))),(58,(eI (c.length:Int))),(59,(eI (Bn:Int))),(63,(eI (c.length:Int))),(64,(eI (x6:Int)))],[(3,(.lit [(.pv (cT (aC af.cells) t.roots))])),(44,(.pure ((cW:List (List af)).map (aC af.cells)).flatten)),(50,(.pure ((cX:List (List af)).map (aC af.cells)).flatten)),(56,(.pure ((mc:List (List af)).map (aC af.cells)).flatten))]⟩
@[reducible] noncomputable def lJ(c:List (List af))(j:Int)(cW cX:List (List af))(m I6 Bn x6:Nat)(t:bn)(mc:List (List af))(r:PV):Prop:=L bp fn KE (KF c j cW cX m I6 Bn x6 t mc) r
theorem e0(t:bn)(c:List (Rs))(j:Int)(k:Nat){r:PV}(h1:ax (j-1))(h2:(j-1)=(k:Int))(h3:k≤64)(h4:(1*2^k)<9223372036854775808)(hL:ah c j k [] [] 0 t r):Cp 180 [t.pv,(cT (aC af.cells) c),vI j] r :=
 eG Tryz.func180 93 [1,1,1] [.q,.aV [.o,(iI (j-1)),(iI (((1*2^k):Nat):Int))],.aV [.nil,.nil],.jM 9 44 1,.jM 10 50 1,.h 1 (iI (c.length:Int)),.aH [1,2,3,8,9,10,23,24,25],.ord [3,44,50]] (y3 (aW h1) (MT h2 (fh (k := .i64) h3 h4)) (an (aC af.cells) c)) hL
theorem AO(c:List (List af))(j:Int)(k:Nat)(cW cX:List (List af))(vo:Nat)(t:bn)(v:List af)(m:Nat):wA bp mU fn.ntmps (bC (focus [0,2,0,2,0,2,0,0,2,0,0,0,0,2,0,0,2,0,0,0,2,0,2] [.code (ay fn)])) (mf (bC (focus [0,2,0,2,0,2,0,0,2,0,0,0,0,2,0,0,2,0,0,0,2,0,2] [.code (ay fn)])) [0,1,2,6,7,8]) (jN (bC (focus [0,2,0,2,0,2,0,0,2,0,0,0,0,2,0,0,2,0,0,0,2,0,2] [.code (ay fn)])) [0,1,2,6,7,8]) [.none,.none,.none,(.iL 0 (1*2^k) (((((v:List af)++List.replicate m (⟨false,[],[]⟩:af)).take (1*2^k)):List af).map af.cells)),.none,(.app ((cW++[(((v:List af)++List.replicate m (⟨false,[],[]⟩:af)).take (1*2^k))]):List (List af)).length (((cW++[(((v:List af)++List.replicate m (⟨false,[],[]⟩:af)).take (1*2^k))]):List (List af)).map (aC af.cells)).flatten),.none,.none,.none,(.iL (1*2^k) ((((v:List af)++List.replicate m (⟨false,[],[]⟩:af)):List af).length) (((((v:List af)++List.replicate m (⟨false,[],[]⟩:af)).drop (1*2^k)):List af).map af.cells)),.none,(.app ((cX++[(((v:List af)++List.replicate m (⟨false,[],[]⟩:af)).drop (1*2^k))]):List (List af)).length (((cX++[(((v:List af)++List.replicate m (⟨false,[],[]⟩:af)).drop (1*2^k))]):List (List af)).map (aC af.cells)).flatten),.none,.none] (BF mU fn.ntmps (bC (focus [0,2,0,2,0,2,0,0,2,0,0,0,0,2,0,0,2,0,0,0,2,0,2] [.code (ay fn)])) [0,1,2,6,7,8] ⟨[(1,(.pv (cT (aC af.cells) c))),(2,(eI j)),(3,(.ptr 3 0)),(8,(eI (((1*2^k):Nat):Int))),(9,(.row 44 0 cW.length 1)),(10,(.row 50 0 cX.length 1)),(13,(.pv (ae ((v:List af)++List.replicate m (⟨false,[],[]⟩:af))))),(23,(.pv (cT (aC af.cells) c))),(24,(eI (c.length:Int))),(25,(eI (vo:Int)))],[(3,(.lit [(.pv (cT (aC af.cells) t.roots))])),(44,(.pure ((cW:List (List af)).map (aC af.cells)).flatten)),(50,(.pure ((cX:List (List af)).map (aC af.cells)).flatten))]⟩)=wB bp mU fn.ntmps (bC (focus [0,2,0,2,0,2,0,0,2,0,0,0,0,2,0,0,2,0,0,0,2,0,2] [.code (ay fn)])) (mf (bC (focus [0,2,0,2,0,2,0,0,2,0,0,0,0,2,0,0,2,0,0,0,2,0,2] [.code (ay fn)])) [0,1,2,6,7,8]) (jN (bC (focus [0,2,0,2,0,2,0,0,2,0,0,0,0,2,0,0,2,0,0,0,2,0,2] [.code (ay fn)])) [0,1,2,6,7,8]) [.none,.none,.none,(.iL 0 (1*2^k) (((((v:List af)++List.replicate m (⟨false,[],[]⟩:af)).take (1*2^k)):List af).map af.cells)),.none,(.app ((cW++[(((v:List af)++List.replicate m (⟨false,[],[]⟩:af)).take (1*2^k))]):List (List af)).length (((cW++[(((v:List af)++List.replicate m (⟨false,[],[]⟩:af)).take (1*2^k))]):List (List af)).map (aC af.cells)).flatten),.none,.none,.none,(.iL (1*2^k) ((((v:List af)++List.replicate m (⟨false,[],[]⟩:af)):List af).length) (((((v:List af)++List.replicate m (⟨false,[],[]⟩:af)).drop (1*2^k)):List af).map af.cells)),.none,(.app ((cX++[(((v:List af)++List.replicate m (⟨false,[],[]⟩:af)).drop (1*2^k))]):List (List af)).length (((cX++[(((v:List af)++List.replicate m (⟨false,[],[]⟩:af)).drop (1*2^k))]):List (List af)).map (aC af.cells)).flatten),.none,.none] (BF mU fn.ntmps (bC (focus [0,2,0,2,0,2,0,0,2,0,0,0,0,2,0,0,2,0,0,0,2,0,2] [.code (ay fn)])) [0,1,2,6,7,8] ⟨[(1,(.pv (cT (aC af.cells) c))),(2,(eI j)),(3,(.ptr 3 0)),(8,(eI (((1*2^k):Nat):Int))),(9,(.row 44 0 cW.length 1)),(10,(.row 50 0 cX.length 1)),(13,(.pv (ae ((v:List af)++List.replicate m (⟨false,[],[]⟩:af))))),(23,(.pv (cT (aC af.cells) c))),(24,(eI (c.length:Int))),(25,(eI (vo:Int)))],[(3,(.lit [(.pv (cT (aC af.cells) t.roots))])),(44,(.pure ((cW:List (List af)).map (aC af.cells)).flatten)),(50,(.pure ((cX:List (List af)).map (aC af.cells)).flatten))]⟩):=by kernel_rfl
theorem l10(c:List (Rs))(j:Int)(k:Nat)(b d:List (Rs))(g:Nat)(t:bn)(v:Rs)(m:Nat){r:PV}(h1:g<c.length)(h2:c[g]? = some v)(h3:(([]:Rs)++v:Rs).length*56≤140737488355328)(h4:(2*(1*2^k))<9223372036854775808)(h5:ax ((((2*(1*2^k)):Nat):Int)-(v.length:Int)))(h6:(max 0 ((((2*(1*2^k)):Nat):Int)-(v.length:Int)))=(m:Int))(h7:((v:Rs)++List.replicate m (⟨false,[],[]⟩:af)).length*56≤140737488355328)(h8:(1*2^k)≤((v:Rs)++List.replicate m (⟨false,[],[]⟩:af)).length)(h9:((b++[(((v:Rs)++List.replicate m (⟨false,[],[]⟩:af)).take (1*2^k))]):List (Rs)).length*24≤140737488355328)(ec:(1*2^k)≤(((v:Rs)++List.replicate m (⟨false,[],[]⟩:af)):Rs).length)(il:((d++[(((v:Rs)++List.replicate m (⟨false,[],[]⟩:af)).drop (1*2^k))]):List (Rs)).length*24≤140737488355328)(mF:(g+1)<9223372036854775808)(hL:ah c j k (b++[(((v:Rs)++List.replicate m (⟨false,[],[]⟩:af)).take (1*2^k))]) (d++[(((v:Rs)++List.replicate m (⟨false,[],[]⟩:af)).drop (1*2^k))]) (g+1) t r):ah c j k b d g t r :=
 lG 138 [1,3,6,1,1,1,1,6,3,6,6,6,6,1,1] [.a,.q,.t,.h 0 (.row g ((aC af.cells) v)),.aV [.o,.o,(.app (v:Rs).length ((v:Rs).map af.cells).flatten),.o,(iI (((2*(1*2^k)):Nat):Int)),.o,(iI (v.length:Int)),(iI ((((2*(1*2^k)):Nat):Int)-(v.length:Int))),(iI (max 0 ((((2*(1*2^k)):Nat):Int)-(v.length:Int)))),(.app (((v:Rs)++List.replicate m (⟨false,[],[]⟩:af)):Rs).length ((((v:Rs)++List.replicate m (⟨false,[],[]⟩:af)):Rs).map af.cells).flatten)],.fo 13 ((((v:Rs)++List.replicate m (⟨false,[],[]⟩:af)):Rs).map af.cells),.aH [1,2,3,8,9,10,13,23,24,25],.any [0,1,2,6,7,8] [.none,.none,.none,(.iL 0 (1*2^k) (((((v:Rs)++List.replicate m (⟨false,[],[]⟩:af)).take (1*2^k)):Rs).map af.cells)),.none,(.app ((b++[(((v:Rs)++List.replicate m (⟨false,[],[]⟩:af)).take (1*2^k))]):List (Rs)).length (((b++[(((v:Rs)++List.replicate m (⟨false,[],[]⟩:af)).take (1*2^k))]):List (Rs)).map (aC af.cells)).flatten),.none,.none,.none,(.iL (1*2^k) ((((v:Rs)++List.replicate m (⟨false,[],[]⟩:af)):Rs).length) (((((v:Rs)++List.replicate m (⟨false,[],[]⟩:af)).drop (1*2^k)):Rs).map af.cells)),.none,(.app ((d++[(((v:Rs)++List.replicate m (⟨false,[],[]⟩:af)).drop (1*2^k))]):List (Rs)).length (((d++[(((v:Rs)++List.replicate m (⟨false,[],[]⟩:af)).drop (1*2^k))]):List (Rs)).map (aC af.cells)).flatten),.none,.none],.h 0 (iI (((g+1):Nat):Int)),.aH [1,2,3,8,9,10,23,24,25],.drop [49,43],.ord [3,44,50]] (Jk (ai h1) (bO (aC af.cells) (Eq.refl (((g:Nat):Int):Int)) h2) (qj aZ ([]:Rs) (v:Rs) 56 (Eq.refl ([]:Rs).length) h3 rfl) (Hr h4) (an af.cells v) (aW h5) (Gk 0 ((((2*(1*2^k)):Nat):Int)-(v.length:Int))) (Pc aZ (v:Rs) (⟨false,[],[]⟩:af) 56 m (Eq.refl (v:Rs).length) h6 h7 rfl) (cU aZ (((v:Rs)++List.replicate m (⟨false,[],[]⟩:af)):Rs) (Eq.refl (((v:Rs)++List.replicate m (⟨false,[],[]⟩:af)):Rs).length)) (u6 aZ (((v:Rs)++List.replicate m (⟨false,[],[]⟩:af)):Rs) (Eq.refl ((((1*2^k):Nat):Int):Int)) h8) (gR (qh af.cells) (b:List (Rs)) ([(((v:Rs)++List.replicate m (⟨false,[],[]⟩:af)).take (1*2^k))]:List (Rs)) 24 (Eq.refl (b:List (Rs)).length) (Eq.refl ([(((v:Rs)++List.replicate m (⟨false,[],[]⟩:af)).take (1*2^k))]:List (Rs)).length) h9 rfl) (RI aZ (((v:Rs)++List.replicate m (⟨false,[],[]⟩:af)):Rs) (Eq.refl ((((1*2^k):Nat):Int):Int)) ec) (gR (qh af.cells) (d:List (Rs)) ([(((v:Rs)++List.replicate m (⟨false,[],[]⟩:af)).drop (1*2^k))]:List (Rs)) 24 (Eq.refl (d:List (Rs)).length) (Eq.refl ([(((v:Rs)++List.replicate m (⟨false,[],[]⟩:af)).drop (1*2^k))]:List (Rs)).length) il rfl) (AO c j k b d g t v m) (aL mF)) hL
theorem cV(c:List (Rs))(j:Int)(k:Nat)(b d:List (Rs))(g:Nat)(t:bn)(m:Nat){r:PV}(h1:c.length≤g)(h2:(2*c.length)<9223372036854775808)(h3:ax ((((2*c.length):Nat):Int)-1))(h4:((((2*c.length):Nat):Int)-1)=(m:Int))(h5:24*m≤140737488355328)(hL:bA c j b d m 0 t (List.replicate m ([]:Rs)) r):ah c j k b d g t r :=
 lG 141 [1,1,1,1,5,1] [.a,.q,.f,.aV [.o,(iI (c.length:Int)),(iI (((2*c.length):Nat):Int)),(iI ((((2*c.length):Nat):Int)-1)),(.app m ((List.replicate m ([]:Rs):List (Rs)).map (aC af.cells)).flatten)],.h 1 (iI (c.length:Int)),.aH [1,2,3,9,10,14,58,59],.ord [3,44,50,56]] (y6 (ar h1) (an (aC af.cells) c) (Hr h2) (aW h3) (q9 (aC af.cells) [] 24 m h4 h5 rfl) (an (aC af.cells) c)) hL
theorem yj(c:List (Rs))(j:Int)(b d:List (Rs))(m g:Nat)(t:bn)(i:List (Rs)){r:PV}(h1:g<c.length)(hL:lJ c j b d m g g 0 t i r):bA c j b d m g t i r :=
 lG 183 [1,1] [.a,.q,.t,.q,.h 1 (iI (c.length:Int)),.aH [1,2,3,9,10,14,15,58,59,63,64]] (y2 (ai h1) (an (aC af.cells) c)) hL
theorem Be(c:List (Rs))(j:Int)(b d:List (Rs))(m g:Nat)(t:bn)(i:List (Rs))(h1:c.length≤g)(h2:m=i.length):bA c j b d m g t i (.aE [(cT (aC af.cells) i),.az]) :=
 lD 174 [1,3] [.a,.q,.f,.q,.fo 6 ((i:List (Rs)).map (aC af.cells))] (y2 (ar h1) (cU (qh af.cells) (i:List (Rs)) h2))
theorem LG(c:List (List af))(j:Int)(cW cX:List (List af))(m I6 Bn x6:Nat)(t:bn)(mc:List (List af))(mul Ss:List af)(k:Nat)(v4 Su:List af):wA bp mU fn.ntmps (bC (focus [0,2,0,2,0,2,0,0,2,0,0,0,0,2,0,1,2,2,2,2,0,2,0,0,2,0,0,0,0,2,0,0,2,0,0,0,2,0,2,0,0,0,0,2,0,0,2,0,0,0,2,0,2,0,0,2,1,2,0,2,0,0,2,1,2,0,0] [.code (ay fn)])) (mf (bC (focus [0,2,0,2,0,2,0,0,2,0,0,0,0,2,0,1,2,2,2,2,0,2,0,0,2,0,0,0,0,2,0,0,2,0,0,0,2,0,2,0,0,0,0,2,0,0,2,0,0,0,2,0,2,0,0,2,1,2,0,2,0,0,2,1,2,0,0] [.code (ay fn)])) [1,4]) (jN (bC (focus [0,2,0,2,0,2,0,0,2,0,0,0,0,2,0,1,2,2,2,2,0,2,0,0,2,0,0,0,0,2,0,0,2,0,0,0,2,0,2,0,0,0,0,2,0,0,2,0,0,0,2,0,2,0,0,2,1,2,0,2,0,0,2,1,2,0,0] [.code (ay fn)])) [1,4]) [.none,.none,.none,.none,.none,(iI (j-1)),(.row k ((aC af.cells) v4)),.none,(.pv (.aE [(ae Su),.az])),.none,.none,.none,.none,.none] (BF mU fn.ntmps (bC (focus [0,2,0,2,0,2,0,0,2,0,0,0,0,2,0,1,2,2,2,2,0,2,0,0,2,0,0,0,0,2,0,0,2,0,0,0,2,0,2,0,0,0,0,2,0,0,2,0,0,0,2,0,2,0,0,2,1,2,0,2,0,0,2,1,2,0,0] [.code (ay fn)])) [1,4] ⟨[(1,(.pv (cT (aC af.cells) c))),(2,(eI j)),(3,(.ptr 3 0)),(9,(.row 44 0 cW.length 1)),(10,(.row 50 0 cX.length 1)),(14,(.row 56 0 m 1)),(15,(eI (I6:Int))),(16,(eI (x6:Int))),(17,(.pv (ae mul))),(19,(.pv (ae Ss))),(58,(eI (c.length:Int))),(59,(eI (Bn:Int))),(63,(eI (c.length:Int))),(64,(eI (x6:Int)))],[(3,(.lit [(.pv (cT (aC af.cells) t.roots))])),(44,(.pure ((cW:List (List af)).map (aC af.cells)).flatten)),(50,(.pure ((cX:List (List af)).map (aC af.cells)).flatten)),(56,(.pure ((mc:List (List af)).map (aC af.cells)).flatten))]⟩)=wB bp mU fn.ntmps (bC (focus [0,2,0,2,0,2,0,0,2,0,0,0,0,2,0,1,2,2,2,2,0,2,0,0,2,0,0,0,0,2,0,0,2,0,0,0,2,0,2,0,0,0,0,2,0,0,2,0,0,0,2,0,2,0,0,2,1,2,0,2,0,0,2,1,2,0,0] [.code (ay fn)])) (mf (bC (focus [0,2,0,2,0,2,0,0,2,0,0,0,0,2,0,1,2,2,2,2,0,2,0,0,2,0,0,0,0,2,0,0,2,0,0,0,2,0,2,0,0,0,0,2,0,0,2,0,0,0,2,0,2,0,0,2,1,2,0,2,0,0,2,1,2,0,0] [.code (ay fn)])) [1,4]) (jN (bC (focus [0,2,0,2,0,2,0,0,2,0,0,0,0,2,0,1,2,2,2,2,0,2,0,0,2,0,0,0,0,2,0,0,2,0,0,0,2,0,2,0,0,0,0,2,0,0,2,0,0,0,2,0,2,0,0,2,1,2,0,2,0,0,2,1,2,0,0] [.code (ay fn)])) [1,4]) [.none,.none,.none,.none,.none,(iI (j-1)),(.row k ((aC af.cells) v4)),.none,(.pv (.aE [(ae Su),.az])),.none,.none,.none,.none,.none] (BF mU fn.ntmps (bC (focus [0,2,0,2,0,2,0,0,2,0,0,0,0,2,0,1,2,2,2,2,0,2,0,0,2,0,0,0,0,2,0,0,2,0,0,0,2,0,2,0,0,0,0,2,0,0,2,0,0,0,2,0,2,0,0,2,1,2,0,2,0,0,2,1,2,0,0] [.code (ay fn)])) [1,4] ⟨[(1,(.pv (cT (aC af.cells) c))),(2,(eI j)),(3,(.ptr 3 0)),(9,(.row 44 0 cW.length 1)),(10,(.row 50 0 cX.length 1)),(14,(.row 56 0 m 1)),(15,(eI (I6:Int))),(16,(eI (x6:Int))),(17,(.pv (ae mul))),(19,(.pv (ae Ss))),(58,(eI (c.length:Int))),(59,(eI (Bn:Int))),(63,(eI (c.length:Int))),(64,(eI (x6:Int)))],[(3,(.lit [(.pv (cT (aC af.cells) t.roots))])),(44,(.pure ((cW:List (List af)).map (aC af.cells)).flatten)),(50,(.pure ((cX:List (List af)).map (aC af.cells)).flatten)),(56,(.pure ((mc:List (List af)).map (aC af.cells)).flatten))]⟩):=by kernel_rfl
theorem US(c:List (Rs))(j:Int)(b d:List (Rs))(m g i l:Nat)(t:bn)(n:List (Rs))(v v1 o v2 v3 p:Rs)(k:Nat)(v4 s u v5 w:Rs){r:PV}(h1:l<c.length)(h2:g<b.length)(h3:b[g]? = some v)(h4:l<b.length)(h5:b[l]? = some v1)(h6:Cp 47 [t.pv,ae v,ae v1] (.aE [ae o,.az]))(h7:g<d.length)(h8:d[g]? = some v2)(h9:l<d.length)(ec:d[l]? = some v3)(il:Cp 47 [t.pv,ae v2,ae v3] (.aE [ae p,.az]))(mF:ax (j-1))(u9:(j-1)=(k:Int))(EC:t.roots[k]? = some v4)(FC:Cp 47 [t.pv,ae p,ae v4] (.aE [ae s,.az]))(Im:Cp 251 [t.pv,ae o,ae s] (.aE [ae u,.az]))(FD:(g+l)<9223372036854775808)(L9:(g+l)<m)(IM:n[(g+l)]? = some v5)(RN:Cp 48 [t.pv,ae v5,ae u] (.aE [ae w,.az]))(VA:(g+l)<n.length)(YC:(l+1)<9223372036854775808)(hL:lJ c j b d m g i (l+1) t (n.set (g+l) w) r):lJ c j b d m g i l t n r :=
 lG 321 [1,2,1,2,1,1,2,1,2,1,1,1,3,1,1,1,1,1,2,1,1,2,2,1] [.a,.q,.t,.q,dr 14 1 [.none,.none,.none,(.nat g),(.ev (.pv (ae v))),.none,.none,(.nat l),(.ev (.pv (ae v1))),(.pv (.aE [ae o,.az]))],.q,.a,dr 14 1 [.none,.none,.none,(.nat g),(.ev (.pv (ae v2))),.none,.none,(.nat l),(.ev (.pv (ae v3))),(.pv (.aE [ae p,.az]))],.q,.a,.aH [1,2,3,9,10,14,15,16,17,19,58,59,63,64],.any [1,4] [.none,.none,.none,.none,.none,(iI (j-1)),(.row k ((aC af.cells) v4)),.none,(.pv (.aE [ae s,.az])),.none,.none,.none,.none,.none],.q,.a,.h 3 (.pv (.aE [ae u,.az])),.q,.a,dr 18 1 [.none,.none,.none,(iI (((g+l):Nat):Int)),.none,.none,.none,.none,(iI (((g+l):Nat):Int)),(.nat (g+l)),(.ev (.pv (ae v5))),.none,(.pv (.aE [ae w,.az])),.none,.none,.none,(.nat (g+l)),(.cells (.pure (((n.set (g+l) w):List (Rs)).map (aC af.cells)).flatten))],.q,.a,.h 0 (iI (((l+1):Nat):Int)),.aH [1,2,3,9,10,14,15,58,59,63,64]] (Ul (ai h1) (cj (Eq.refl (((g:Nat):Int):Int)) h2) (fj (enc:=(aC af.cells)) (f:=fun a=>(ae a)) (fun _=>rfl) h3) (cj (Eq.refl (((l:Nat):Int):Int)) h4) (fj (enc:=(aC af.cells)) (f:=fun a=>(ae a)) (fun _=>rfl) h5) h6 (cj (Eq.refl (((g:Nat):Int):Int)) h7) (fj (enc:=(aC af.cells)) (f:=fun a=>(ae a)) (fun _=>rfl) h8) (cj (Eq.refl (((l:Nat):Int):Int)) h9) (fj (enc:=(aC af.cells)) (f:=fun a=>(ae a)) (fun _=>rfl) ec) il (aW mF) (bO (aC af.cells) u9 EC) FC (LG c j b d m g i l t n o p k v4 s) Im (aL FD) (aL FD) (cj (Eq.refl ((((g+l):Nat):Int):Int)) L9) (fj (enc:=(aC af.cells)) (f:=fun a=>(ae a)) (fun _=>rfl) IM) RN (cj (Eq.refl ((((g+l):Nat):Int):Int)) L9) (gm (qh af.cells) (n:List (Rs)) w VA) (aL YC)) hL
theorem WY(c:List (Rs))(j:Int)(b d:List (Rs))(m g i k:Nat)(t:bn)(l:List (Rs)){r:PV}(h1:c.length≤k)(h2:(i+1)<9223372036854775808)(hL:bA c j b d m (i+1) t l r):lJ c j b d m g i k t l r :=
 lG 216 [1,1] [.a,.q,.f,.h 0 (iI (((i+1):Nat):Int)),.aH [1,2,3,9,10,14,58,59]] (y2 (ar h1) (aL h2)) hL
end cq
namespace oT
theorem e0(t:bn)(x b c:Rs)(d:Option Int)(h1:Cp 97 [t.pv,ae x] (.aE [ae b,.az]))(h2:Cp 98 [t.pv,ae x] (.aE [ae c,bc d])):Cp 38 [t.pv,ae x] (.aE [ae c,bc d]) :=
 eD Tryz.func38 93 [1,1] [.q,.h 2 (.pv (.aE [ae b,.az])),.q,.a,.h 2 (.pv (.aE [ae c,bc d]))] (y2 h1 h2)
end oT
end Go.Proofs.YtllmkadmohkbfaaGreatDoor.Sym.Path
namespace Go.Proofs.YtllmkadmohkbfaaGreatDoor.Sym.QY
open Go Go.Shelf Go.Proofs
set_option maxRecDepth 20000
def ra:Ren:=⟨fun n=>match n with|129=>301|156=>217|165=>265|166=>266|169=>268|171=>215|240=>290|241=>291|243=>262|246=>286|276=>298|277=>299|283=>294|284=>295|285=>296|286=>297|317=>300|318=>302|319=>303|320=>304|337=>305|338=>306|n=>n,
 fun n=>match n with|0=>0|2=>2|3=>3|4=>4|5=>5|9=>9|20=>20|31=>224|37=>256|46=>179|51=>119|53=>178|70=>255|72=>258|75=>34|76=>59|80=>262|127=>273|164=>280|171=>275|173=>278|212=>285|213=>286|232=>289|233=>290|n=>n,
 fun n=>match n with|17=>0|18=>2|19=>3|n=>n⟩
theorem Ic:Lays.n156 Tryz.prog ra where
 mixed:=by kernel_rfl
 f156:=Tryz.func217.trans (congrArg some (by kernel_rfl))
 f165:=Tryz.func265.trans (congrArg some (by kernel_rfl))
 f166:=Tryz.func266.trans (congrArg some (by kernel_rfl))
 f169:=Tryz.func268.trans (congrArg some (by kernel_rfl))
 f240:=Tryz.func290.trans (congrArg some (by kernel_rfl))
 f241:=Tryz.func291.trans (congrArg some (by kernel_rfl))
 f276:=Tryz.func298.trans (congrArg some (by kernel_rfl))
 f277:=Tryz.func299.trans (congrArg some (by kernel_rfl))
 t0:=Tryz.underlying0
 a0:=Tryz.isAgg0
 z0:=Tryz.sizeOf0
 v0:=Tryz.zeroValue0
 t3:=Tryz.underlying3
 a3:=Tryz.isAgg3
 z3:=Tryz.sizeOf3
 v3:=Tryz.zeroValue3
 t4:=Tryz.underlying4
 a4:=Tryz.isAgg4
 z4:=Tryz.sizeOf4
 v4:=Tryz.zeroValue4
 t9:=Tryz.underlying9
 a9:=Tryz.isAgg9
 z9:=Tryz.sizeOf9
 v9:=Tryz.zeroValue9
 t20:=Tryz.underlying20
 a20:=Tryz.isAgg20
 z20:=Tryz.sizeOf20
 v20:=Tryz.zeroValue20
 t31:=Tryz.underlying224
 a31:=Tryz.isAgg224
 z31:=Tryz.sizeOf224
 v31:=Tryz.zeroValue224
 t37:=Tryz.underlying256
 a37:=Tryz.isAgg256
 z37:=Tryz.sizeOf256
 v37:=Tryz.zeroValue256
 t70:=Tryz.underlying255
 a70:=Tryz.isAgg255
 z70:=Tryz.sizeOf255
 v70:=Tryz.zeroValue255
 t72:=Tryz.underlying258
 a72:=Tryz.isAgg258
 z72:=Tryz.sizeOf258
 v72:=Tryz.zeroValue258
 t75:=Tryz.underlying34
 a75:=Tryz.isAgg34
 z75:=Tryz.sizeOf34
 v75:=Tryz.zeroValue34
 t76:=Tryz.underlying59
 a76:=Tryz.isAgg59
 z76:=Tryz.sizeOf59
 v76:=Tryz.zeroValue59
 t127:=Tryz.underlying273
 a127:=Tryz.isAgg273
 z127:=Tryz.sizeOf273
 v127:=Tryz.zeroValue273
 t164:=Tryz.underlying280
 a164:=Tryz.isAgg280
 z164:=Tryz.sizeOf280
 v164:=Tryz.zeroValue280
theorem ND:Lays.n171 Tryz.prog ra where
 mixed:=by kernel_rfl
 f129:=Tryz.func301.trans (congrArg some (by kernel_rfl))
 f171:=Tryz.func215.trans (congrArg some (by kernel_rfl))
 f243:=Tryz.func262.trans (congrArg some (by kernel_rfl))
 f246:=Tryz.func286.trans (congrArg some (by kernel_rfl))
 f283:=Tryz.func294.trans (congrArg some (by kernel_rfl))
 f284:=Tryz.func295.trans (congrArg some (by kernel_rfl))
 f285:=Tryz.func296.trans (congrArg some (by kernel_rfl))
 f286:=Tryz.func297.trans (congrArg some (by kernel_rfl))
 f317:=Tryz.func300.trans (congrArg some (by kernel_rfl))
 f318:=Tryz.func302.trans (congrArg some (by kernel_rfl))
 f319:=Tryz.func303.trans (congrArg some (by kernel_rfl))
 f320:=Tryz.func304.trans (congrArg some (by kernel_rfl))
 f337:=Tryz.func305.trans (congrArg some (by kernel_rfl))
 f338:=Tryz.func306.trans (congrArg some (by kernel_rfl))
 t0:=Tryz.underlying0
 a0:=Tryz.isAgg0
 z0:=Tryz.sizeOf0
 v0:=Tryz.zeroValue0
 t2:=Tryz.underlying2
 a2:=Tryz.isAgg2
 z2:=Tryz.sizeOf2
 v2:=Tryz.zeroValue2
 t3:=Tryz.underlying3
 a3:=Tryz.isAgg3
 z3:=Tryz.sizeOf3
 v3:=Tryz.zeroValue3
 t4:=Tryz.underlying4
 a4:=Tryz.isAgg4
 z4:=Tryz.sizeOf4
 v4:=Tryz.zeroValue4
 t5:=Tryz.underlying5
 a5:=Tryz.isAgg5
 z5:=Tryz.sizeOf5
 v5:=Tryz.zeroValue5
 t9:=Tryz.underlying9
 a9:=Tryz.isAgg9
 z9:=Tryz.sizeOf9
 v9:=Tryz.zeroValue9
 t20:=Tryz.underlying20
 a20:=Tryz.isAgg20
 z20:=Tryz.sizeOf20
 v20:=Tryz.zeroValue20
 t37:=Tryz.underlying256
 a37:=Tryz.isAgg256
 z37:=Tryz.sizeOf256
 v37:=Tryz.zeroValue256
 t46:=Tryz.underlying179
 a46:=Tryz.isAgg179
 z46:=Tryz.sizeOf179
 v46:=Tryz.zeroValue179
 t51:=Tryz.underlying119
 a51:=Tryz.isAgg119
 z51:=Tryz.sizeOf119
 v51:=Tryz.zeroValue119
 t53:=Tryz.underlying178
 a53:=Tryz.isAgg178
 z53:=Tryz.sizeOf178
 v53:=Tryz.zeroValue178
 t171:=Tryz.underlying275
 a171:=Tryz.isAgg275
 z171:=Tryz.sizeOf275
 v171:=Tryz.zeroValue275
 t173:=Tryz.underlying278
 a173:=Tryz.isAgg278
 z173:=Tryz.sizeOf278
 v173:=Tryz.zeroValue278
 t212:=Tryz.underlying285
 a212:=Tryz.isAgg285
 z212:=Tryz.sizeOf285
 v212:=Tryz.zeroValue285
 t213:=Tryz.underlying286
 a213:=Tryz.isAgg286
 z213:=Tryz.sizeOf286
 t232:=Tryz.underlying289
 a232:=Tryz.isAgg289
 z232:=Tryz.sizeOf289
 v232:=Tryz.zeroValue289
 t233:=Tryz.underlying290
 a233:=Tryz.isAgg290
 z233:=Tryz.sizeOf290
 v233:=Tryz.zeroValue290
 g17:=by kernel_rfl
 g18:=by kernel_rfl
 g19:=by kernel_rfl
theorem extra:Builder.Extra Tryz.prog ra where
 sizeBuilder:=by kernel_rfl
 liesBuilder:=by kernel_rfl
 t5:=Tryz.underlying5
 a5:=Tryz.isAgg5
 z5:=Tryz.sizeOf5
 v5:=Tryz.zeroValue5
 infoByte:=by kernel_rfl
 cellsByte:=by kernel_rfl
 sizeByte:=by kernel_rfl
 neB5:=by decide
end Go.Proofs.YtllmkadmohkbfaaGreatDoor.Sym.QY
namespace Go.Proofs.YtllmkadmohkbfaaGreatDoor.Sym
open Go Go.RowKit
set_option linter.unusedVariables false
theorem me.mk' {P : Program} {f : FuncId} {fn : Func} (h : P.funcs[f]? = some fn) (hb : (fn.body.isSome && !(fn.name == "runtime.NumGoroutine")) = true) : me P f := by
  rw [Bool.and_eq_true, Bool.not_eq_true'] at hb
  exact ⟨fn, h, hb.1, hb.2⟩
theorem eV.Ie{P:Program}{f:FuncId}{args:List PV}{r:PV}(hc:me P f)
  (h:∀(I:Nat→Prop) (w:World) (vs:Array Value),(∀b,I b→b<w.heap.size)→args.length=vs.size →
   (∀(j:Nat) p v,args[j]? = some p→vs[j]? = some v→Rd I w p v) →
   Calls P f vs w (fun e w'=>∃v,e = .returned v∧Rd (fun b=>I b∨fresh w w' b) w' r v∧Below w.heap.size w w')):eV P f args r:=by
 refine⟨hc,fun I w β vs hI _ hl hr=>(h I w vs hI (by simpa using hl) (fun j p v hp hv=>hr j (.pv p) v (by rw[List.getElem?_map,hp];rfl) hv)).mono ?_⟩
 rintro e w' ⟨v,he,hv,hb⟩
 refine⟨v,β,he,fun _ _ _=>rfl,kx.D4 ⟨hb,fun s=>by unfold Tg at s;exact s.elim⟩,sq _ _ _,?_,fun x b hx=>absurd hx pZ⟩
 exact Rd.mono hv (fun b hb=>hb.imp id (fun hf=>⟨Or.inl hf,(fun x hx=>absurd hx pZ)⟩)) (fun _ _ _=>rfl)
theorem NG{I:Nat→Prop}{w:World}{k:IntKind}{n:Int}{v:Value}(h:Rd I w (.int k n) v):v = .int k n:=by cases h;rfl
theorem Ig{I:Nat→Prop}{w:World}{s:ByteArray}{v:Value}(h:Rd I w (.str s) v):v = .string s:=by cases h;rfl
def dig(n:Nat):ByteArray:=⟨(Lib.decDigits n).toArray⟩
theorem GS(n:Nat)(h:n<100):Cp 215 [vI (n:Int)] (.str (dig n)):=by
 refine eV.Ie (me.mk' Tryz.func215 (by kernel_rfl)) (fun I w vs hI hl hr => ?_)
 obtain⟨v,rfl⟩:∃v,vs = #[v]:=by
  match vs,hl with
  |⟨[v]⟩,_=>exact⟨v,rfl⟩
 have hv:=NG (hr 0 _ v rfl rfl)
 subst hv
 refine Calls.mono (Any.strconv_Itoa_small QY.ND n h w) ?_
 rintro e w' ⟨he,rfl⟩
 exact⟨_,he,.str _,Below.refl _ _⟩
def LH(l:List ByteArray)(sep:ByteArray):ByteArray:=⟨(Lib.join (l.map (·.data.toList)) sep.data.toList).toArray⟩
theorem VB(l:List ByteArray)(sep:ByteArray)(hn:l.length≤140737488355328)(hlen:(Lib.join (l.map (·.data.toList)) sep.data.toList).length≤140737488355328) :
  Cp 217 [cT jk l,.str sep] (.str (LH l sep)):=by
 refine eV.Ie (me.mk' Tryz.func217 (by kernel_rfl)) (fun I w vs hI hl hr => ?_)
 obtain⟨v,u,rfl⟩:∃v u,vs = #[v,u]:=by
  match vs,hl with
  |⟨[v,u]⟩,_=>exact⟨v,u,rfl⟩
 have hu:=Ig (hr 1 _ u rfl rfl)
 subst hu
 have hv:Rd I w (.list (l.map jk)) v:=hr 0 _ v rfl rfl
 cases l with
 |nil =>
  have:∃a c,v = .slice a 0 c:=by
   generalize hx:(PV.list (([]:List ByteArray).map jk))=x at hv
   cases hv with
   |nil a c=>exact⟨a,c,rfl⟩
   |list xs b o c s f hc hb hs ho h =>
    injection hx with hx
    subst hx
    exact⟨_,c,rfl⟩
   |_=>cases hx
  obtain⟨a,c,rfl⟩:=this
  refine Calls.mono (Any.strings_Join_none QY.Ic QY.extra a c sep w) ?_
  rintro e w' ⟨he,rfl⟩
  exact⟨_,he,.str _,Below.refl _ _⟩
 |cons x0 r =>
  have:∃b o c,v = .slice (some ⟨b,o,none⟩) (x0::r).length c∧(x0::r).length≤c∧I b∧∀(j:Nat) x,(x0::r)[j]? = some x→w.cell? ⟨b,o+j,none⟩=some (.string x):=by
   generalize hx:(PV.list ((x0::r).map jk))=x at hv
   cases hv with
   |list xs b o c s f hc hb hs ho h =>
    injection hx with hx
    subst hx
    have Vs:s=1:=by
     have:=hs 0 _ rfl
     simpa[jk] using this.symm
    subst Vs
    refine⟨b,o,c,by rw[List.length_map],by simpa using hc,hb,fun j x hj => ?_⟩
    have wa:((x0::r).map jk)[j]? = some (jk x):=by rw[List.getElem?_map,hj];rfl
    have h1:=(ho j 0 _ (.str x) wa rfl).2
    have h2:=Ig (h j 0 _ (.str x) wa rfl)
    rw[h2] at h1
    simpa using h1
   |_=>cases hx
  obtain⟨b,o,c,rfl,hc,hb,Kj⟩:=this
  refine Calls.mono (Any.strings_Join QY.Ic QY.extra b o c (x0::r) sep w Kj (hI b hb) hn hc hlen) ?_
  rintro e w' ⟨he,hw⟩
  exact⟨_,he,.str _,hw⟩
end Go.Proofs.YtllmkadmohkbfaaGreatDoor.Sym
namespace Go.Proofs.YtllmkadmohkbfaaGreatDoor.Sym
open Go Path bN
set_option linter.unusedVariables false
def numT(n:Int):ByteArray:=if n<0 then ByteArray.mk #[45]++dig n.natAbs else dig n.natAbs
def ratT(q:Rat):ByteArray:=if (q.den:Int)=1 then numT q.num else numT q.num++ByteArray.mk #[47]++numT (q.den:Int)
theorem sY{n:Nat}(h:n<10):dig n=ByteArray.mk #[UInt8.ofNat (48+n)]:=by
 unfold dig
 rw[Lib.decDigits,dif_pos h]
theorem Ft{n:Nat}(h:n<1000000000):(dig n).size≤10:=by
 have key:∀(k n:Nat),n<10^(k+1)→(Lib.decDigits n).length≤k+1:=by
  intro k
  induction k with
  |zero =>
   intro n h
   rw[Lib.decDigits,dif_pos (by omega)]
   exact Nat.le_refl _
  |succ k ih =>
   intro n h
   by_cases h9:n<10
   ·rw[Lib.decDigits,dif_pos h9];simp
   ·rw[Lib.decDigits,dif_neg h9,List.length_append,List.length_singleton]
    have:=ih (n/10) (by rw[Nat.pow_succ] at h;omega)
    omega
 have:=key 8 n (by omega)
 show(Lib.decDigits n).toArray.size≤10
 rw[List.size_toArray]
 omega
theorem join_one(x sep:ByteArray):LH [x] sep=x:=by
 unfold LH
 rw[List.map_cons,List.map_nil,Lib.join_one]
theorem Cq{n:Int}(h:n.natAbs<1000000000):(numT n).size≤11:=by
 have:=Ft h
 unfold numT
 split
 ·rw[ByteArray.size_append]
  have e:(ByteArray.mk #[45]).size=1:=rfl
  omega
 ·omega
namespace Tf
theorem Sv(n:Int)(h:n.natAbs<1000000000)(hI:n≠0→Cp 215 [vI (n.natAbs:Int)] (.str (dig n.natAbs))):Cp 129 [(whole n).pv] (.str (numT n)):=by
 have hl:(words n.natAbs).length≤1:=eu (by omega)
 have oX:Fit (whole n).ct:=by
  show Fit (words n.natAbs)
  unfold Fit
  omega
 have hm:=bN.ct (whole n) oX
 have hn:=bN.neg (whole n) oX
 rw[aA] at hm hn
 by_cases h0:n=0
 ·subst h0
  have e:numT 0=ByteArray.mk #[48]:=by
   unfold numT
   rw[if_neg (by omega),show Int.natAbs 0=0 from rfl,sY (by omega)];rfl
  rw[e]
  exact gT.e0 _ _ hm rfl
 ·have hw:(words n.natAbs).length≠0:=fun e=>h0 (by have:=dk.1 e;omega)
  have hs:=bN.short (words n.natAbs) (1000000000:UInt32) (by omega) (by decide)
  rw[aD,show(1000000000:UInt32).toNat=1000000000 from rfl,Nat.div_eq_of_lt h,Nat.mod_eq_of_lt h,eT] at hs
  have hv:(UInt32.ofNat n.natAbs).toNat=n.natAbs:=by
   rw[sA]
   exact Nat.mod_eq_of_lt (by omega)
  have hi:Cp 215 [vI ((UInt32.ofNat n.natAbs).toNat:Int)] (.str (dig n.natAbs)):=by
   rw[hv];exact hI h0
  have hd:=Ft h
  have hj:=VB [dig n.natAbs] (ByteArray.mk #[]) (by simp) (by
   rw[List.map_cons,List.map_nil,Lib.join_one,Array.length_toList]
   have:(dig n.natAbs).data.size=(dig n.natAbs).size:=rfl
   omega)
  rw[join_one] at hj
  have hN:gT.ah [] [dig n.natAbs] (whole n) (.str (numT n)):=by
   by_cases rP:n<0
   ·have:=gT.kI [] _ _ _ _ (by simp) hj hn (decide_eq_true rP) (by
     have e:(ByteArray.mk #[45]).size=1:=rfl
     omega)
    unfold numT
    rw[if_pos rP]
    exact this
   ·have:=gT.ta [] _ _ _ _ (by simp) hj hn (decide_eq_false rP)
    unfold numT
    rw[if_neg rP]
    exact this
  exact gT.e1 _ _ hm hw (gT.cV _ [] _ _ _ _ (by omega) hs hi (by simp) (by simp) hN)
theorem xL(n:Int)(h:n.natAbs<100):Cp 129 [(whole n).pv] (.str (numT n)):=Sv n (by omega) (fun _=>GS _ h)
theorem Sw(q:Rat)(h1:q.num.natAbs<1000000000)(h2:q.den<1000000000)(hN:Cp 129 [(whole q.num).pv] (.str (numT q.num)))(hD:Cp 129 [(whole (q.den:Int)).pv] (.str (numT (q.den:Int)))):Cp 61 [(aN q).pv] (.str (ratT q)):=by
 have l1:wl q.num≤1:=eu (by omega)
 have l2:wl (q.den:Int)≤1:=eu (by rw[Int.natAbs_natCast];omega)
 have hh:ht q≤1:=Nat.max_le.2 ⟨l1,l2⟩
 have hp:=rO.jC (aN q) (gY (by omega))
 rw[bB] at hp
 have hc:=bN.rb (whole (q.den:Int)) (whole 1) (show Fit (whole (q.den:Int)).ct from Nat.le_trans l2 (by omega)) (by decide)
 rw[aA,aA] at hc
 have s1:=Cq h1
 have s2:=Cq (n:=(q.den:Int)) (by rw[Int.natAbs_natCast];exact h2)
 by_cases hd:(q.den:Int)=1
 ·have:=pd.e0 _ _ _ _ _ _ hp rO.one hc (by rw[hd];rfl) hN
  unfold ratT
  rw[if_pos hd]
  exact this
 ·have e:(ByteArray.mk #[47]).size=1:=rfl
  have yl:dC (q.den:Int) 1≠0:=by
   unfold dC
   intro hx
   split at hx
   ·cases hx
   ·omega
  have:=pd.e1 _ _ _ _ _ _ _ hp rO.one hc yl hN (by omega) hD (by rw[ByteArray.size_append];omega)
  unfold ratT
  rw[if_neg hd]
  exact this
theorem sj(q:Rat)(h1:q.num.natAbs<100)(h2:q.den<100):Cp 61 [(aN q).pv] (.str (ratT q)) :=
 Sw q (by omega) (by omega) (xL _ h1) (xL _ (by rw[Int.natAbs_natCast];exact h2))
end Tf
end Go.Proofs.YtllmkadmohkbfaaGreatDoor.Sym
namespace Go.Proofs.YtllmkadmohkbfaaGreatDoor.Sym.Path
open Go
set_option maxRecDepth 20000
set_option linter.unusedVariables false
namespace gJ
@[reducible] noncomputable def fn:Func:=Tryz.f59
noncomputable def bf:List eg:=focus [0,2,0,2,0,0,2,0,0] [.code (ay fn)]
def inv1(j5:List af)(l:List Int)(sD:Nat):St:=⟨[(3,(.row 16 0 j5.length 3)),(6,(.pv (cT fU l))),(7,(eI (l.length:Int))),(8,(eI (sD:Int)))],[(16,(.pure ((j5:List af).map af.cells).flatten))]⟩
@[reducible] noncomputable def ah(j5:List af)(l:List Int)(sD:Nat)(r:PV):Prop:=L bp fn bf (inv1 j5 l sD) r
theorem e0 (l : List Int) {r : PV}  (hL : ah [] l 0 r) : Cp 59 [cT fU l] r :=
 eG Tryz.func59 87 [1] [.q,.h 0 .nil,.jM 3 16 3,.h 1 (iI (l.length:Int)),.aH [3,6,7,8]] (y1 (an fU l)) hL
theorem l10(b:Rs)(l:List Int)(c:Nat)(v:Int)(of:af){r:PV}(h1:c<l.length)(h2:l[c]? = some v)(h3:Cp 89 [vI v] of.pv)(h4:((b++[of]):Rs).length*56≤140737488355328)(h5:(c+1)<9223372036854775808)(hL:ah (b++[of]) l (c+1) r):ah b l c r :=
 lG 126 [1,3,1,6,1] [.a,.q,.t,.h 0 (.row c (fU v)),.aV [.o,.o,(.pv of.pv),.o,(.app ((b++[of]):Rs).length (((b++[of]):Rs).map af.cells).flatten)],.h 0 (iI (((c+1):Nat):Int)),.aH [3,6,7,8],.drop [15]] (y5 (ai h1) (bO fU (Eq.refl (((c:Nat):Int):Int)) h2) h3 (gR aZ (b:Rs) ([of]:Rs) 56 (Eq.refl (b:Rs).length) (Eq.refl ([of]:Rs).length) h4 rfl) (aL h5)) hL
theorem cV(b:Rs)(l:List Int)(c:Nat)(h1:l.length≤c):ah b l c (ae b) :=
 lD 120 [1,3] [.a,.q,.f,.q,.fo 2 ((b:Rs).map af.cells)] (y2 (ar h1) (cU aZ (b:Rs) (Eq.refl (b:Rs).length)))
end gJ
namespace mR
theorem e2(of:Rs)(a:List aQ)(b:Rs)(c:List aQ)(d g i:Rs)(v v1:aQ)(j:Int)(k:aj)(l:af)(m n:ByteArray)(p:Rs)(s:Bool)(h1:Cp 59 [(cT fU [(-2),0,1])] (ae of))(h2:Cp 21 [ae of] (.aE [cT aQ.cells a,.az]))(h3:Cp 59 [(cT fU [(-3),0,1])] (ae b))(h4:Cp 21 [ae b] (.aE [cT aQ.cells c,.az]))(h5:Cp 59 [(cT fU [2])] (ae d))(h6:Cp 59 [(cT fU [1,1])] (ae g))(h7:Cp 38 [(⟨[d]⟩:bn).pv,ae g] (.aE [ae i,.az]))(h8:a.length=2)(h9:c.length=2)(ec:a[1]? = some v)(il:c[1]? = some v1)(mF:Cp 35 [v.pv,v1.pv] (.aE [vI j,.az]))(u9:Cp 13 [v.pv,vI 1] (.aE [k.pv,.az]))(EC:Cp 14 [v.pv,v1.pv] (.aE [l.pv,.az]))(FC:j=(-1))(Im:Cp 60 [k.pv] (.str m))(FD:m=(ByteArray.mk #[49,46,46,51,47,50]))(L9:Cp 61 [l.pv] (.str n))(IM:n=(ByteArray.mk #[51,47,50]))(RN:Cp 59 [(cT fU [(-1),(-2),1])] (ae p))(VA:Cp 42 [ae i,ae p] (vB s)):Cp 12 [] (vB s) :=
 eD Tryz.func12 123 [3,1,1,3,1,1,3,1,3,3,1,1,1,1,1,1,1,1,1,1,1,1,1,1,1,1,3,3,1,3,1,3,3,1,1,1,1,1,1,1,1,1,1,1,1,1,1,1,1,1,1,1,3,1,1,1,1,1] [.q,.aV [(.iL 0 0 (([(-2),0,1]:List Int).map fU)),(.pv (ae of)),(.pv (.aE [cT aQ.cells a,.az]))],.aV [(.iL 0 0 (([(-3),0,1]:List Int).map fU)),(.pv (ae b)),(.pv (.aE [cT aQ.cells c,.az]))],.aV [(.iL 0 0 (([2]:List Int).map fU)),(.pv (ae d)),(.iL 0 0 (([d]:List (Rs)).map (aC af.cells))),.o,(.iL 0 0 (([1,1]:List Int).map fU)),(.pv (ae g)),(.pv (.aE [ae i,.az]))],.aV [.o,.o,.o,.o,.o,.o,.o,.o,.o,.o,.o,.o,(iI (a.length:Int)),.o,.o,.o,.o,(iI (c.length:Int)),.o,(.dec false)],.f,dr 11 1 [.none,(.row 1 (aQ.cells v)),.none,.none,(.row 1 (aQ.cells v1)),.none,(.pv (.aE [vI j,.az]))],.aV [.o,(.row 1 (aQ.cells v)),.o,(.pv (.aE [k.pv,.az]))],dr 12 1 [.none,(.row 1 (aQ.cells v)),.none,.none,(.row 1 (aQ.cells v1)),.none,(.pv (.aE [l.pv,.az]))],.aV [.o,.o,.o,.o,.o,.o,.o,.o,.o,.o,.o,.o,.o,.o,.o,.o,(.pv (.str m)),.o,(.dec true),.o,.o,(.pv (.str n)),.o,(.dec true),.o,.o,(.iL 0 0 (([(-1),(-2),1]:List Int).map fU)),(.pv (ae p)),(.pv (vB s)),(.dec true)]] (cj (ki zL ([(-2),0,1]:List Int)) (cj h1 (cj h2 (cj (ki zL ([(-3),0,1]:List Int)) (cj h3 (cj h4 (cj (ki zL ([2]:List Int)) (cj h5 (cj (ki (qh af.cells) ([d]:List (Rs))) (cj (ki zL ([1,1]:List Int)) (cj h6 (cj h7 (cj (Eq.refl false) (cj (Eq.refl false) (cj (Eq.refl false) (cj (Eq.refl false) (cj (Eq.refl false) (cj (Eq.refl false) (XU (an aQ.cells a) (Eq.refl false) (gQ h8) (gQ h8) (an aQ.cells c) (gQ h8) (gQ h8) (gQ h9) (bO aQ.cells (Eq.refl (1:Int)) ec) (bO aQ.cells (Eq.refl (1:Int)) il) mF (bO aQ.cells (Eq.refl (1:Int)) ec) u9 (bO aQ.cells (Eq.refl (1:Int)) ec) (bO aQ.cells (Eq.refl (1:Int)) il) EC (Eq.refl true) (Eq.refl true) (Eq.refl true) (Eq.refl true) (Eq.refl true) (Eq.refl true) (aP FC) (aP FC) Im (aP FC) (aP FC) (qg FD) (qg FD) L9 (qg FD) (qg FD) (qg IM) (qg IM) (ki zL ([(-1),(-2),1]:List Int)) (qg IM) RN (qg IM) VA (qg IM))))))))))))))))))))
end mR
namespace dq
@[reducible] noncomputable def fn:Func:=Tryz.f20
noncomputable def bf:List eg:=focus [0,2,0,0,2,1,2,0,0,2,0,0] [.code (ay fn)]
def inv1(l:List af)(Ag:Nat):St:=⟨[(8,(.pv (ae l))),(9,(eI (l.length:Int))),(10,(eI (Ag:Int)))],[]⟩
@[reducible] noncomputable def ah(l:List af)(Ag:Nat)(r:PV):Prop:=L bp fn bf (inv1 l Ag) r
theorem e0(l:Rs)(h1:6<l.length):Cp 20 [ae l] (vB false) :=
 eD Tryz.func20 84 [1,1] [.q,.h 1 (iI (l.length:Int)),.t,.q] (y2 (an af.cells l) (ai h1))
theorem e1(l:Rs){r:PV}(h1:l.length≤6)(hL:ah l 0 r):Cp 20 [ae l] r :=
 eG Tryz.func20 96 [1,1,1] [.q,.h 1 (iI (l.length:Int)),.f,.h 1 (iI (l.length:Int)),.aH [8,9,10]] (y3 (an af.cells l) (ar h1) (an af.cells l)) hL
theorem l10(l:Rs)(b:Nat)(v:af)(c:Bool)(h1:b<l.length)(h2:l[b]? = some v)(h3:Cp 74 [v.pv,(vW (1000:UInt32)),(vW (1000:UInt32))] (vB c))(h4:c=false):ah l b (vB false) :=
 lD 141 [1,3,1,1] [.a,.q,.t,.h 0 (.row b (af.cells v)),.h 1 (.pv (vB c)),.t,.q] (y4 (ai h1) (bO af.cells (Eq.refl (((b:Nat):Int):Int)) h2) h3 (cf h4))
theorem cV(l:Rs)(b:Nat)(v:af)(c:Bool){r:PV}(h1:b<l.length)(h2:l[b]? = some v)(h3:Cp 74 [v.pv,(vW (1000:UInt32)),(vW (1000:UInt32))] (vB c))(h4:c=true)(h5:(b+1)<9223372036854775808)(hL:ah l (b+1) r):ah l b r :=
 lG 144 [1,3,1,1,1] [.a,.q,.t,.h 0 (.row b (af.cells v)),.h 1 (.pv (vB c)),.f,.h 0 (iI (((b+1):Nat):Int)),.aH [8,9,10],.drop [4]] (y5 (ai h1) (bO af.cells (Eq.refl (((b:Nat):Int):Int)) h2) h3 (aU h4) (aL h5)) hL
theorem kI(l:Rs)(b:Nat)(h1:l.length≤b):ah l b (vB true) :=
 lD 129 [1] [.a,.q,.f,.q] (y1 (ar h1))
end dq
namespace dw
@[reducible] noncomputable def fn:Func:=Tryz.f11
noncomputable def bf:List eg:=focus [0,2,0,0,2,0,0] [.code (ay fn)]
def inv1(l:List aQ)(GR:Nat):St:=⟨[(5,(.pv (cT aQ.cells l))),(6,(eI (l.length:Int))),(7,(eI (GR:Int)))],[]⟩
@[reducible] noncomputable def ah(l:List aQ)(GR:Nat)(r:PV):Prop:=L bp fn bf (inv1 l GR) r
theorem e0 (l : List aQ) {r : PV}  (hL : ah l 0 r) : Cp 11 [cT aQ.cells l] r :=
 eG Tryz.func11 81 [1] [.q,.h 1 (iI (l.length:Int)),.aH [5,6,7]] (y1 (an aQ.cells l)) hL
theorem l10(l:List aQ)(b:Nat)(v:aQ)(c:Bool)(h1:b<l.length)(h2:l[b]? = some v)(h3:Cp 20 [ae v.p] (vB c))(h4:c=false):ah l b (vB false) :=
 lD 126 [1,3,1,1,1,1,1,1,1,1,1,1,1] [.a,.q,.t,.h 0 (.row b (aQ.cells v)),.aV [.o,.o,(.pv (vB c)),.o,.o,.skip,.skip,.skip,.skip,.skip,.skip,.skip,.skip,.skip,(.dec true)],.a,.q] (Ht (ai h1) (bO aQ.cells (Eq.refl (((b:Nat):Int):Int)) h2) h3 (cf h4) (cf h4) (cf h4) (cf h4) (cf h4) (cf h4) (cf h4) (cf h4) (cf h4) (cf h4))
theorem cV(l:List aQ)(b:Nat)(v:aQ)(c d:Bool)(h1:b<l.length)(h2:l[b]? = some v)(h3:Cp 20 [ae v.p] (vB c))(h4:c=true)(h5:Cp 20 [(ae [v.rV.lo,v.rV.hi])] (vB d))(h6:d=false):ah l b (vB false) :=
 lD 126 [1,3,1,1,1,1,1,1,1,1,3,1,1,1,1,1] [.a,.q,.t,.h 0 (.row b (aQ.cells v)),.aV [.o,.o,(.pv (vB c)),.o,.o,.o,.o,.o,.o,.o,.o,(.iL 0 0 (([v.rV.lo,v.rV.hi]:Rs).map af.cells)),(.pv (vB d)),.o,(.dec false)],.t,.q] (FB (ai h1) (bO aQ.cells (Eq.refl (((b:Nat):Int):Int)) h2) h3 (aU h4) (aU h4) (aU h4) (aU h4) (aU h4) (aU h4) (aU h4) (ki aZ ([v.rV.lo,v.rV.hi]:Rs)) (aU h4) h5 (aU h4) (aU h4) (cf h6))
theorem kI(l:List aQ)(b:Nat)(v:aQ)(c d:Bool){r:PV}(h1:b<l.length)(h2:l[b]? = some v)(h3:Cp 20 [ae v.p] (vB c))(h4:c=true)(h5:Cp 20 [(ae [v.rV.lo,v.rV.hi])] (vB d))(h6:d=true)(h7:(b+1)<9223372036854775808)(hL:ah l (b+1) r):ah l b r :=
 lG 129 [1,3,1,1,1,1,1,1,1,1,3,1,1,1,1,1,1] [.a,.q,.t,.h 0 (.row b (aQ.cells v)),.aV [.o,.o,(.pv (vB c)),.o,.o,.o,.o,.o,.o,.o,.o,(.iL 0 0 (([v.rV.lo,v.rV.hi]:Rs).map af.cells)),(.pv (vB d)),.o,(.dec false)],.f,.h 0 (iI (((b+1):Nat):Int)),.aH [5,6,7],.drop [4]] (Pf (ai h1) (bO aQ.cells (Eq.refl (((b:Nat):Int):Int)) h2) h3 (aU h4) (aU h4) (aU h4) (aU h4) (aU h4) (aU h4) (aU h4) (ki aZ ([v.rV.lo,v.rV.hi]:Rs)) (aU h4) h5 (aU h4) (aU h4) (aU h6) (aL h7)) hL
theorem ta(l:List aQ)(b:Nat)(h1:l.length≤b):ah l b (vB true) :=
 lD 114 [1] [.a,.q,.f,.q] (y1 (ar h1))
end dw
namespace dy
theorem e0(x:af)(a b:UInt32)(h1:x.num.length<2)(h2:x.den.length<2)(h3:x.num.length=0)(h4:x.den.length=0):Cp 74 [x.pv,vW a,vW b] (vB true) :=
 eD Tryz.func74 72 [1,1,1,1,1,1,1,1,1,1,1,1,1,1,1,1,1,1,1,1,1,1,1,1,1,1,1,1,1,1,1,1,1,1,1,1] [.q,.aV [.o,.o,(iI (x.num.length:Int)),.o,.o,.o,.o,(iI (x.den.length:Int)),.o,(.dec true),.o,.o,.o,(iI (x.num.length:Int)),.o,.o,.skip,.skip,.skip,.skip,.skip,.skip,(.dec true),(.dec true),.o,.o,.o,(iI (x.den.length:Int)),.o,.o,.skip,.skip,.skip,.skip,.skip,.skip,(.dec true)]] (XQ (an ag x.num) (ai h1) (ai h1) (ai h1) (an ag x.den) (ai h1) (ai h1) (ai h2) (ai h2) (ai h2) (an ag x.num) (ai h2) (ai h2) (aM h3) (aM h3) (aM h3) (aM h3) (aM h3) (aM h3) (ai h2) (aM h3) (ai h2) (Eq.refl true) (Eq.refl true) (Eq.refl true) (an ag x.den) (Eq.refl true) (Eq.refl true) (aM h4) (aM h4) (aM h4) (aM h4) (aM h4) (aM h4) (Eq.refl true) (aM h4))
theorem e1(x:af)(a b v:UInt32)(h1:x.num.length<2)(h2:x.den.length<2)(h3:x.num.length=0)(h4:x.den.length≠0)(h5:x.den[0]? = some v):Cp 74 [x.pv,vW a,vW b] (vB (decide ((v.toNat:Int)≤(b.toNat:Int)))) :=
 eD Tryz.func74 72 [1,1,1,1,1,1,1,1,1,1,1,1,1,1,1,1,1,1,1,1,1,1,1,1,1,1,1,1,1,1,1,3,1,1,1,1,1] [.q,.aV [.o,.o,(iI (x.num.length:Int)),.o,.o,.o,.o,(iI (x.den.length:Int)),.o,(.dec true),.o,.o,.o,(iI (x.num.length:Int)),.o,.o,.skip,.skip,.skip,.skip,.skip,.skip,(.dec true),(.dec true),.o,.o,.o,(iI (x.den.length:Int)),.o,.o,.o,.o,(.row 0 (ag v)),.o,.o,.o,(.dec false)]] (Wi (an ag x.num) (ai h1) (ai h1) (ai h1) (an ag x.den) (ai h1) (ai h1) (ai h2) (ai h2) (ai h2) (an ag x.num) (ai h2) (ai h2) (aM h3) (aM h3) (aM h3) (aM h3) (aM h3) (aM h3) (ai h2) (aM h3) (ai h2) (Eq.refl true) (Eq.refl true) (Eq.refl true) (an ag x.den) (Eq.refl true) (Eq.refl true) (aB h4) (aB h4) (aB h4) (bO ag (Eq.refl (0:Int)) h5) (aB h4) (aB h4) (aB h4) (Eq.refl true) (aB h4))
theorem e2(x:af)(a b v:UInt32)(h1:x.num.length<2)(h2:x.den.length<2)(h3:x.num.length≠0)(h4:x.num[0]? = some v)(h5:v.toNat≤a.toNat)(h6:x.den.length=0):Cp 74 [x.pv,vW a,vW b] (vB true) :=
 eD Tryz.func74 72 [1,1,1,1,1,1,1,1,1,1,1,1,1,1,1,1,3,1,1,1,1,1,1,1,1,1,1,1,1,1,1,1,1,1,1,1,1,1] [.q,.aV [.o,.o,(iI (x.num.length:Int)),.o,.o,.o,.o,(iI (x.den.length:Int)),.o,(.dec true),.o,.o,.o,(iI (x.num.length:Int)),.o,.o,.o,.o,(.row 0 (ag v)),.o,.o,.o,(.dec false),(.dec true),.o,.o,.o,(iI (x.den.length:Int)),.o,.o,.skip,.skip,.skip,.skip,.skip,.skip,(.dec true),(.dec true)]] (XS (an ag x.num) (ai h1) (ai h1) (ai h1) (an ag x.den) (ai h1) (ai h1) (ai h2) (ai h2) (ai h2) (an ag x.num) (ai h2) (ai h2) (aB h3) (aB h3) (aB h3) (bO ag (Eq.refl (0:Int)) h4) (aB h3) (aB h3) (aB h3) (ai h2) (aB h3) (ai h2) (da h5) (da h5) (da h5) (an ag x.den) (da h5) (da h5) (aM h6) (aM h6) (aM h6) (aM h6) (aM h6) (aM h6) (da h5) (aM h6) (da h5))
theorem e3(x:af)(a b v v1:UInt32)(h1:x.num.length<2)(h2:x.den.length<2)(h3:x.num.length≠0)(h4:x.num[0]? = some v)(h5:v.toNat≤a.toNat)(h6:x.den.length≠0)(h7:x.den[0]? = some v1):Cp 74 [x.pv,vW a,vW b] (vB (decide ((v1.toNat:Int)≤(b.toNat:Int)))) :=
 eD Tryz.func74 72 [1,1,1,1,1,1,1,1,1,1,1,1,1,1,1,1,3,1,1,1,1,1,1,1,1,1,1,1,1,1,1,1,3,1,1,1,1,1,1] [.q,.aV [.o,.o,(iI (x.num.length:Int)),.o,.o,.o,.o,(iI (x.den.length:Int)),.o,(.dec true),.o,.o,.o,(iI (x.num.length:Int)),.o,.o,.o,.o,(.row 0 (ag v)),.o,.o,.o,(.dec false),(.dec true),.o,.o,.o,(iI (x.den.length:Int)),.o,.o,.o,.o,(.row 0 (ag v1)),.o,.o,.o,(.dec false),(.dec true)]] (XT (an ag x.num) (ai h1) (ai h1) (ai h1) (an ag x.den) (ai h1) (ai h1) (ai h2) (ai h2) (ai h2) (an ag x.num) (ai h2) (ai h2) (aB h3) (aB h3) (aB h3) (bO ag (Eq.refl (0:Int)) h4) (aB h3) (aB h3) (aB h3) (ai h2) (aB h3) (ai h2) (da h5) (da h5) (da h5) (an ag x.den) (da h5) (da h5) (aB h6) (aB h6) (aB h6) (bO ag (Eq.refl (0:Int)) h7) (aB h6) (aB h6) (aB h6) (da h5) (aB h6) (da h5))
theorem e4(x:af)(a b v:UInt32)(h1:x.num.length<2)(h2:x.den.length<2)(h3:x.num.length≠0)(h4:x.num[0]? = some v)(h5:a.toNat<v.toNat):Cp 74 [x.pv,vW a,vW b] (vB false) :=
 eD Tryz.func74 72 [1,1,1,1,1,1,1,1,1,1,1,1,1,1,1,1,3,1,1,1,1,1,1,1,1,1,1,1,1,1] [.q,.aV [.o,.o,(iI (x.num.length:Int)),.o,.o,.o,.o,(iI (x.den.length:Int)),.o,(.dec true),.o,.o,.o,(iI (x.num.length:Int)),.o,.o,.o,.o,(.row 0 (ag v)),.o,.o,.o,(.dec false),(.dec true),.o,.skip,.skip,.skip,.skip,.skip,.skip,.skip,.skip,.skip,.skip,.skip,.skip,(.dec false)]] (Um (an ag x.num) (ai h1) (ai h1) (ai h1) (an ag x.den) (ai h1) (ai h1) (ai h2) (ai h2) (ai h2) (an ag x.num) (ai h2) (ai h2) (aB h3) (aB h3) (aB h3) (bO ag (Eq.refl (0:Int)) h4) (aB h3) (aB h3) (aB h3) (ai h2) (aB h3) (ai h2) (bH h5) (bH h5) (bH h5) (bH h5) (bH h5) (bH h5) (bH h5))
theorem e5(x:af)(a b:UInt32)(h1:x.num.length<2)(h2:2≤x.den.length):Cp 74 [x.pv,vW a,vW b] (vB false) :=
 eD Tryz.func74 72 [1,1,1,1,1,1,1,1,1,1,1,1,1,1,1,1,1,1,1,1] [.q,.aV [.o,.o,(iI (x.num.length:Int)),.o,.o,.o,.o,(iI (x.den.length:Int)),.o,(.dec true),.o,.skip,.skip,.skip,.skip,.skip,.skip,.skip,.skip,.skip,.skip,.skip,.skip,(.dec false),.o,.skip,.skip,.skip,.skip,.skip,.skip,.skip,.skip,.skip,.skip,.skip,.skip]] (Uk (an ag x.num) (ai h1) (ai h1) (ai h1) (an ag x.den) (ai h1) (ai h1) (ar h2) (ar h2) (ar h2) (ar h2) (ar h2) (ar h2) (ar h2) (Eq.refl false) (Eq.refl false) (Eq.refl false) (Eq.refl false) (Eq.refl false) (Eq.refl false))
theorem e6(x:af)(a b:UInt32)(h1:2≤x.num.length):Cp 74 [x.pv,vW a,vW b] (vB false) :=
 eD Tryz.func74 72 [1,1,1,1,1,1,1,1,1,1,1,1,1,1,1,1,1,1] [.q,.aV [.o,.o,(iI (x.num.length:Int)),.o,.o,.skip,.skip,.skip,.skip,(.dec false),.o,.skip,.skip,.skip,.skip,.skip,.skip,.skip,.skip,.skip,.skip,.skip,.skip,.o,.o,.skip,.skip,.skip,.skip,.skip,.skip,.skip,.skip,.skip,.skip,.skip,.skip]] (RL (an ag x.num) (ar h1) (ar h1) (ar h1) (ar h1) (ar h1) (Eq.refl false) (Eq.refl false) (Eq.refl false) (Eq.refl false) (Eq.refl false) (Eq.refl false) (Eq.refl false) (Eq.refl false) (Eq.refl false) (Eq.refl false) (Eq.refl false) (Eq.refl false))
end dy
namespace dx
@[reducible] noncomputable def fn:Func:=Tryz.f29
noncomputable def bf:List eg:=focus [0,2,0,0,2,0,0] [.code (ay fn)]
def inv1(l:List aQ)(GR:Nat):St:=⟨[(5,(.pv (cT aQ.cells l))),(6,(eI (l.length:Int))),(7,(eI (GR:Int)))],[]⟩
@[reducible] noncomputable def ah(l:List aQ)(GR:Nat)(r:PV):Prop:=L bp fn bf (inv1 l GR) r
theorem e0 (l : List aQ) {r : PV}  (hL : ah l 0 r) : Cp 29 [cT aQ.cells l] r :=
 eG Tryz.func29 81 [1] [.q,.h 1 (iI (l.length:Int)),.aH [5,6,7]] (y1 (an aQ.cells l)) hL
theorem l10(l:List aQ)(b:Nat)(v:aQ)(c:Bool)(h1:b<l.length)(h2:l[b]? = some v)(h3:Cp 11 [(cT aQ.cells [v])] (vB c))(h4:c=false):ah l b (vB false) :=
 lD 126 [1,3,3,1,1,1,1,1] [.a,.q,.t,.h 0 (.row b (aQ.cells v)),.aV [.o,(.iL 0 0 (([v]:List aQ).map aQ.cells)),(.pv (vB c)),.o,.o,.skip,.skip,.skip,(.dec true)],.a,.q] (y8 (ai h1) (bO aQ.cells (Eq.refl (((b:Nat):Int):Int)) h2) (ki oo ([v]:List aQ)) h3 (cf h4) (cf h4) (cf h4) (cf h4))
theorem cV(l:List aQ)(b:Nat)(v:aQ)(c:Bool)(d:Int)(h1:b<l.length)(h2:l[b]? = some v)(h3:Cp 11 [(cT aQ.cells [v])] (vB c))(h4:c=true)(h5:Cp 24 [v.pv] (vI d))(h6:d≠0):ah l b (vB false) :=
 lD 126 [1,3,3,1,1,1,1,1,1,1] [.a,.q,.t,.h 0 (.row b (aQ.cells v)),.aV [.o,(.iL 0 0 (([v]:List aQ).map aQ.cells)),(.pv (vB c)),.o,.o,.o,(.pv (vI d)),.o,(.dec false)],.t,.q] (FA (ai h1) (bO aQ.cells (Eq.refl (((b:Nat):Int):Int)) h2) (ki oo ([v]:List aQ)) h3 (aU h4) (aU h4) h5 (aU h4) (aU h4) (gB h6))
theorem kI(l:List aQ)(b:Nat)(v:aQ)(c:Bool)(d:Int){r:PV}(h1:b<l.length)(h2:l[b]? = some v)(h3:Cp 11 [(cT aQ.cells [v])] (vB c))(h4:c=true)(h5:Cp 24 [v.pv] (vI d))(h6:d=0)(h7:(b+1)<9223372036854775808)(hL:ah l (b+1) r):ah l b r :=
 lG 129 [1,3,3,1,1,1,1,1,1,1,1] [.a,.q,.t,.h 0 (.row b (aQ.cells v)),.aV [.o,(.iL 0 0 (([v]:List aQ).map aQ.cells)),(.pv (vB c)),.o,.o,.o,(.pv (vI d)),.o,(.dec false)],.f,.h 0 (iI (((b+1):Nat):Int)),.aH [5,6,7],.drop [4]] (BL (ai h1) (bO aQ.cells (Eq.refl (((b:Nat):Int):Int)) h2) (ki oo ([v]:List aQ)) h3 (aU h4) (aU h4) h5 (aU h4) (aU h4) (gk h6) (aL h7)) hL
theorem ta(l:List aQ)(b:Nat)(h1:l.length≤b):ah l b (vB true) :=
 lD 114 [1] [.a,.q,.f,.q] (y1 (ar h1))
end dx
end Go.Proofs.YtllmkadmohkbfaaGreatDoor.Sym.Path
namespace Go.Proofs.YtllmkadmohkbfaaGreatDoor.Sym.Path
open Go
set_option maxRecDepth 20000
set_option linter.unusedVariables false
namespace aO
@[reducible] noncomputable def fn:Func:=Tryz.f6
noncomputable def bf:List eg:=focus [0,2,0,0,2,1,2,0,2,0,2,0,2,0,2,0,2,0,2,0,2,0,0,2,0,0] [.code (ay fn)]
def inv1(cmp Qn Qo Qp Qq LI LJ:Int)(Qr:Nat)(Qs Qt Qu Qv Qw LK LL:Option Int):St:=⟨[(7,(eI cmp)),(9,(eI Qn)),(11,(eI Qo)),(13,(eI Qp)),(15,(eI Qq)),(17,(eI LI)),(19,(eI LJ)),(88,(.row 88 0 7 1)),(89,(eI 7)),(90,(eI (Qr:Int)))],[(88,(.pure (([Qs,Qt,Qu,Qv,Qw,LK,LL]:List (Option Int)).map uZ).flatten))]⟩
@[reducible] noncomputable def ah(cmp Qn Qo Qp Qq LI LJ:Int)(Qr:Nat)(Qs Qt Qu Qv Qw LK LL:Option Int)(r:PV):Prop:=L bp fn bf (inv1 cmp Qn Qo Qp Qq LI LJ Qr Qs Qt Qu Qv Qw LK LL) r
theorem e0(a b c:aQ)(d g:Bool)(h1:Cp 29 [(cT aQ.cells [a,b,c])] (vB d))(h2:d=false)(h3:Cp 12 [] (vB g)):Cp 6 [a.pv,b.pv,c.pv] (vB g) :=
 eD Tryz.func6 84 [3,1,1,1,1,1] [.q,.aV [.o,.o,.o,(.iL 0 0 (([a,b,c]:List aQ).map aQ.cells)),(.pv (vB d)),.o,.o,.skip,.skip,(.dec true)],.a,.h 0 (.pv (vB g))] (y6 (ki oo ([a,b,c]:List aQ)) h1 (cf h2) (cf h2) (cf h2) h3)
theorem e2(a b c:aQ)(d g:Bool)(i:Int)(j:Option Int)(k:Int)(l:Option Int)(m:Int)(n:Option Int)(p:Int)(s:Option Int)(t:Int)(u:Option Int)(v:Int)(w:Option Int)(of:aQ)(x:Int)(y:Option Int){r:PV}(h1:Cp 29 [(cT aQ.cells [a,b,c])] (vB d))(h2:d=true)(h3:Cp 12 [] (vB g))(h4:g=true)(h5:Cp 35 [a.pv,b.pv] (.aE [vI i,bc j]))(h6:Cp 35 [b.pv,a.pv] (.aE [vI k,bc l]))(h7:Cp 35 [b.pv,c.pv] (.aE [vI m,bc n]))(h8:Cp 35 [a.pv,c.pv] (.aE [vI p,bc s]))(h9:Cp 35 [a.pv,a.pv] (.aE [vI t,bc u]))(ec:Cp 30 [a.pv,c.rV.lo.pv] (.aE [vI v,bc w]))(il:Cp 26 [c.rV.lo.pv] of.pv)(mF:Cp 35 [a.pv,of.pv] (.aE [vI x,bc y]))(hL:ah i k m p t v x 0 j l n s u w y r):Cp 6 [a.pv,b.pv,c.pv] r :=
 eG Tryz.func6 138 [3,1,1,1,1,1,1,1,1,1,1,1,1,1,1,1] [.q,.aV [.o,.o,.o,(.iL 0 0 (([a,b,c]:List aQ).map aQ.cells)),(.pv (vB d)),.o,.o,(.pv (vB g)),.o,(.dec false)],.f,.h 2 (.pv (.aE [vI i,bc j])),.h 2 (.pv (.aE [vI k,bc l])),.h 2 (.pv (.aE [vI m,bc n])),.h 2 (.pv (.aE [vI p,bc s])),.h 2 (.pv (.aE [vI t,bc u])),.h 4 (.pv (.aE [vI v,bc w])),dr 10 1 [.none,.none,.none,.none,(.pv of.pv),(.pv (.aE [vI x,bc y]))],.h 7 (.app 7 (([j,l,n,s,u,w,y]:List (Option Int)).map uZ).flatten),.aH [7,9,11,13,15,17,19,88,89,90],.drop [5,4,3]] (FB (ki oo ([a,b,c]:List aQ)) h1 (aU h2) h3 (aU h2) (aU h2) (aU h4) h5 h6 h7 h8 h9 ec il mF (MU [j,l,n,s,u,w,y])) hL
theorem l10(b c d g i j k:Int)(l:Nat)(m n o p s u v:Option Int){r:PV}(h1:l<7)(h2:[m,n,o,p,s,u,v][l]? = some none)(h3:(l+1)<9223372036854775808)(hL:ah b c d g i j k (l+1) m n o p s u v r):ah b c d g i j k l m n o p s u v r :=
 lG 186 [1,2,1,1] [.a,.q,.t,.aV [(.nat l),(.ev (.pv .az))],.q,.a,.h 0 (iI (((l+1):Nat):Int)),.aH [7,9,11,13,15,17,19,88,89,90]] (y4 (ai h1) (cj (Eq.refl (((l:Nat):Int):Int)) h1) (fj (enc:=uZ) (f:=fun a=>(bc a)) (fun _=>rfl) h2) (aL h3)) hL
theorem cV(b c d g i j k:Int)(l:Nat)(m n p s t u v:Option Int)(h1:7≤l)(h2:ax (-c))(h3:b=(-c))(h4:i=0)(h5:j=k)(h6:0<b)(h7:b≠0):ah b c d g i j k l m n p s t u v (vB true) :=
 lD 171 [1,1,1,1,1,1,1,1,1,1,1,1,1,1,1,1,1,1,1,1,1,1,1,1,1,1,1,1,1] [.a,.q,.f,.aV [.o,.o,(iI (-c)),.o,.o,.o,.o,(.dec true),.o,.o,.o,.o,(.dec true),.o,.o,.o,.o,.skip,.skip,(.dec true),.o,.skip,.skip,.o,(.dec true),.o,.o,.o,.o,.skip,.skip,.skip,(.dec true)]] (XO (ar h1) (o4 h2) (aP h3) (aP h3) (aP h3) (aP h4) (aP h4) (aP h4) (aP h4) (aP h5) (aP h5) (aP h5) (bY h6) (bY h6) (aP h5) (bY h6) (aP h5) (Eq.refl true) (Eq.refl true) (aP h5) (aP h5) (Eq.refl true) (Eq.refl true) (Eq.refl true) (gB h7) (gB h7) (gB h7) (Eq.refl true) (gB h7))
theorem ta(b c d g i j k:Int)(l:Nat)(m n p s t u v:Option Int)(h1:7≤l)(h2:ax (-c))(h3:b=(-c))(h4:i=0)(h5:j=k)(h6:b≤0)(h7:0<d)(h8:b≠0):ah b c d g i j k l m n p s t u v (vB true) :=
 lD 171 [1,1,1,1,1,1,1,1,1,1,1,1,1,1,1,1,1,1,1,1,1,1,1,1,1,1,1,1,1,1] [.a,.q,.f,.aV [.o,.o,(iI (-c)),.o,.o,.o,.o,(.dec true),.o,.o,.o,.o,(.dec true),.o,.o,.o,.o,.o,.o,(.dec false),.o,.skip,.skip,(.dec true),(.dec true),.o,.o,.o,.o,.skip,.skip,.skip,(.dec true)]] (Um (ar h1) (o4 h2) (aP h3) (aP h3) (aP h3) (aP h4) (aP h4) (aP h4) (aP h4) (aP h5) (aP h5) (aP h5) (bD h6) (bD h6) (aP h5) (bD h6) (aP h5) (bY h7) (bY h7) (aP h5) (bY h7) (aP h5) (Eq.refl true) (Eq.refl true) (Eq.refl true) (gB h8) (gB h8) (gB h8) (Eq.refl true) (gB h8))
theorem GB(b c d g i j k:Int)(l:Nat)(m n p s t u v:Option Int)(h1:7≤l)(h2:ax (-c))(h3:b=(-c))(h4:i=0)(h5:j=k)(h6:b≤0)(h7:0<d)(h8:b=0):ah b c d g i j k l m n p s t u v (vB (d==g)) :=
 lD 171 [1,1,1,1,1,1,1,1,1,1,1,1,1,1,1,1,1,1,1,1,1,1,1,1,1,1,1,1,1,1] [.a,.q,.f,.aV [.o,.o,(iI (-c)),.o,.o,.o,.o,(.dec true),.o,.o,.o,.o,(.dec true),.o,.o,.o,.o,.o,.o,(.dec false),.o,.skip,.skip,(.dec true),(.dec true),.o,.o,.o,.o,.o,.o,.o,(.dec false)]] (Um (ar h1) (o4 h2) (aP h3) (aP h3) (aP h3) (aP h4) (aP h4) (aP h4) (aP h4) (aP h5) (aP h5) (aP h5) (bD h6) (bD h6) (aP h5) (bD h6) (aP h5) (bY h7) (bY h7) (aP h5) (bY h7) (aP h5) (Eq.refl true) (Eq.refl true) (Eq.refl true) (gk h8) (gk h8) (gk h8) (Eq.refl true) (gk h8))
theorem Vx(b c d g i j k:Int)(l:Nat)(m n p s t u v:Option Int)(h1:7≤l)(h2:ax (-c))(h3:b=(-c))(h4:i=0)(h5:j=k)(h6:b≤0)(h7:d≤0)(h8:g≤0)(h9:b≠0):ah b c d g i j k l m n p s t u v (vB true) :=
 lD 171 [1,1,1,1,1,1,1,1,1,1,1,1,1,1,1,1,1,1,1,1,1,1,1,1,1,1,1,1,1,1,1] [.a,.q,.f,.aV [.o,.o,(iI (-c)),.o,.o,.o,.o,(.dec true),.o,.o,.o,.o,(.dec true),.o,.o,.o,.o,.o,.o,(.dec false),.o,.o,.o,(.dec false),(.dec true),.o,.o,.o,.o,.skip,.skip,.skip,(.dec true),(.dec true)]] (Un (ar h1) (o4 h2) (aP h3) (aP h3) (aP h3) (aP h4) (aP h4) (aP h4) (aP h4) (aP h5) (aP h5) (aP h5) (bD h6) (bD h6) (aP h5) (bD h6) (aP h5) (bD h7) (bD h7) (aP h5) (bD h7) (aP h5) (eH h8) (eH h8) (eH h8) (gB h9) (gB h9) (gB h9) (eH h8) (gB h9) (eH h8))
theorem Vy(b c d g i j k:Int)(l:Nat)(m n p s t u v:Option Int)(h1:7≤l)(h2:ax (-c))(h3:b=(-c))(h4:i=0)(h5:j=k)(h6:b≤0)(h7:d≤0)(h8:g≤0)(h9:b=0):ah b c d g i j k l m n p s t u v (vB (d==g)) :=
 lD 171 [1,1,1,1,1,1,1,1,1,1,1,1,1,1,1,1,1,1,1,1,1,1,1,1,1,1,1,1,1,1,1] [.a,.q,.f,.aV [.o,.o,(iI (-c)),.o,.o,.o,.o,(.dec true),.o,.o,.o,.o,(.dec true),.o,.o,.o,.o,.o,.o,(.dec false),.o,.o,.o,(.dec false),(.dec true),.o,.o,.o,.o,.o,.o,.o,(.dec false),(.dec true)]] (Un (ar h1) (o4 h2) (aP h3) (aP h3) (aP h3) (aP h4) (aP h4) (aP h4) (aP h4) (aP h5) (aP h5) (aP h5) (bD h6) (bD h6) (aP h5) (bD h6) (aP h5) (bD h7) (bD h7) (aP h5) (bD h7) (aP h5) (eH h8) (eH h8) (eH h8) (gk h9) (gk h9) (gk h9) (eH h8) (gk h9) (eH h8))
end aO
end Go.Proofs.YtllmkadmohkbfaaGreatDoor.Sym.Path
